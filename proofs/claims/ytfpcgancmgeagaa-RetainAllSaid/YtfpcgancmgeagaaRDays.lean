/- The law RetainDays, walked. -/
import Derived.Test.YtfpcgancmgeagaaDaysP
import Derived.Test.YtfpcgancmgeagaaOpen
namespace Go.Proofs.Ytfpcgancmgeagaa
open Go.RowKit

theorem bits_mask (x m : Int) (hm : 0 ≤ m ∧ m < 9223372036854775808) : 0 ≤ bits .and .i64 x m ∧ bits .and .i64 x m ≤ m := by
  obtain ⟨M, rfl⟩ : ∃ M : Nat, m = M := ⟨m.toNat, by omega⟩
  have h2 : (BitVec.ofInt 64 (M : Int)).toNat = M := by
    rw [BitVec.ofInt_natCast, BitVec.toNat_ofNat]; exact Nat.mod_eq_of_lt (by omega)
  have hx : (BitVec.ofInt 64 x).toNat &&& M ≤ M := Nat.and_le_right
  have e : bits .and .i64 x (M : Int) = (((BitVec.ofInt 64 x).toNat &&& M : Nat) : Int) := by
    show IntKind.i64.wrap ((BitVec.ofInt 64 x &&& BitVec.ofInt 64 (M : Int)).toNat : Int) = _
    rw [BitVec.toNat_and, h2, IntKind.wrap_i64]
    omega
  rw [e]
  omega

def cnt (ks : List Bool) (k : Nat) : Nat := (ks.take k).countP id
theorem cnt_le (ks : List Bool) (k : Nat) : cnt ks k ≤ k := Nat.le_trans List.countP_le_length (by rw [List.length_take]; exact Nat.min_le_left _ _)
theorem cnt_succ (ks : List Bool) (k : Nat) (h : k < ks.length) : cnt ks (k + 1) = cnt ks k + if ks.getD k true then 1 else 0 := by
  unfold cnt
  rw [List.take_succ_eq_append_getElem h, List.countP_append, List.countP_singleton, List.getD_eq_getElem?_getD, List.getElem?_eq_getElem h]
  rfl
theorem bools_cell {w : World} {g : Nat} {ks : List Bool} {t : TypeId} (h : Blk w g t (bools ks)) {k : Nat} (hk : k < ks.length) : w.cell? ⟨g, k, none⟩ = some (.bool (ks.getD k true)) := by
  rw [h.cell]; unfold bools; rw [List.getElem?_map, List.getD_eq_getElem?_getD, List.getElem?_eq_getElem hk]; rfl

set_option maxHeartbeats 4000000 in
set_option maxRecDepth 100000 in
theorem retainDays (xs : List Sn) (A : Option Addr) (c : Nat) (day n : Int) (hd : In64 day) (hn : In64 n) (w : World) (h : SnsAt w A xs) :
    Calls Try.prog 5 #[.slice A xs.length c, .int .i64 day, .int .i64 n] w fun e w' => e = .returned (.bool true) ∧ Below w.heap.size w w' := by
  have HS := Lib.hid h
  have HAL := Lib.hid (alive_any w)
  clear h
  by_cases hlen : 30 < xs.length
  · have hz : (30 : Int) < (xs.length : Int) := by omega
    go_enter Try.func5, Try.ntmps5
    go_wp2_with fail
    refine HAL.out.mono ?_
    rintro e w1 ⟨rfl, hb1⟩
    clear HAL
    go_wp2
    go_ret
    exact ⟨rfl, hb1⟩
  · have hz : ¬ (30 : Int) < (xs.length : Int) := by omega
    go_enter Try.func5, Try.ntmps5
    go_wp2_with fail
    refine HAL.out.mono ?_
    rintro e w1 ⟨rfl, hb1⟩
    have HB1 := Lib.hid hb1
    clear HAL hb1
    have hm1 := bits_mask n 31 (by decide)
    have hm2 := bits_mask day 1023 (by decide)
    have hw1 : wrap64 (1 + bits .and .i64 day 1023) = 1 + bits .and .i64 day 1023 := IntWalk.wrap64_in _ ⟨by omega, by omega⟩
    have HM := Lib.hid (And.intro hm1 (And.intro hm2 hw1))
    clear hm1 hm2 hw1
    go_wp2_with fail
    rw [HM.out.2.2]
    obtain ⟨N, hN⟩ : ∃ N, bits .and .i64 n 31 = N := ⟨_, rfl⟩
    obtain ⟨Y, hY⟩ : ∃ Y, 1 + bits .and .i64 day 1023 = Y := ⟨_, rfl⟩
    have HNY : Hid (0 ≤ N ∧ N ≤ 31 ∧ 1 ≤ Y ∧ Y ≤ 1024) := by have := HM.out; show _ ∧ _ ∧ _ ∧ _; omega
    have hlen2 : xs.length ≤ 1073741824 := by omega
    have HS1 := Lib.hid (HS.out.below HB1.out)
    rw [hN, hY]
    clear hN hY HM
    refine (days_any xs A c Y ⟨by have := HNY.out; omega, by have := HNY.out; omega⟩ w1 hlen2 HS1.out).mono ?_
    rintro e w2 ⟨v, rfl, hown, hb2⟩
    obtain ⟨G, cap, rfl, hG⟩ := own_any hown
    have HS2 := Lib.hid (HS1.out.below hb2)
    have HB2 := Lib.hid (HB1.out.trans (hb2.mono HB1.out.size))
    have HG := Lib.hid hG
    have hpD : (pDays N Y).ok := ⟨in64_small (by simp [pDays]), ⟨by have := HNY.out; simp [pDays]; omega, by have := HNY.out; simp [pDays]; omega⟩, ⟨by have := HNY.out; simp [pDays]; omega, by have := HNY.out; simp [pDays]; omega⟩, in64_small (by simp [pDays])⟩
    have hpL : (pLast N).ok := ⟨⟨by have := HNY.out; simp [pLast]; omega, by have := HNY.out; simp [pLast]; omega⟩, in64_small (by simp [pLast]), in64_small (by simp [pLast]), in64_small (by simp [pLast])⟩
    have hpN : (pDays 5 0).ok := ⟨in64_small (by simp [pDays]), in64_small (by simp [pDays]), in64_small (by simp [pDays]), in64_small (by simp [pDays])⟩
    have HP := Lib.hid (And.intro hpD (And.intro hpL hpN))
    clear hown hb2 hG hpD hpL hpN HS1 HB1 HS
    go_wp2_with fail
    refine (callsIn_wide.1 (keep_any xs A c (pDays N Y) HP.out.1 w2 hlen2 HS2.out)).mono ?_
    rintro e w3 ⟨rfl, hb3, hk3⟩
    obtain ⟨g1, hg1⟩ : ∃ g1, w2.heap.size + 2 = g1 := ⟨_, rfl⟩
    rw [hg1] at hk3 ⊢
    have HS3 := Lib.hid (HS2.out.below hb3)
    have HK3 := Lib.hid hk3
    have HB3 := Lib.hid (HB2.out.trans (hb3.mono HB2.out.size))
    have HG3 : Hid (0 < (daysL xs Y).length → ∃ g rest, G = some ⟨g, 0, none⟩ ∧ Dat w3 g 2 rest (daysL xs Y)) := fun h0 => by
      obtain ⟨g, rest, h1, _, h3⟩ := HG.out h0
      exact ⟨g, rest, h1, (h3 : Blk _ _ _ _).below hb3 (h3 : Blk _ _ _ _).lt⟩
    clear hb3 hk3 hg1 HB2 HS2 HG
    go_wp2_with fail
    refine (callsIn_wide.1 (keep_any xs A c (pLast N) HP.out.2.1 w3 hlen2 HS3.out)).mono ?_
    rintro e w4 ⟨rfl, hb4, hk4⟩
    obtain ⟨g2, hg2⟩ : ∃ g2, w3.heap.size + 2 = g2 := ⟨_, rfl⟩
    rw [hg2] at hk4 ⊢
    have HS4 := Lib.hid (HS3.out.below hb4)
    have HK4 := Lib.hid (And.intro (HK3.out.below hb4 HK3.out.lt) hk4)
    have HB4 := Lib.hid (HB3.out.trans (hb4.mono HB3.out.size))
    have HG4 : Hid (0 < (daysL xs Y).length → ∃ g rest, G = some ⟨g, 0, none⟩ ∧ Dat w4 g 2 rest (daysL xs Y)) := fun h0 => by
      obtain ⟨g, rest, h1, h3⟩ := HG3.out h0
      exact ⟨g, rest, h1, (h3 : Blk _ _ _ _).below hb4 (h3 : Blk _ _ _ _).lt⟩
    clear hb4 hk4 hg2 HB3 HS3 HG3 HK3
    have HX : Hid ((cnt (keepL xs (pDays N Y)) xs.length : Int) = min N ((daysL xs Y).length : Int) ∧ (cnt (keepL xs (pLast N)) xs.length : Int) = min N (xs.length : Int)) := by
      have h1 := count_keep_days xs N Y HNY.out.1 HNY.out.2.2.1
      have h2 := count_keep_last xs N HNY.out.1
      have l1 := keepL_length xs (pDays N Y)
      have l2 := keepL_length xs (pLast N)
      unfold cnt
      rw [List.take_of_length_le (by omega), List.take_of_length_le (by omega), h1, h2]
      have := HNY.out
      constructor <;> omega
    have hl1 := keepL_length xs (pDays N Y)
    have hl2 := keepL_length xs (pLast N)
    have HDL := Lib.hid (daysL_le xs Y)
    have HDS := Lib.hid (daysL_strict xs Y)
    generalize keepL xs (pDays N Y) = ka at *
    generalize keepL xs (pLast N) = kb at *
    generalize daysL xs Y = D at *
    go_wp2_with fail
    go_loop [10, 11, 42] (fun x y i => ∃ k : Nat, k ≤ xs.length ∧ i = .int .i64 k ∧ x = .int .i64 (cnt ka k : Nat) ∧ y = .int .i64 (cnt kb k : Nat)) (fun _ _ i => xs.length - (intOf i).toNat)
    case atStart => exact ⟨0, Nat.zero_le _, by go_num, by simp [cnt], by simp [cnt]⟩
    case round =>
      obtain ⟨k, hk, rfl, rfl, rfl⟩ := hrel
      by_cases hlt : k < xs.length
      · have hltz : (k : Int) < (xs.length : Int) := by omega
        have c1 := bools_cell HK4.out.1 (k := k) (by omega)
        have c2 := bools_cell HK4.out.2 (k := k) (by omega)
        have HC := Lib.hid (And.intro (cnt_succ ka k (by omega)) (cnt_succ kb k (by omega)))
        have n1 := cnt_le ka k
        have n2 := cnt_le kb k
        cases hb1 : ka.getD k true <;> cases hb2 : kb.getD k true <;> rw [hb1] at c1 HC <;> rw [hb2] at c2 HC <;> clear hb1 hb2
        · go_wp2
          go_round
          case rel => exact ⟨k + 1, by omega, by go_num, by rw [HC.out.1]; go_num, by rw [HC.out.2]; go_num⟩
          case measure => simp [intOf]; omega
        · go_wp2
          go_round
          case rel => exact ⟨k + 1, by omega, by go_num, by rw [HC.out.1]; go_num, by rw [HC.out.2]; go_num⟩
          case measure => simp [intOf]; omega
        · go_wp2
          go_round
          case rel => exact ⟨k + 1, by omega, by go_num, by rw [HC.out.1]; go_num, by rw [HC.out.2]; go_num⟩
          case measure => simp [intOf]; omega
        · go_wp2
          go_round
          case rel => exact ⟨k + 1, by omega, by go_num, by rw [HC.out.1]; go_num, by rw [HC.out.2]; go_num⟩
          case measure => simp [intOf]; omega
      · obtain rfl : k = xs.length := by omega
        have hltz : ¬ (xs.length : Int) < (xs.length : Int) := by omega
        have HXX := HX.out
        have X1 := Lib.hid HXX.1
        have X2 := Lib.hid HXX.2
        generalize ((cnt ka xs.length : Nat) : Int) = CA at *
        generalize ((cnt kb xs.length : Nat) : Int) = CB at *
        clear HXX HX HK4 hl1 hl2
        go_wp2_with fail
        go_loop [60] (fun i => ∃ k : Nat, k ≤ D.length ∧ i = .int .i64 k) (fun i => D.length - (intOf i).toNat)
        case atStart => exact ⟨0, Nat.zero_le _, by go_num⟩
        case round =>
          obtain ⟨k, hk, rfl⟩ := hrel
          by_cases hlt : k < D.length
          · have hltz : (k : Int) < (D.length : Int) := by omega
            obtain ⟨g, rest, rfl, hdat⟩ := HG4.out (by omega)
            have c1 := dat_cell hdat (j := k) hlt
            have hdl := HDL.out
            cases k with
            | zero =>
              have hpos : ¬ (0 : Int) < ((0 : Nat) : Int) := by omega
              clear hdat
              go_wp2
              go_round
              case rel => exact ⟨0 + 1, by omega, by go_num⟩
              case measure => simp [intOf]; omega
            | succ k =>
              have hpos : (0 : Int) < (k : Int) + 1 := by omega
              have c2 := dat_cell hdat (j := k) (by omega)
              have hgt : D.getD (k + 1) 0 < D.getD k 0 := by
                have := List.pairwise_iff_getElem.1 HDS.out k (k + 1) (by omega) hlt (by omega)
                rw [List.getD_eq_getElem?_getD, List.getD_eq_getElem?_getD, List.getElem?_eq_getElem hlt, List.getElem?_eq_getElem (by omega)]
                exact this
              clear hdat
              generalize D.getD (k + 1) 0 = d1 at *
              generalize D.getD k 0 = d0 at *
              go_wp2
              go_round
              case rel => exact ⟨k + 1 + 1, by omega, by go_num⟩
              case measure => simp [intOf]; omega
          · obtain rfl : k = D.length := by omega
            have hltz : ¬ (D.length : Int) < (D.length : Int) := by omega
            clear HG4
            go_wp2_with fail
            refine (callsIn_wide.1 (keep_any xs A c (pDays 5 0) HP.out.2.2 w4 hlen2 HS4.out)).mono ?_
            rintro e w5 ⟨rfl, hb5, hk5⟩
            rw [keep_none] at hk5
            obtain ⟨g3, hg3⟩ : ∃ g3, w4.heap.size + 2 = g3 := ⟨_, rfl⟩
            rw [hg3] at hk5 ⊢
            have HS5 := Lib.hid (HS4.out.below hb5)
            have HK5 := Lib.hid hk5
            have HB5 := Lib.hid (HB4.out.trans (hb5.mono HB4.out.size))
            clear hb5 hk5 hg3 HS4 HB4
            go_wp2_with fail
            go_loop [82] (fun i => ∃ k : Nat, k ≤ xs.length ∧ i = .int .i64 k) (fun i => xs.length - (intOf i).toNat)
            case atStart => exact ⟨0, Nat.zero_le _, by go_num⟩
            case round =>
              obtain ⟨k, hk, rfl⟩ := hrel
              by_cases hlt : k < xs.length
              · have hltz : (k : Int) < (xs.length : Int) := by omega
                have c1 := bools_cell HK5.out (k := k) (by simpa using hlt)
                rw [List.getD_eq_getElem?_getD, List.getElem?_replicate, if_pos hlt] at c1
                simp only [Option.getD_some] at c1
                go_wp2
                go_round
                case rel => exact ⟨k + 1, by omega, by go_num⟩
                case measure => simp [intOf]; omega
              · obtain rfl : k = xs.length := by omega
                have hltz : ¬ (xs.length : Int) < (xs.length : Int) := by omega
                have b1 : (CA == min N (D.length : Int)) = true := by rw [beq_iff_eq]; exact X1.out
                have b2 : (CB == min N (xs.length : Int)) = true := by rw [beq_iff_eq]; exact X2.out
                clear HK5
                go_wp2_with fail
                refine (days_none A xs.length c 0 (by omega) w5).mono ?_
                rintro e w6 ⟨rfl, rfl⟩
                go_wp2
                go_ret
                exact ⟨rfl, HB5.out⟩

end Go.Proofs.Ytfpcgancmgeagaa
