/- The law RetainAll, walked. -/
import Derived.Test.YtfpcgancmgeagaaAllP
import Derived.Test.YtfpcgancmgeagaaRefI
import Derived.Great.Walk
import Derived.Test.YtfpcgancmgeagaaSns
import Derived.Test.YtfpcgancmgeagaaRound
namespace Go.Proofs.Ytfpcgancmgeagaa
open Go.RowKit

theorem pol_one (p : Pol) : p.cells.toArray.all (·.oneCell') = true := by
  rw [Array.all_eq_true_iff_forall_mem]
  intro v hv
  simp only [Pol.cells, List.mem_toArray, List.mem_cons, List.not_mem_nil, or_false] at hv
  rcases hv with rfl | rfl | rfl | rfl | rfl <;> rfl

set_option maxHeartbeats 4000000 in
set_option maxRecDepth 100000 in
theorem retainAll (xs : List Sn) (A : Option Addr) (c : Nat) (day : Int) (hd : In64 day) (w : World) (h : SnsAt w A xs) :
    Calls Try.prog 7 #[.slice A xs.length c, .int .i64 day] w fun e w' => e = .returned (.bool true) ∧ Below w.heap.size w w' := by
  have HS := Lib.hid h
  have HAL := Lib.hid (alive_any w)
  clear h
  by_cases hlen : 30 < xs.length
  · have hz : (30 : Int) < (xs.length : Int) := by omega
    go_enter Try.func7, Try.ntmps7
    go_wp2_with fail
    refine HAL.out.mono ?_
    rintro e w1 ⟨rfl, hb1⟩
    clear HAL
    go_wp2
    go_ret
    exact ⟨rfl, hb1⟩
  · have hz : ¬ (30 : Int) < (xs.length : Int) := by omega
    go_enter Try.func7, Try.ntmps7
    go_wp2_with fail
    refine HAL.out.mono ?_
    rintro e w1 ⟨rfl, hb1⟩
    have HB1 := Lib.hid hb1
    have HS1 := Lib.hid (HS.out.below hb1)
    clear HAL hb1
    have hm2 := bits_mask day 65535 (by decide)
    have hw1 : wrap64 (1 + bits .and .i64 day 65535) = 1 + bits .and .i64 day 65535 := IntWalk.wrap64_in _ ⟨by omega, by omega⟩
    have HM := Lib.hid (And.intro hm2 hw1)
    clear hm2 hw1
    go_wp2_with fail
    rw [HM.out.2]
    obtain ⟨Y, hY⟩ : ∃ Y, 1 + bits .and .i64 day 65535 = Y := ⟨_, rfl⟩
    have HY : Hid (1 ≤ Y ∧ Y ≤ 65536) := by have := HM.out; show _ ∧ _; omega
    rw [hY]
    clear hY HM
    have hi0 : In64 0 := in64_small (by decide)
    have hp0 : (pDays 0 0).ok := ⟨hi0, hi0, hi0, hi0⟩
    have hpL : (pLast xs.length).ok := ⟨in64_small (by show 0 ≤ (xs.length : Int) ∧ (xs.length : Int) ≤ 1000; omega), hi0, hi0, hi0⟩
    refine (gone_any xs A c (pDays 0 0) 1000 hp0 (by omega) w1 HS1.out).mono ?_
    rintro e w2 ⟨v2, rfl, hown2, hb2⟩
    obtain ⟨A2, c2, rfl⟩ := own_len0 hown2
    rw [gone_all xs (by omega)]
    have HB2 := Lib.hid (HB1.out.trans (hb2.mono HB1.out.size))
    have HG2 := Lib.hid (gone_any xs A c (pLast xs.length) 1000 hpL (by omega) w2 (HS1.out.below hb2))
    have HS2 := Lib.hid (HS1.out.below hb2)
    rw [gone_last] at HG2
    clear hown2 hb2 HB1 HS1 hp0 hpL hi0
    go_wp2_with fail
    refine HG2.out.mono ?_
    rintro e w3 ⟨v3, rfl, hown3, hb3⟩
    obtain ⟨A3, c3, rfl⟩ := own_len0 hown3
    have HB3 := Lib.hid (HB2.out.trans (hb3.mono HB2.out.size))
    have HS3 := Lib.hid (HS2.out.below hb3)
    clear hown3 hb3 HB2 HS2 HG2
    by_cases h0 : xs.length = 0
    · have h0z : (xs.length : Int) = 0 := by omega
      go_wp2
      go_ret
      exact ⟨rfl, HB3.out⟩
    · have h0z : ¬ (xs.length : Int) = 0 := by omega
      have HSO := Lib.hid (snap_sort xs A c w3 (by omega) (by omega) HS3.out)
      go_wp2_with fail
      refine HSO.out.mono ?_
      rintro e w4 ⟨g, cap, rest, rfl, hg, hdat, hb4⟩
      have hok := sns_oks HS3.out
      have HOK := Lib.hid hok
      have HL := Lib.hid (hdat.range hok (sortedV_in xs) (i := xs.length - 1) (by rw [sortedV_len]; omega))
      have HB4 := Lib.hid (HB3.out.trans (hb4.mono HB3.out.size))
      have HLI := Lib.hid (lastV_in (ss := xs) (by omega))
      have hokl := snAt_ok hok HLI.out
      have HE := Lib.hid (show (sortedV xs).getD (xs.length - 1) 0 = lastV xs from rfl)
      rw [HE.out] at HL
      clear hok hdat hb4 HSO HB3 HS3 hg HE
      obtain ⟨L, hL⟩ : ∃ L, snAt xs (lastV xs) = L := ⟨_, rfl⟩
      rw [hL] at HL hokl
      have HLL := Lib.hid hL
      have hcl := L.len hokl
      have hsub : wrap64 ((xs.length : Int) - 1) = ((xs.length - 1 : Nat) : Int) := by rw [IntWalk.wrap64_in _ ⟨by omega, by omega⟩]; omega
      have hsub2 : IntKind.i64.wrap ((xs.length : Int) - 1) = ((xs.length - 1 : Nat) : Int) := by rw [IntKind.wrap_i64]; omega
      clear hL
      have hinfo : Try.prog.builtSlice 24 3 [(0, .agg (pLast 1).cells.toArray), (1, .agg (pDays 1 Y).cells.toArray), (2, .agg (pNear 1).cells.toArray)] = some (threeCells Y).toArray := by kernel_rfl
      go_wp2_with (first | (refine wpList_load_mid rfl 42 (.tmp 45) rfl g ((xs.length - 1) * 37) rfl L.cells _ HL.out Try.underlying42 rfl (snap_cells' L hokl) ?_) | (refine wpList_store_row rfl 42 (.tmp 6) (.tmp 46) rfl w4.heap.size L.arr rfl rfl 42 _ (Blk.new _ _ _) (snap_cells L hokl) (by rw [L.size hokl]; rfl) (cells_one L) ?_; intro w5 hm5 hb5; have HM5 := Lib.hid hm5; have HK5 : Hid (Blk w5 w4.heap.size 42 L.cells) := hb5; clear hm5 hb5) | (refine wpList_buildSliceTo rfl 47 24 3 _ rfl w5.heap.size rfl (some 51) rfl Try.underlying47 (threeCells Y).toArray hinfo ?_) | fail)
      have HB5 : Hid (Below w.heap.size w w5) := below_mod (HB4.out.alloc HB4.out.size _) HM5.out HB4.out.size (by have := HB4.out.size; simp; omega)
      have HK6 : Hid (Blk (w5.alloc (.cells (threeCells Y).toArray 24)) w5.heap.size 24 (threeCells Y) ∧ Blk (w5.alloc (.cells (threeCells Y).toArray 24)) w4.heap.size 42 L.cells ∧ Below w.heap.size w (w5.alloc (.cells (threeCells Y).toArray 24))) :=
        ⟨Blk.new _ _ _, HK5.out.alloc _, HB5.out.alloc HB5.out.size _⟩
      clear HB5 HK5 HM5 HL HB4 hinfo hsub hsub2
      go_loopw [53] (fun i wr => ∃ j : Nat, j ≤ 3 ∧ i = .int .i64 j ∧ Hid (Blk wr w5.heap.size 24 (threeCells Y) ∧ Blk wr w4.heap.size 42 L.cells ∧ Below w.heap.size w wr)) (fun i _ => 3 - (intOf i).toNat)
      case atStart => exact ⟨0, by omega, rfl, HK6.out⟩
      case round =>
        obtain ⟨j, hj, rfl, HK⟩ := hrel
        clear HK6
        by_cases hlt : j < 3
        · have hltz : (j : Int) < 3 := by omega
          have hR : wr.rangeAt w5.heap.size (j * 5) ((threeP Y).getD j (pLast 1)).cells := fun i v hv => by rw [HK.out.1.cell]; exact three_at Y j hlt i v hv
          have hpok := three_ok HY.out j hlt
          have HKL := Lib.hid (three_keeps (xs := xs) (by omega) HY.out j hlt)
          generalize (threeP Y).getD j (pLast 1) = p at *
          have HR := Lib.hid hR
          clear hR
          go_wp2_with (first | (refine wpList_load_mid rfl 24 (.tmp 55) rfl w5.heap.size (j * 5) rfl p.cells _ HR.out Try.underlying24 rfl (by kernel_rfl) ?_) | (refine wpList_store_row rfl 24 (.tmp 8) (.tmp 56) rfl wr.heap.size p.cells.toArray rfl rfl 24 _ (Blk.new _ _ _) (by kernel_rfl) rfl (pol_one p) ?_; intro w7 hm7 hb7; have HM7 := Lib.hid hm7; have HK7 : Hid (Blk w7 wr.heap.size 24 p.cells) := hb7; clear hm7 hb7) | (refine wpList_load_row rfl 24 (.tmp 8) rfl _ rfl _ _ _ _ HK7.out Try.underlying24 rfl (by kernel_rfl) ?_) | fail)
          have HB7 : Hid (Below w.heap.size w w7 ∧ Blk w7 w5.heap.size 24 (threeCells Y) ∧ Blk w7 w4.heap.size 42 L.cells) := by
            have ha := (Below.refl wr.heap.size wr).alloc (Nat.le_refl _) (.cells #[.int .i64 0, .int .i64 0, .int .i64 0, .int .i64 0, .string ⟨#[]⟩] 24)
            have hb := below_mod ha HM7.out (Nat.le_refl _) (by simp)
            exact ⟨HK.out.2.2.trans (hb.mono HK.out.2.2.size), HK.out.1.below hb HK.out.1.lt, HK.out.2.1.below hb HK.out.2.1.lt⟩
          have hks := keepL_getD (xs := xs) (p := p) HLI.out.1 HLI.out.2
          have hkl := keepL_length xs p
          have hln : (lastV xs).toNat < xs.length := by have := HLI.out.1; have := HLI.out.2; omega
          have HF : Hid (∀ k : Nat, lastV xs = k → (keepL xs p).getD k true = true ∧ xs.getD k default = L) := by
            intro k e
            have ek : (lastV xs).toNat = k := by omega
            rw [ek, HKL.out] at hks
            refine ⟨by rw [getD_true (by rw [hkl]; omega)]; exact hks, ?_⟩
            rw [← HLL.out, ← ek]
          have HKEEP := Lib.hid (callsIn_wide.1 (keep_any xs A c p hpok w7 (by omega) (HS.out.below HB7.out.1)))
          clear HK HR HM7 HK7 hks
          refine HKEEP.out.mono ?_
          rintro e w8 ⟨rfl, hb8, hk8⟩
          obtain ⟨g1, hg1⟩ : ∃ g1, w7.heap.size + 2 = g1 := ⟨_, rfl⟩
          obtain ⟨ks, hks⟩ : ∃ ks, keepL xs p = ks := ⟨_, rfl⟩
          rw [hg1, hks] at hk8
          rw [hg1]
          rw [hks] at HF hkl
          have HB8 : Hid (Below w.heap.size w w8 ∧ Blk w8 w5.heap.size 24 (threeCells Y) ∧ Blk w8 w4.heap.size 42 L.cells ∧ Blk w8 g1 4 (bools ks)) :=
            ⟨HB7.out.1.trans (hb8.mono HB7.out.1.size), HB7.out.2.1.below hb8 HB7.out.2.1.lt, HB7.out.2.2.below hb8 HB7.out.2.2.lt, hk8⟩
          clear HKEEP HB7 hb8 hk8 hg1 hks HKL
          go_wp2_with fail
          go_loopw [9, 61] (fun v i wq => ∃ (k : Nat) (b : Bool), k ≤ xs.length ∧ v = .bool b ∧ i = .int .i64 k ∧ Hid (Below w8.heap.size w8 wq ∧ (lastV xs < k → b = true))) (fun _ i _ => xs.length - (intOf i).toNat)
          case atStart => exact ⟨0, false, Nat.zero_le _, rfl, by go_num, Below.refl _ _, fun h => absurd h (by have := HLI.out.1; omega)⟩
          case round =>
            obtain ⟨k, b0, hk, rfl, rfl, HQ⟩ := hrel
            by_cases hlk : k < xs.length
            · have hlkz : (k : Int) < (xs.length : Int) := by omega
              have ka := bools_cell (HB8.out.2.2.2.below HQ.out.1 HB8.out.2.2.2.lt) (k := k) (by rw [hkl]; exact hlk)
              obtain ⟨b, o, rfl, hblt, hr, hok⟩ := HS.out k hlk
              have HNX : Hid (lastV xs < ((k + 1 : Nat) : Int) → (b0 || (ks.getD k true && eqSn (xs.getD k default) L)) = true) := by
                intro hl
                by_cases e : lastV xs = k
                · have := HF.out k e
                  rw [this.1, this.2, eqSn_self]
                  simp
                · rw [HQ.out.2 (by omega)]
                  rfl
              have HBQ : Hid (Below w8.heap.size w8 wr.drew) := HQ.out.1.drew
              cases b0
              · cases hbk : ks.getD k true
                · rw [hbk] at ka HNX
                  clear hbk hr HQ
                  go_wp2_with fail
                  refine wp_region_in (fun W' => W' = wr.drew) rfl (by kernel_rfl) (by kernel_rfl) ?_
                  repeat (go_big_quiet_step (fail))
                  refine wpQuiet_nil ?_
                  rintro W6 ⟨⟨_, hW6⟩, rfl⟩
                  obtain rfl := hW6
                  clear ka
                  go_wp2
                  go_roundw
                  case rel => exact ⟨k + 1, _, by omega, rfl, by go_num, HBQ.out, HNX.out⟩
                  case measure => simp [intOf]; omega
                · rw [hbk] at ka HNX
                  have HR : Hid (wr.drew.rangeAt b (o + k * 37) (xs.getD k default).cells) := rangeAt_below hr ((HB8.out.1.trans (HQ.out.1.mono HB8.out.1.size)).drew) hblt
                  have hLk : Blk wr.drew w4.heap.size 42 L.cells := HB8.out.2.2.1.below HBQ.out HB8.out.2.2.1.lt
                  have HLR : Hid (wr.drew.rangeAt w4.heap.size 0 L.cells) := fun j v hv => by rw [hLk.cell]; simpa using hv
                  clear hbk hr HQ hLk
                  generalize xs.getD k default = x at *
                  have heq : ∀ W, (binOp .eql 42 (.agg x.cells.toArray) (.agg L.cells.toArray)).run Try.prog W = .ok (.bool (eqSn x L)) W := fun W => run_eq_snap W x L hok hokl
                  have hgu : Try.prog.eqGuardType Try.prog.depth 42 = false := by kernel_rfl
                  obtain ⟨r, hr⟩ : ∃ r, eqSn x L = r := ⟨_, rfl⟩
                  rw [hr] at HNX heq
                  have hcx := x.len hok
                  go_wp2_with fail
                  refine wp_region_in (fun W' => W' = wr.drew) rfl (by kernel_rfl) (by kernel_rfl) ?_
                  have HR2 : Hid (∀ W, (∃ p : In (fun W' => W' = wr.drew), W = p.world) → W.rangeAt b (o + k * 37) x.cells) := by rintro _ ⟨p, rfl⟩; rw [p.ok]; exact HR.out
                  have HL2 : Hid (∀ W, (∃ p : In (fun W' => W' = wr.drew), W = p.world) → W.rangeAt w4.heap.size 0 L.cells) := by rintro _ ⟨p, rfl⟩; rw [p.ok]; exact HLR.out
                  repeat (first | (refine wpQuiet_load_mid rfl 42 (.tmp 72) rfl b (o + k * 37) rfl x.cells _ HR2.out Try.underlying42 rfl (snap_cells' x hok) ?_; simp only [Act.put, List.setIfInBounds_toArray, List.set_cons_zero, List.set_cons_succ]) | (refine wpQuiet_load_mid rfl 42 (.tmp 6) rfl w4.heap.size 0 rfl L.cells _ HL2.out Try.underlying42 rfl (snap_cells' L hokl) ?_; simp only [Act.put, List.setIfInBounds_toArray, List.set_cons_zero, List.set_cons_succ]) | (go_big_quiet_step (fail)))
                  refine wpQuiet_nil ?_
                  rintro W6 ⟨⟨_, hW6⟩, rfl⟩
                  obtain rfl := hW6
                  clear ka HR2 HL2 HR HLR
                  have HNX2 : Hid (lastV xs < ((k + 1 : Nat) : Int) → r = true) := fun h => by simpa using HNX.out h
                  clear HNX
                  go_wp2
                  go_roundw
                  case rel => exact ⟨k + 1, r, by omega, rfl, by go_num, HBQ.out, HNX2.out⟩
                  case measure => simp [intOf]; omega
              · clear hr HQ HNX
                go_wp2_with fail
                refine wp_region_in (fun W' => W' = wr.drew) rfl (by kernel_rfl) (by kernel_rfl) ?_
                repeat (go_big_quiet_step (fail))
                refine wpQuiet_nil ?_
                rintro W6 ⟨⟨_, hW6⟩, rfl⟩
                obtain rfl := hW6
                clear ka
                go_wp2
                go_roundw
                case rel => exact ⟨k + 1, _, by omega, rfl, by go_num, HBQ.out, fun _ => rfl⟩
                case measure => simp [intOf]; omega
            · obtain rfl : k = xs.length := by omega
              have hlkz : ¬ (xs.length : Int) < (xs.length : Int) := by omega
              obtain rfl := HQ.out.2 HLI.out.2
              have HE : Hid (Blk wr w5.heap.size 24 (threeCells Y) ∧ Blk wr w4.heap.size 42 L.cells ∧ Below w.heap.size w wr) :=
                ⟨HB8.out.2.1.below HQ.out.1 HB8.out.2.1.lt, HB8.out.2.2.1.below HQ.out.1 HB8.out.2.2.1.lt, HB8.out.1.trans (HQ.out.1.mono HB8.out.1.size)⟩
              clear HQ HB8 HF
              go_wp2
              go_roundw
              case rel => exact ⟨j + 1, by omega, by go_num, HE.out⟩
              case measure => simp [intOf]; omega
        · obtain rfl : j = 3 := by omega
          go_wp2
          go_ret
          exact ⟨rfl, HK.out.2.2⟩

end Go.Proofs.Ytfpcgancmgeagaa
