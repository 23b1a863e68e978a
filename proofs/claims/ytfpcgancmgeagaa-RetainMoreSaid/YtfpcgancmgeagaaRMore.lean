/- The law RetainMore, walked. -/
import Derived.Test.YtfpcgancmgeagaaMoreW
import Derived.BigRegion
import Derived.Deep.RegionWith
namespace Go.Proofs.Ytfpcgancmgeagaa
open Go.RowKit

set_option maxHeartbeats 4000000 in
set_option maxRecDepth 100000 in
theorem retainMore (xs : List Sn) (A : Option Addr) (c : Nat) (p : Pol) (last days : Int) (hp : p.ok) (w : World) (h : SnsAt w A xs) :
    Calls Try.prog 4 #[.slice A xs.length c, .agg p.cells.toArray, .int .i64 last, .int .i64 days] w fun e w' => e = .returned (.bool true) ∧ Below w.heap.size w w' := by
  have HS := Lib.hid h
  obtain ⟨w0, hw0⟩ : ∃ w0, w.alloc (.cells p.cells.toArray 24) = w0 := ⟨_, rfl⟩
  have HAL := Lib.hid (alive_any w0)
  have HB0 : Hid (Below w.heap.size w w0 ∧ Blk w0 w.heap.size 24 p.cells ∧ w0.heap.size = w.heap.size + 1) := by rw [← hw0]; exact ⟨(Below.refl _ _).alloc (Nat.le_refl _) _, Blk.new _ _ _, by simp⟩
  have HW0 := Lib.hid hw0
  clear h hw0
  simp only [Pol.cells] at HW0 ⊢
  by_cases hlen : 30 < xs.length
  · have hz : (30 : Int) < (xs.length : Int) := by omega
    go_enter Try.func4, Try.ntmps4
    go_wp2_with fail
    rw [HW0.out]
    refine HAL.out.mono ?_
    rintro e w1 ⟨rfl, hb1⟩
    have HF := Lib.hid (HB0.out.1.trans (hb1.mono HB0.out.1.size))
    clear HAL hb1
    go_wp2
    go_ret
    exact ⟨rfl, HF.out⟩
  · have hz : ¬ (30 : Int) < (xs.length : Int) := by omega
    go_enter Try.func4, Try.ntmps4
    go_wp2_with fail
    rw [HW0.out]
    refine HAL.out.mono ?_
    rintro e w1 ⟨rfl, hb1⟩
    have hk := HB0.out.2.1.below hb1 HB0.out.2.1.lt
    have c0 := hk.cell 0
    have c1 := hk.cell 1
    have f0 := hk.frozen 0
    have f1 := hk.frozen 1
    simp only [Pol.cells, List.getElem?_cons_zero, List.getElem?_cons_succ] at c0 c1
    have hk2 : Blk ((w1.setCell ⟨w.heap.size, 0, none⟩ (.int .i64 (bits .and .i64 p.last 63))).setCell ⟨w.heap.size, 1, none⟩ (.int .i64 (bits .and .i64 p.days 63))) w.heap.size 24 ({ p with last := bits .and .i64 p.last 63, days := bits .and .i64 p.days 63 } : Pol).cells := (hk.set_ 0 _).set_ 1 _
    simp only [Pol.cells] at hk2
    have HK := Lib.hid hk2
    have HB1 := Lib.hid (HB0.out.1.trans (hb1.mono HB0.out.1.size))
    have HBW1 := Lib.hid hb1
    clear HAL hb1 hk hk2
    go_wp2_with (first | (refine wpList_load_row rfl 24 (.tmp 5) rfl _ rfl _ _ _ _ HK.out Try.underlying24 rfl (by kernel_rfl) ?_) | fail)
    obtain ⟨X, hX⟩ : ∃ X, (((w1.setCell ⟨w.heap.size, 0, none⟩ (.int .i64 (bits .and .i64 p.last 63))).setCell ⟨w.heap.size, 1, none⟩ (.int .i64 (bits .and .i64 p.days 63))).alloc (.cells #[.int .i64 (bits .and .i64 p.last 63), .int .i64 (bits .and .i64 p.days 63), .int .i64 p.day, .int .i64 p.within, .string p.tag] 24)) = X := ⟨_, rfl⟩
    rw [hX]
    have x1 : Blk X w.heap.size 24 [.int .i64 (bits .and .i64 p.last 63), .int .i64 (bits .and .i64 p.days 63), .int .i64 p.day, .int .i64 p.within, .string p.tag] := by rw [← hX]; exact (HK.out : Blk _ _ _ _).alloc _
    have x2 : Blk X w1.heap.size 24 [.int .i64 (bits .and .i64 p.last 63), .int .i64 (bits .and .i64 p.days 63), .int .i64 p.day, .int .i64 p.within, .string p.tag] := by
      have := Blk.new ((w1.setCell ⟨w.heap.size, 0, none⟩ (.int .i64 (bits .and .i64 p.last 63))).setCell ⟨w.heap.size, 1, none⟩ (.int .i64 (bits .and .i64 p.days 63))) 24 [.int .i64 (bits .and .i64 p.last 63), .int .i64 (bits .and .i64 p.days 63), .int .i64 p.day, .int .i64 p.within, .string p.tag]
      rw [← hX]
      simpa using this
    have hbX : Below w.heap.size w X := by
      rw [← hX]
      exact (((HB1.out.setCell (p := ⟨w.heap.size, 0, none⟩) (Nat.le_refl _) _).setCell (p := ⟨w.heap.size, 1, none⟩) (Nat.le_refl _) _).alloc (by have := HB1.out.size; simp; omega) _)
    have HX := Lib.hid (And.intro x1 (And.intro x2 hbX))
    have d0 := x1.cell 0
    have d1 := x1.cell 1
    have e0 := x2.cell 0
    have e1 := x2.cell 1
    have g0 := x2.frozen 0
    have g1 := x2.frozen 1
    simp only [List.getElem?_cons_zero, List.getElem?_cons_succ] at d0 d1 e0 e1
    clear x1 x2 hbX hX HK HB1 c0 c1 f0 f1
    go_region
    have hm0 := bits_mask p.last 63 (by decide)
    have hm1 := bits_mask p.days 63 (by decide)
    have hm2 := bits_mask last 63 (by decide)
    have hm3 := bits_mask days 63 (by decide)
    have hq0 : wrap64 (bits .and .i64 p.last 63 + bits .and .i64 last 63) = bits .and .i64 p.last 63 + bits .and .i64 last 63 := IntWalk.wrap64_in _ ⟨by omega, by omega⟩
    have hq1 : wrap64 (bits .and .i64 p.days 63 + bits .and .i64 days 63) = bits .and .i64 p.days 63 + bits .and .i64 days 63 := IntWalk.wrap64_in _ ⟨by omega, by omega⟩
    rw [hq0, hq1]
    clear hq0 hq1
    obtain ⟨L0, hL0⟩ : ∃ L0, bits .and .i64 p.last 63 = L0 := ⟨_, rfl⟩
    obtain ⟨D0, hD0⟩ : ∃ D0, bits .and .i64 p.days 63 = D0 := ⟨_, rfl⟩
    obtain ⟨L1, hL1⟩ : ∃ L1, L0 + bits .and .i64 last 63 = L1 := ⟨_, rfl⟩
    obtain ⟨D1, hD1⟩ : ∃ D1, D0 + bits .and .i64 days 63 = D1 := ⟨_, rfl⟩
    rw [hL0, hD0, hL1, hD1]
    rw [hL0, hD0] at HX
    have HN : Hid (0 ≤ L0 ∧ L0 ≤ 63 ∧ 0 ≤ D0 ∧ D0 ≤ 63 ∧ L0 ≤ L1 ∧ L1 ≤ 126 ∧ D0 ≤ D1 ∧ D1 ≤ 126) := by show _ ∧ _ ∧ _ ∧ _ ∧ _ ∧ _ ∧ _ ∧ _; omega
    clear hm0 hm1 hm2 hm3 hL1 hD1 d0 d1 e0 e1 g0 g1
    obtain ⟨Z, hZ⟩ : ∃ Z, ((X.setCell ⟨w1.heap.size, 0, none⟩ (.int .i64 L1)).setCell ⟨w1.heap.size, 1, none⟩ (.int .i64 D1)).drew = Z := ⟨_, rfl⟩
    rw [hZ]
    have hne : w.heap.size ≠ w1.heap.size := by have := HX.out.1.lt; have := HX.out.2.1; intro e; have h1 := HB0.out.2.2; have h2 := HBW1.out.size; omega
    have y1 : Blk Z w.heap.size 24 [.int .i64 L0, .int .i64 D0, .int .i64 p.day, .int .i64 p.within, .string p.tag] := by
      rw [← hZ]; exact ((HX.out.1.far (p := ⟨w1.heap.size, 0, none⟩) hne _).far (p := ⟨w1.heap.size, 1, none⟩) hne _).drew
    have y2 : Blk Z w1.heap.size 24 [.int .i64 L1, .int .i64 D1, .int .i64 p.day, .int .i64 p.within, .string p.tag] := by
      rw [← hZ]; exact ((HX.out.2.1.set_ 0 (.int .i64 L1)).set_ 1 (.int .i64 D1)).drew
    have hbZ : Below w.heap.size w Z := by
      rw [← hZ]
      have : w.heap.size ≤ w1.heap.size := by have h1 := HB0.out.2.2; have h2 := HBW1.out.size; omega
      exact ((HX.out.2.2.setCell (p := ⟨w1.heap.size, 0, none⟩) this _).setCell (p := ⟨w1.heap.size, 1, none⟩) this _).drew
    have HY := Lib.hid (And.intro y1 (And.intro y2 hbZ))
    have HSZ := Lib.hid (HS.out.below hbZ)
    have ok0 : ({ p with last := L0, days := D0 } : Pol).ok := ⟨⟨by have := HN.out; show _ ≤ L0; omega, by have := HN.out; show L0 ≤ _; omega⟩, ⟨by have := HN.out; show _ ≤ D0; omega, by have := HN.out; show D0 ≤ _; omega⟩, hp.2.2.1, hp.2.2.2⟩
    have HOK := Lib.hid ok0
    have ok1 : ({ p with last := L1, days := D1 } : Pol).ok := ⟨⟨by have := HN.out; show _ ≤ L1; omega, by have := HN.out; show L1 ≤ _; omega⟩, ⟨by have := HN.out; show _ ≤ D1; omega, by have := HN.out; show D1 ≤ _; omega⟩, hp.2.2.1, hp.2.2.2⟩
    have HC0 : Hid (∀ W, Below Z.heap.size Z W → Calls Try.prog 13 #[.slice A xs.length c, .agg #[.int .i64 L0, .int .i64 D0, .int .i64 p.day, .int .i64 p.within, .string p.tag]] W fun e w' => e = .returned (.slice (some ⟨W.heap.size + 2, 0, none⟩) xs.length xs.length) ∧ Below W.heap.size W w' ∧ Blk w' (W.heap.size + 2) 4 (bools (keepL xs { p with last := L0, days := D0 }))) := fun W hW =>
      callsIn_wide.1 (keep_any xs A c { p with last := L0, days := D0 } ok0 W (by omega) (HSZ.out.below hW))
    have HC1 : Hid (∀ W, Below Z.heap.size Z W → Calls Try.prog 13 #[.slice A xs.length c, .agg #[.int .i64 L1, .int .i64 D1, .int .i64 p.day, .int .i64 p.within, .string p.tag]] W fun e w' => e = .returned (.slice (some ⟨W.heap.size + 2, 0, none⟩) xs.length xs.length) ∧ Below W.heap.size W w' ∧ Blk w' (W.heap.size + 2) 4 (bools (keepL xs { p with last := L1, days := D1 }))) := fun W hW =>
      callsIn_wide.1 (keep_any xs A c { p with last := L1, days := D1 } ok1 W (by omega) (HSZ.out.below hW))
    have a0 := y1.cell 0
    have a1 := y1.cell 1
    have a2 := y1.cell 2
    have a3 := y1.cell 3
    have a4 := y1.cell 4
    have b0 := y2.cell 0
    have b1 := y2.cell 1
    have b2 := y2.cell 2
    have b3 := y2.cell 3
    have b4 := y2.cell 4
    simp only [List.getElem?_cons_zero, List.getElem?_cons_succ] at a0 a1 a2 a3 a4 b0 b1 b2 b3 b4
    clear y1 y2 hbZ hZ HX ok0 ok1 hL0 hD0 hne HW0 HS HB0 HBW1 hp
    go_wp2_with fail
    go_region_with (first
      | (go_at_call_of 13 L0; refine (HC0.out _ ?_).mono ?_; exact (Below.refl _ _).drew; rintro e w3 ⟨rfl, hb3, hk3⟩; have hbn : Below Z.heap.size Z w3 := (Below.refl _ Z).drew.trans hb3; have B0 : w3.cell? ⟨w1.heap.size, 0, none⟩ = some (.int .i64 L1) := (HY.out.2.1.below hbn HY.out.2.1.lt).cell 0; have B1 : w3.cell? ⟨w1.heap.size, 1, none⟩ = some (.int .i64 D1) := (HY.out.2.1.below hbn HY.out.2.1.lt).cell 1; have B2 : w3.cell? ⟨w1.heap.size, 2, none⟩ = some (.int .i64 p.day) := (HY.out.2.1.below hbn HY.out.2.1.lt).cell 2; have B3 : w3.cell? ⟨w1.heap.size, 3, none⟩ = some (.int .i64 p.within) := (HY.out.2.1.below hbn HY.out.2.1.lt).cell 3; have B4 : w3.cell? ⟨w1.heap.size, 4, none⟩ = some (.string p.tag) := (HY.out.2.1.below hbn HY.out.2.1.lt).cell 4; have HB3 := Lib.hid hbn; have HK3 := Lib.hid hk3; clear hb3 hk3 hbn)
      | (go_at_call_of 13 L1; refine (HC1.out _ ?_).mono ?_; exact HB3.out; rintro e w4 ⟨rfl, hb4, hk4⟩; have HB4 := Lib.hid hb4; have HK4 := Lib.hid hk4; clear hb4 hk4))
    all_goals
      have HZ4 : Hid (Below Z.heap.size Z w4) := HB3.out.trans (HB4.out.mono HB3.out.size)
      have HS4 := Lib.hid (HSZ.out.below HZ4.out)
      have hk3 : Blk w4 (Z.heap.size + 2) 4 _ := HK3.out.below HB4.out HK3.out.lt
      have hk4 := HK4.out
      obtain ⟨g1, hg1⟩ : ∃ g1, Z.heap.size + 2 = g1 := ⟨_, rfl⟩
      obtain ⟨g2, hg2⟩ : ∃ g2, w3.heap.size + 2 = g2 := ⟨_, rfl⟩
      rw [hg1] at hk3
      rw [hg2] at hk4
      have HG := Lib.hid (And.intro hg1 hg2)
      go_wp2_with fail
      have hmono : ∀ k, k < xs.length → (keepL xs { p with last := L0, days := D0 }).getD k true = true → (keepL xs { p with last := L1, days := D1 }).getD k true = true := fun k hk h => by
        rw [getD_true (by rw [keepL_length]; exact hk)] at h ⊢
        have e1 := keepL_getD (xs := xs) (p := { p with last := L0, days := D0 }) (i := (k : Int)) (by omega) (by omega)
        have e2 := keepL_getD (xs := xs) (p := { p with last := L1, days := D1 }) (i := (k : Int)) (by omega) (by omega)
        rw [Int.toNat_natCast] at e1 e2
        rw [e1] at h
        rw [e2]
        exact keepB_mono xs { p with last := L0, days := D0 } _ _ HN.out.2.2.2.2.1 HN.out.2.2.2.2.2.2.1 rfl rfl rfl h
      have HM := Lib.hid hmono
      have hka := Lib.hid hk3
      have hkb := Lib.hid hk4
      obtain ⟨ks, hks⟩ : ∃ ks, keepL xs { p with last := L0, days := D0 } = ks := ⟨_, rfl⟩
      obtain ⟨kt, hkt⟩ : ∃ kt, keepL xs { p with last := L1, days := D1 } = kt := ⟨_, rfl⟩
      have hls : ks.length = xs.length := by rw [← hks]; exact keepL_length _ _
      have hlt' : kt.length = xs.length := by rw [← hkt]; exact keepL_length _ _
      rw [hks] at hka HM
      rw [hkt] at hkb HM
      have HKS := Lib.hid (And.intro hks (And.intro hls hlt'))
      clear hk3 hk4 hg1 hg2 hmono hks hkt hls hlt' HK3 HK4 HC0 HC1 B0 B1 B2 B3 B4 a0 a1 a2 a3 a4 b0 b1 b2 b3 b4 HG HB3 HB4 HSZ
      obtain ⟨z, hinfo, hzz⟩ := A_info_snap
      obtain ⟨i0, hi, hz0, hz1, hz2⟩ := info_parts hinfo
      clear hinfo
      go_loopw [12, 13, 51] (fun v u i wr => ∃ k : Nat, k ≤ xs.length ∧ i = .int .i64 k ∧ Hid (Two w4 (leftTo xs ks k) (xs.reverse.take k) v u wr)) (fun _ _ i _ => xs.length - (intOf i).toNat)
      case atStart => exact ⟨0, Nat.zero_le _, by go_num, two_start w4 _ rfl⟩
      case round =>
        obtain ⟨k, hk, rfl, HK⟩ := hrel
        by_cases hlt : k < xs.length
        · have hltz : (k : Int) < (xs.length : Int) := by omega
          have ka := bools_cell (hka.out.below HK.out.below hka.out.lt) (k := k) (by rw [HKS.out.2.1]; exact hlt)
          have kb := bools_cell (hkb.out.below HK.out.below hkb.out.lt) (k := k) (by rw [HKS.out.2.2]; exact hlt)
          have HLS := Lib.hid (leftTo_succ xs ks k)
          have HRT := Lib.hid (rev_take xs k hlt)
          obtain ⟨b2, o2, e2, hblt2, hr2, hok2⟩ := HS4.out (xs.length - 1 - k) (by omega)
          obtain ⟨b, o, rfl, hblt, hr, hok⟩ := HS4.out k hlt
          obtain ⟨rfl, rfl⟩ : b = b2 ∧ o = o2 := by simpa using e2
          have HR : Hid (wr.rangeAt b (o + k * 37) (xs.getD k default).cells) := rangeAt_below hr HK.out.below hblt
          have HR2 : Hid (wr.rangeAt b (o + (xs.length - 1 - k) * 37) (xs.getD (xs.length - 1 - k) default).cells) := rangeAt_below hr2 HK.out.below hblt
          have hsn : snAt xs (k : Int) = xs.getD k default := by unfold snAt; rw [Int.toNat_natCast]
          rw [hsn] at HLS
          clear hr hr2 e2 hsn
          generalize xs.getD (xs.length - 1 - k) default = y at *
          generalize xs.getD k default = x at *
          have hcl := x.len hok
          have hcl2 := y.len hok2
          cases hb : ks.getD k true
          · rw [hb] at ka HLS
            clear kb hb
            go_wp2_with (first | (refine wpList_load_mid rfl 42 (.tmp 83) rfl b (o + (xs.length - 1 - k) * 37) rfl y.cells _ HR2.out Try.underlying42 rfl (snap_cells' y hok2) ?_) | (refine wpList_build_one rfl 22 42 (.tmp 84) rfl y.arr rfl i0 z 37 Try.underlying22 hi hz0 hz1 (y.size hok2) (by decide) (by decide) ?_) | (refine wpList_append_own_at _ rfl (.tmp 76) (.tmp 85) 22 rfl w4.heap.size 42 i0 z 37 88 Try.underlying22 hi hz0 hz1 hz2 hzz (by decide) _ _ _ rfl (HK.out.back.alloc _) ⟨_, 0, none⟩ 1 1 y.cells rfl (by rw [hcl2]) (cells_new _ _ _) (cells_ok _) (by unfold maxLen; simp; omega) (by simp; omega) (by have := HK.out.below.size; simp at this ⊢; omega) ?_) | fail)
            intro u' w5 hown' hgrow _ hat
            have HN5 : Hid (Two w4 (leftTo xs ks (k + 1)) (xs.reverse.take (k + 1)) u12 u' w5) := by
              rw [show leftTo xs ks (k + 1) = leftTo xs ks k by rw [HLS.out]; simp, HRT.out]
              exact HK.out.stepB y (by simp; omega) hown' hgrow hat
            clear hown' hgrow hat HK HR HR2 HLS HRT ka
            go_wp2
            go_roundw
            case rel => exact ⟨k + 1, by omega, by go_num, HN5⟩
            case measure => simp [intOf]; omega
          · rw [HM.out k hlt hb] at kb
            rw [hb] at ka HLS
            clear hb
            go_wp2_with (first | (refine wpList_load_mid rfl 42 (.tmp 72) rfl b (o + k * 37) rfl x.cells _ HR.out Try.underlying42 rfl (snap_cells' x hok) ?_) | (refine wpList_build_one rfl 22 42 (.tmp 73) rfl x.arr rfl i0 z 37 Try.underlying22 hi hz0 hz1 (x.size hok) (by decide) (by decide) ?_) | (refine wpList_append_own_at _ rfl (.tmp 69) (.tmp 74) 22 rfl w4.heap.size 42 i0 z 37 88 Try.underlying22 hi hz0 hz1 hz2 hzz (by decide) _ _ _ rfl (HK.out.left.alloc _) ⟨_, 0, none⟩ 1 1 x.cells rfl (by rw [hcl]) (cells_new _ _ _) (cells_ok _) (by have := left_len_le xs ks k; unfold maxLen; simp; omega) (by have := left_len_le xs ks k; omega) (by have := HK.out.below.size; simp at this ⊢; omega) ?_) | fail)
            intro v' w5 hown' hgrow _ hat
            have HL5 : Hid (Two w4 (leftTo xs ks (k + 1)) (xs.reverse.take k) v' u13 w5 ∧ w5.rangeAt b (o + (xs.length - 1 - k) * 37) y.cells) := by
              have h5 := HK.out.stepL x rfl hown' hgrow hat
              refine ⟨by rw [show leftTo xs ks (k + 1) = leftTo xs ks k ++ [x] by rw [HLS.out]; simp]; exact h5, ?_⟩
              intro j c hj
              have := HR2.out j c hj
              have hb0 : wr.cell? ⟨b, o + (xs.length - 1 - k) * 37 + j, none⟩ = w4.cell? ⟨b, o + (xs.length - 1 - k) * 37 + j, none⟩ := HK.out.below.cell (p := ⟨b, _, none⟩) hblt
              rw [h5.below.cell (p := ⟨b, _, none⟩) hblt, ← hb0]
              exact this
            clear hown' hgrow hat HK HR HR2 HLS ka kb
            go_wp2_with (first | (refine wpList_load_mid rfl 42 (.tmp 83) rfl b (o + (xs.length - 1 - k) * 37) rfl y.cells _ HL5.out.2 Try.underlying42 rfl (snap_cells' y hok2) ?_) | (refine wpList_build_one rfl 22 42 (.tmp 84) rfl y.arr rfl i0 z 37 Try.underlying22 hi hz0 hz1 (y.size hok2) (by decide) (by decide) ?_) | (refine wpList_append_own_at _ rfl (.tmp 76) (.tmp 85) 22 rfl w4.heap.size 42 i0 z 37 88 Try.underlying22 hi hz0 hz1 hz2 hzz (by decide) _ _ _ rfl (HL5.out.1.back.alloc _) ⟨_, 0, none⟩ 1 1 y.cells rfl (by rw [hcl2]) (cells_new _ _ _) (cells_ok _) (by unfold maxLen; simp; omega) (by simp; omega) (by have := HL5.out.1.below.size; simp at this ⊢; omega) ?_) | fail)
            intro u' w6 hown' hgrow _ hat
            have HN5 : Hid (Two w4 (leftTo xs ks (k + 1)) (xs.reverse.take (k + 1)) v' u' w6) := by
              rw [HRT.out]
              exact HL5.out.1.stepB y (by simp; omega) hown' hgrow hat
            clear hown' hgrow hat HL5 HRT
            go_wp2
            go_roundw
            case rel => exact ⟨k + 1, by omega, by go_num, HN5⟩
            case measure => simp [intOf]; omega
        · obtain rfl : k = xs.length := by omega
          have hltz : ¬ (xs.length : Int) < (xs.length : Int) := by omega
          have hoks := sns_ok HS4.out
          have hbk : xs.reverse.take xs.length = xs.reverse := List.take_of_length_le (by simp)
          rw [hbk] at HK
          obtain ⟨AL, cL, rfl, hsL⟩ := own_sns (lefts_ok HS4.out (Nat.le_refl _)) HK.out.left
          obtain ⟨AB, cB, rfl, hsB⟩ := own_sns (xs := xs.reverse) (fun s hs => hoks s (List.mem_reverse.1 hs)) HK.out.back
          have hlle := left_len_le xs ks xs.length
          have hP : Blk wr w.heap.size 24 _ := HY.out.1.below (HZ4.out.trans (HK.out.below.mono HZ4.out.size)) HY.out.1.lt
          have HP := Lib.hid hP
          have hG1 := Lib.hid (gone_any (leftTo xs ks xs.length) AL cL { p with last := L0, days := D0 } 1 HOK.out (by omega) wr hsL)
          have hL0 : (goneMost (leftTo xs ks xs.length) { p with last := L0, days := D0 } 1) = [] := by
            unfold goneMost
            rw [← HKS.out.1, left_gone hoks]
            rfl
          rw [hL0] at hG1
          have HSB := Lib.hid hsB
          have HBF : Hid (Below w.heap.size w wr) := (HY.out.2.2.trans (HZ4.out.mono HY.out.2.2.size)).trans (HK.out.below.mono (Nat.le_trans HY.out.2.2.size HZ4.out.size))
          have hB0 : (goneMost xs.reverse { p with last := L0, days := D0 } 1000).length = xs.length - (leftTo xs ks xs.length).length := by
            unfold goneMost
            rw [List.length_take, ← HKS.out.1, back_gone]
            show min 1000 _ = _
            omega
          have HB0 := Lib.hid hB0
          rw [List.length_reverse]
          clear hP hL0 hB0 hsL hsB HK hbk hoks
          generalize leftTo xs ks xs.length = ls at *
          simp only [Pol.cells] at hG1
          go_wp2_with (first | (refine wpList_load_row rfl 24 (.tmp 5) rfl _ rfl _ _ _ _ HP.out Try.underlying24 rfl (by kernel_rfl) ?_) | fail)
          refine hG1.out.mono ?_
          rintro e w7 ⟨v, rfl, hown7, hb7⟩
          obtain ⟨A7, c7, rfl⟩ := own_len hown7
          have hG2 := Lib.hid (gone_any xs.reverse AB cB { p with last := L0, days := D0 } 1000 HOK.out (by simp; omega) w7 (HSB.out.below hb7))
          rw [HB0.out, List.length_reverse] at hG2
          have HP7 := Lib.hid (HP.out.below hb7 HP.out.lt)
          have HB7 := Lib.hid (HBF.out.trans (hb7.mono HBF.out.size))
          simp only [Pol.cells] at hG2
          clear hown7 hb7 HB0 HSB HP hG1 HBF
          have hsub : IntKind.i64.wrap ((xs.length : Int) - ls.length) = ((xs.length - ls.length : Nat) : Int) := by rw [IntKind.wrap_i64]; omega
          have hsub2 : wrap64 ((xs.length : Int) - ls.length) = ((xs.length - ls.length : Nat) : Int) := by rw [IntWalk.wrap64_in _ ⟨by omega, by omega⟩]; omega
          have q0 := HP7.out.cell 0
          have q1 := HP7.out.cell 1
          have q2 := HP7.out.cell 2
          have q3 := HP7.out.cell 3
          have q4 := HP7.out.cell 4
          simp only [List.getElem?_cons_zero, List.getElem?_cons_succ] at q0 q1 q2 q3 q4
          go_wp2_with fail
          refine hG2.out.mono ?_
          rintro e w8 ⟨v, rfl, hown8, hb8⟩
          obtain ⟨A8, c8, rfl⟩ := own_len hown8
          have HB8 := Lib.hid (HB7.out.trans (hb8.mono HB7.out.size))
          clear hown8 hb8 HB7 hG2 HP7 q0 q1 q2 q3 q4
          go_wp2
          go_ret
          exact ⟨rfl, HB8.out⟩

end Go.Proofs.Ytfpcgancmgeagaa
