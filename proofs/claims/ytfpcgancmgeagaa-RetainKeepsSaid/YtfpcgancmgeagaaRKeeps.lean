/- The law RetainKeeps, walked. -/
import Derived.Test.YtfpcgancmgeagaaRefI

import Derived.BigRegion
import Derived.Deep.RegionWith
import Derived.Deep.RegionHeld3
namespace Go.Proofs.Ytfpcgancmgeagaa
open Go.RowKit

set_option maxHeartbeats 4000000 in
set_option maxRecDepth 100000 in
theorem retainKeeps (xs : List Sn) (A : Option Addr) (c : Nat) (p : Pol) (most : Int) (hp : p.ok) (w : World) (h : SnsAt w A xs) :
    Calls Try.prog 3 #[.slice A xs.length c, .agg p.cells.toArray, .int .i64 most] w fun e w' => e = .returned (.bool true) ∧ Below w.heap.size w w' := by
  have HS := Lib.hid h
  obtain ⟨w0, hw0⟩ : ∃ w0, w.alloc (.cells p.cells.toArray 24) = w0 := ⟨_, rfl⟩
  have HAL := Lib.hid (alive_any w0)
  have HB0 : Hid (Below w.heap.size w w0 ∧ Blk w0 w.heap.size 24 p.cells) := by rw [← hw0]; exact ⟨(Below.refl _ _).alloc (Nat.le_refl _) _, Blk.new _ _ _⟩
  have HW0 := Lib.hid hw0
  clear h hw0
  simp only [Pol.cells] at HW0 HB0 ⊢
  by_cases hlen : 30 < xs.length
  · have hz : (30 : Int) < (xs.length : Int) := by omega
    go_enter Try.func3, Try.ntmps3
    go_wp2_with fail
    rw [HW0.out]
    refine HAL.out.mono ?_
    rintro e w1 ⟨rfl, hb1⟩
    have HF := Lib.hid (HB0.out.1.trans (hb1.mono HB0.out.1.size))
    clear HAL hb1
    go_wp2
    go_ret
    exact ⟨rfl, HF.out⟩
  · have hz : ¬ (30 : Int) < (xs.length : Int) := by omega
    go_enter Try.func3, Try.ntmps3
    go_wp2_with fail
    rw [HW0.out]
    refine HAL.out.mono ?_
    rintro e w1 ⟨rfl, hb1⟩
    have HK1 := Lib.hid (HB0.out.2.below hb1 HB0.out.2.lt)
    have HB1 := Lib.hid (HB0.out.1.trans (hb1.mono HB0.out.1.size))
    have HC1 := Lib.hid (callsIn_wide.1 (keep_any xs A c p hp w1 (by omega) (HS.out.below HB1.out)))
    simp only [Pol.cells] at HC1
    clear HAL hb1 HB0 HW0
    go_wp2_with (first | (refine wpList_load_row rfl 24 (.tmp 4) rfl _ rfl _ _ _ _ HK1.out Try.underlying24 rfl (by kernel_rfl) ?_) | fail)
    refine HC1.out.mono ?_
    rintro e w2 ⟨rfl, hb2, hk2⟩
    obtain ⟨g1, hg1⟩ : ∃ g1, w1.heap.size + 2 = g1 := ⟨_, rfl⟩
    rw [hg1] at hk2 ⊢
    have HK2 := Lib.hid (And.intro (HK1.out.below hb2 HK1.out.lt) hk2)
    have HB2 := Lib.hid (HB1.out.trans (hb2.mono HB1.out.size))
    have HSS2 := Lib.hid (HS.out.below HB2.out)
    clear hb2 hk2 hg1 HC1 HK1 HB1
    go_upto_region 6 with fail
    have HP2 : Hid (w2.drew.cell? ⟨w.heap.size, 0, none⟩ = some (.int .i64 p.last) ∧ w2.drew.cell? ⟨w.heap.size, 1, none⟩ = some (.int .i64 p.days) ∧ w2.drew.cell? ⟨w.heap.size, 2, none⟩ = some (.int .i64 p.day) ∧ w2.drew.cell? ⟨w.heap.size, 3, none⟩ = some (.int .i64 p.within) ∧ w2.drew.cell? ⟨w.heap.size, 4, none⟩ = some (.string p.tag)) :=
      ⟨HK2.out.1.cell 0, HK2.out.1.cell 1, HK2.out.1.cell 2, HK2.out.1.cell 3, HK2.out.1.cell 4⟩
    have HSD : Hid (SnsAt w2.drew A xs) := HSS2.out.below (Below.refl _ _).drew
    have HOK := Lib.hid (sns_oks HSS2.out)
    go_cut [8] (fun s8 W => ∃ Aw cw, s8 = .slice Aw xs.length cw ∧ Hid (RowAt W Aw (bools (keepL xs p)) ∧ Below w2.heap.size w2 W))
    case first =>
      go_region_held3 (fun W' => W'.cell? ⟨w.heap.size, 0, none⟩ = some (.int .i64 p.last) ∧ W'.cell? ⟨w.heap.size, 1, none⟩ = some (.int .i64 p.days) ∧ W'.cell? ⟨w.heap.size, 2, none⟩ = some (.int .i64 p.day) ∧ W'.cell? ⟨w.heap.size, 3, none⟩ = some (.int .i64 p.within) ∧ W'.cell? ⟨w.heap.size, 4, none⟩ = some (.string p.tag))
        (first | exact HP2.out | exact HP3.out | exact HP4.out)
        (first
          | (go_at_call 15; refine (as_any xs A c _ (by omega) HSD.out).mono ?_; rintro e w3 ⟨v3, rfl, hown3, hb3⟩; obtain ⟨A3, c3, rfl, hs3⟩ := own_sns' HOK.out hown3; have HB3 : Hid (Below w2.heap.size w2 w3) := (Below.refl _ w2).drew.trans hb3; have HS3 := Lib.hid hs3; have HP3 : Hid (w3.cell? ⟨w.heap.size, 0, none⟩ = some (.int .i64 p.last) ∧ w3.cell? ⟨w.heap.size, 1, none⟩ = some (.int .i64 p.days) ∧ w3.cell? ⟨w.heap.size, 2, none⟩ = some (.int .i64 p.day) ∧ w3.cell? ⟨w.heap.size, 3, none⟩ = some (.int .i64 p.within) ∧ w3.cell? ⟨w.heap.size, 4, none⟩ = some (.string p.tag)) := (by have k3 := HK2.out.1.below HB3.out HK2.out.1.lt; exact ⟨k3.cell 0, k3.cell 1, k3.cell 2, k3.cell 3, k3.cell 4⟩); clear hown3 hb3 hs3)
          | (go_at_call 14; refine (refkeep_any xs A3 c3 p hp _ (by omega) HS3.out).mono ?_; rintro e w4 ⟨v4, rfl, hown4, hb4⟩; obtain ⟨A4, c4, rfl, hs4⟩ := own_row hown4; have HB4 : Hid (Below w2.heap.size w2 w4) := HB3.out.trans (hb4.mono HB3.out.size); have HS4 := Lib.hid hs4; have HP4 : Hid (w4.cell? ⟨w.heap.size, 0, none⟩ = some (.int .i64 p.last) ∧ w4.cell? ⟨w.heap.size, 1, none⟩ = some (.int .i64 p.days) ∧ w4.cell? ⟨w.heap.size, 2, none⟩ = some (.int .i64 p.day) ∧ w4.cell? ⟨w.heap.size, 3, none⟩ = some (.int .i64 p.within) ∧ w4.cell? ⟨w.heap.size, 4, none⟩ = some (.string p.tag)) := (by have k3 := HK2.out.1.below HB4.out HK2.out.1.lt; exact ⟨k3.cell 0, k3.cell 1, k3.cell 2, k3.cell 3, k3.cell 4⟩); clear hown4 hb4 hs4))
      go_wp2_with fail
      go_meet
      exact ⟨A4, c4, rfl, by rw [← keeps_keepL]; exact HS4.out, HB4.out⟩
    case rest =>
      obtain ⟨Aw, cw, rfl, HW⟩ := hcut
      have HKW := Lib.hid (And.intro (HK2.out.1.below HW.out.2 HK2.out.1.lt) (HK2.out.2.below HW.out.2 HK2.out.2.lt))
      have HBW := Lib.hid (HB2.out.trans (HW.out.2.mono HB2.out.size))
      have HRW := Lib.hid HW.out.1
      have HKL := Lib.hid (keepL_length xs p)
      obtain ⟨ks, hks⟩ : ∃ ks, keepL xs p = ks := ⟨_, rfl⟩
      rw [hks] at HKW HRW HKL
      have HKS := Lib.hid hks
      clear HW HK2 HB2 HSS2 HP2 HSD hks
      obtain ⟨i0, hi, hz0, hz1, hz2⟩ := info_parts A_info_int
      go_wp2_with fail
      go_loopw [9, 34] (fun v i wr => ∃ k : Nat, k ≤ xs.length ∧ i = .int .i64 k ∧ Hid (wr.ownsRow wc.heap.size 3 1 v (gonesTo ks k).length ((gonesTo ks k).map (Value.int .i64)) ∧ Below wc.heap.size wc wr)) (fun _ i _ => xs.length - (intOf i).toNat)
      case atStart => exact ⟨0, Nat.zero_le _, by go_num, ⟨rfl, .inr ⟨wc.heap.size, 0, #[], rfl, Nat.le_refl _, World.alloc_heap_new wc _, Nat.le_refl _, by decide, rfl, rfl⟩⟩, (Below.refl _ _).alloc (Nat.le_refl _) _⟩
      case round =>
        obtain ⟨k, hk, rfl, HB⟩ := hrel
        by_cases hlt : k < xs.length
        · have hltz : (k : Int) < (xs.length : Int) := by omega
          have hltd : decide (k < xs.length) = true := decide_eq_true hlt
          have ka := bools_cell (HKW.out.2.below HB.out.2 HKW.out.2.lt) (k := k) (by rw [HKL.out]; exact hlt)
          obtain ⟨b, o, rfl, _, kb⟩ := bools_row (HRW.out.below HB.out.2) (i := k) (by rw [HKL.out]; exact hlt)
          have z1 := one_cell ka
          have z2 := one_cell kb
          have y2 : wr.drew.cell? ⟨b, o + k, none⟩ = some (.bool (ks.getD k true)) := kb
          have HGS := Lib.hid (gonesTo_succ ks k)
          have hgl := gonesTo_length ks k
          clear ka kb
          cases hb : ks.getD k true
          · rw [hb] at z1 z2 y2 HGS
            clear hb
            go_wp2_with fail
            refine wp_region_in (fun W' => W' = wr.drew) rfl (by kernel_rfl) (by kernel_rfl) ?_
            repeat (go_big_quiet_step (fail))
            refine wpQuiet_nil ?_
            rintro W6 ⟨⟨_, hW6⟩, rfl⟩
            obtain rfl := hW6
            clear z1 z2
            have HO := Lib.hid (own_below HB.out.1 ((Below.refl wr.heap.size wr).drew) (Nat.le_refl _))
            go_wp2_with (first | (at_builtin; refine wpList_append_own _ rfl _ _ 32 rfl wc.heap.size 3 i0 (.int .i64 0) 1 8 Try.underlying32 hi hz0 hz1 hz2 rfl (by decide) _ _ _ rfl (HO.out.alloc _) ⟨_, 0, none⟩ 1 1 [.int .i64 k] rfl rfl (row_new1 _ _ _) (one_int _ _) (by unfold maxLen; omega) (by omega) (by have := HB.out.2.size; simp; omega) ?_) | fail)
            intro v' w6 hown' hgrow _
            have HN : Hid (w6.ownsRow wc.heap.size 3 1 v' (gonesTo ks (k + 1)).length ((gonesTo ks (k + 1)).map (Value.int .i64)) ∧ Below wc.heap.size wc w6) := by
              refine ⟨by rw [HGS.out]; simpa using hown', ?_⟩
              exact ((HB.out.2.drew).alloc HB.out.2.size _).grown hgrow (by have := HB.out.2.size; simp; omega) (fun j hj => (HO.out.lt j hj).1)
            clear hown' hgrow HB HO HGS y2
            go_wp2
            go_roundw
            case rel => exact ⟨k + 1, by omega, by go_num, HN⟩
            case measure => simp [intOf]; omega
          · rw [hb] at z1 z2 y2 HGS
            clear hb
            have HN : Hid (wr.drew.ownsRow wc.heap.size 3 1 u9 (gonesTo ks (k + 1)).length ((gonesTo ks (k + 1)).map (Value.int .i64)) ∧ Below wc.heap.size wc wr.drew) := by
              refine ⟨by rw [HGS.out]; simpa using own_below HB.out.1 ((Below.refl wr.heap.size wr).drew) (Nat.le_refl _), HB.out.2.drew⟩
            clear HB HGS
            go_wp2_with fail
            refine wp_region_in (fun W' => W' = wr.drew) rfl (by kernel_rfl) (by kernel_rfl) ?_
            repeat (go_big_quiet_step (fail))
            refine wpQuiet_nil ?_
            rintro W6 ⟨⟨_, hW6⟩, rfl⟩
            obtain rfl := hW6
            clear z1 z2
            go_wp2
            go_roundw
            case rel => exact ⟨k + 1, by omega, by go_num, HN⟩
            case measure => simp [intOf]; omega
        · obtain rfl : k = xs.length := by omega
          have hltz : ¬ (xs.length : Int) < (xs.length : Int) := by omega
          obtain ⟨A9, c9, rfl, h9⟩ := own_row HB.out.1
          obtain ⟨G, hG⟩ : ∃ G, gonesTo ks xs.length = G := ⟨_, rfl⟩
          rw [hG] at h9 ⊢
          have HG : Hid (gonesL xs p = G ∧ G.length ≤ xs.length) := ⟨by unfold gonesL; rw [HKS.out]; exact hG, by rw [← hG]; exact gonesTo_length _ _⟩
          have H9 := Lib.hid h9
          have HBR := Lib.hid (HBW.out.trans (HB.out.2.mono HBW.out.size))
          have HKR := Lib.hid (HKW.out.1.below HB.out.2 HKW.out.1.lt)
          have HSR : Hid (SnsAt wr.drew A xs) := HS.out.below HBR.out.drew
          have HPR : Hid (wr.drew.cell? ⟨w.heap.size, 2, none⟩ = some (.int .i64 p.day)) := HKR.out.cell 2
          clear h9 hG HB HKW HRW HBW HKL HKS hi hz0 hz1 hz2
          go_upto_region 18 with fail
          go_cut [11, 12] (fun s11 s12 W => ∃ AD cD AE cE, s11 = .slice AD (daysL xs p.day).length cD ∧ s12 = .slice AE (daysL xs p.day).length cE ∧ Hid (RowAt W AD ((daysL xs p.day).map (Value.int .i64)) ∧ RowAt W AE ((daysL xs p.day).map (Value.int .i64)) ∧ Below wr.heap.size wr W))
          case first =>
            go_region_held3 (fun W' => W'.cell? ⟨w.heap.size, 2, none⟩ = some (.int .i64 p.day))
              (first | exact HPR.out | exact HP5.out | exact HP6.out | exact HP7.out)
              (first
                | (go_at_call 16; refine (days_any xs A c p.day hp.2.2.1 _ (by omega) HSR.out).mono ?_; rintro e w5 ⟨v5, rfl, hown5, hb5⟩; obtain ⟨A5, c5, rfl, h5⟩ := own_row hown5; have HB5 : Hid (Below wr.heap.size wr w5) := (Below.refl _ wr).drew.trans hb5; have H5 := Lib.hid h5; have HP5 : Hid (w5.cell? ⟨w.heap.size, 2, none⟩ = some (.int .i64 p.day)) := (HKR.out.below HB5.out HKR.out.lt).cell 2; clear hown5 hb5 h5)
                | (go_at_call 15; refine (as_any xs A c _ (by omega) (HS.out.below (HBR.out.trans (HB5.out.mono HBR.out.size)))).mono ?_; rintro e w6 ⟨v6, rfl, hown6, hb6⟩; obtain ⟨A6, c6, rfl, hs6⟩ := own_sns' HOK.out hown6; have HB6 : Hid (Below wr.heap.size wr w6 ∧ Below w5.heap.size w5 w6) := ⟨HB5.out.trans (hb6.mono HB5.out.size), hb6⟩; have HS6 := Lib.hid hs6; have HP6 : Hid (w6.cell? ⟨w.heap.size, 2, none⟩ = some (.int .i64 p.day)) := (HKR.out.below HB6.out.1 HKR.out.lt).cell 2; clear hown6 hb6 hs6)
                | (go_at_call 17; refine (refdays_any xs A6 c6 p.day hp.2.2.1 _ (by omega) HS6.out).mono ?_; rintro e w7 ⟨v7, rfl, hI7⟩; obtain ⟨A7, c7, rfl, h7⟩ := own_row hI7.own; have HB7 : Hid (Below wr.heap.size wr w7 ∧ Below w5.heap.size w5 w7) := ⟨HB6.out.1.trans (hI7.below.mono HB6.out.1.size), HB6.out.2.trans (hI7.below.mono HB6.out.2.size)⟩; have H7 := Lib.hid h7; have HP7 : Hid (w7.cell? ⟨w.heap.size, 2, none⟩ = some (.int .i64 p.day)) := (HKR.out.below HB7.out.1 HKR.out.lt).cell 2; clear hI7 h7))
            go_wp2_with fail
            go_meet
            exact ⟨A5, c5, A7, c7, rfl, rfl, H5.out.below HB7.out.2, H7.out, HB7.out.1⟩
          case rest =>
            obtain ⟨AD, cD, AE, cE, rfl, rfl, HDE⟩ := hcut
            have hdl := daysL_le xs p.day
            obtain ⟨D, hD⟩ : ∃ D, daysL xs p.day = D := ⟨_, rfl⟩
            rw [hD] at HDE hdl ⊢
            clear hD HSR HPR
            have HBC := Lib.hid (HBR.out.trans (HDE.out.2.2.mono HBR.out.size))
            have HKC := Lib.hid (HKR.out.below HDE.out.2.2 HKR.out.lt)
            have H9C := Lib.hid (H9.out.below HDE.out.2.2)
            clear HKR H9 HBR
            go_wp2_with fail
            go_loopw [72] (fun i wq => ∃ k : Nat, k ≤ D.length ∧ i = .int .i64 k ∧ Hid (Below wc.heap.size wc wq)) (fun i _ => D.length - (intOf i).toNat)
            case atStart => exact ⟨0, Nat.zero_le _, by go_num, Below.refl _ _⟩
            case round =>
              obtain ⟨k, hk2, rfl, HQ⟩ := hrel
              by_cases hlt2 : k < D.length
              · have hltz : (k : Int) < (D.length : Int) := by omega
                obtain ⟨b, o, rfl, _, hc⟩ := (HDE.out.1.below HQ.out).int hlt2
                obtain ⟨b', o', rfl, _, hc'⟩ := (HDE.out.2.1.below HQ.out).int hlt2
                have z1 := one_cell hc
                have z2 := one_cell hc'
                clear hc hc'
                generalize D.getD k 0 = x at *
                go_wp2_with fail
                refine wp_region_in (fun W' => W' = wr.drew) rfl (by kernel_rfl) (by kernel_rfl) ?_
                repeat (go_big_quiet_step (fail))
                refine wpQuiet_nil ?_
                rintro W6 ⟨⟨_, hW6⟩, rfl⟩
                obtain rfl := hW6
                clear z1 z2
                go_wp2
                go_roundw
                case rel => exact ⟨k + 1, by omega, by go_num, HQ.out.drew⟩
                case measure => simp [intOf]; omega
              · obtain rfl : k = D.length := by omega
                have hltz : ¬ (D.length : Int) < (D.length : Int) := by omega
                have HBQ := Lib.hid (HBC.out.trans (HQ.out.mono HBC.out.size))
                have HKQ := Lib.hid (HKC.out.below HQ.out HKC.out.lt)
                have H9Q := Lib.hid (H9C.out.below HQ.out)
                have HG1 := Lib.hid (gone_any xs A c p 1000 hp (by omega) wr (HS.out.below HBQ.out))
                have hG2 : goneMost xs p 1000 = G := by
                  unfold goneMost
                  rw [HG.out.1]
                  exact List.take_of_length_le (by have := HG.out.2; show G.length ≤ 1000; omega)
                rw [hG2] at HG1
                simp only [Pol.cells] at HG1
                clear HDE HBC HKC H9C HQ hG2
                go_wp2_with (first | (refine wpList_load_row rfl 24 (.tmp 4) rfl _ rfl _ _ _ _ HKQ.out Try.underlying24 rfl (by kernel_rfl) ?_) | fail)
                refine HG1.out.mono ?_
                rintro e w9 ⟨v, rfl, hown9, hb9⟩
                obtain ⟨AG, cG, rfl, hrg⟩ := own_row hown9
                have HB9 := Lib.hid (HBQ.out.trans (hb9.mono HBQ.out.size))
                have HK9 := Lib.hid (HKQ.out.below hb9 HKQ.out.lt)
                have HSI := Lib.hid (same_ints G AG A9 cG c9 w9 (by have := HG.out.2; omega) hrg (H9Q.out.below hb9))
                clear hown9 hb9 hrg HG1 HBQ HKQ H9Q
                go_wp2_with fail
                refine HSI.out.mono ?_
                rintro e w10 ⟨rfl, hb10⟩
                have HB10 := Lib.hid (HB9.out.trans (hb10.mono HB9.out.size))
                have HK10 := Lib.hid (HK9.out.below hb10 HK9.out.lt)
                have q0 := HK10.out.cell 0
                have q1 := HK10.out.cell 1
                have q2 := HK10.out.cell 2
                have q3 := HK10.out.cell 3
                have q4 := HK10.out.cell 4
                simp only [List.getElem?_cons_zero, List.getElem?_cons_succ] at q0 q1 q2 q3 q4
                have hbm := bits_mask most 7 (by decide)
                have HG3 := Lib.hid (gone_any xs A c p (bits .and .i64 most 7) hp (by omega) w10 (HS.out.below HB10.out))
                have hG4 : ((goneMost xs p (bits .and .i64 most 7)).length : Int) = min (bits .and .i64 most 7) (G.length : Int) := by
                  unfold goneMost
                  rw [HG.out.1, List.length_take]
                  omega
                have HG4 := Lib.hid hG4
                simp only [Pol.cells] at HG3
                clear hb10 HSI HB9 HK9 hG4
                go_wp2_with fail
                refine HG3.out.mono ?_
                rintro e w11 ⟨v, rfl, hown11, hb11⟩
                obtain ⟨AH, cH, rfl⟩ := own_len0 hown11
                have HB11 := Lib.hid (HB10.out.trans (hb11.mono HB10.out.size))
                clear hown11 hb11 HB10 HK10 q0 q1 q2 q3 q4 HG3
                have hfin : (((goneMost xs p (bits .and .i64 most 7)).length : Int) == min (bits .and .i64 most 7) (G.length : Int)) = true := by rw [HG4.out]; simp
                go_wp2
                go_ret
                exact ⟨rfl, HB11.out⟩

end Go.Proofs.Ytfpcgancmgeagaa
