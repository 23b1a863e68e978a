/- The law RetainTags, walked. -/
import Derived.Test.YtfpcgancmgeagaaTagsP
import Derived.Test.YtfpcgancmgeagaaSns
import Derived.Test.YtfpcgancmgeagaaRound
namespace Go.Proofs.Ytfpcgancmgeagaa
open Go.RowKit

theorem mask_cells (s : Sn) : s.cells.set 0 (.int .i64 (mask50 s).time) = (mask50 s).cells := rfl
theorem mask_ok {s : Sn} (h : s.ok) : (mask50 s).ok := ⟨h.1, by have := mask_time s; exact ⟨by omega, by omega⟩, h.2.2⟩
theorem map_getD (xs : List Sn) (k : Nat) (h : k < xs.length) : (xs.map mask50).getD k default = mask50 (xs.getD k default) := by
  rw [List.getD_eq_getElem?_getD, List.getD_eq_getElem?_getD, List.getElem?_map, List.getElem?_eq_getElem h]; rfl
theorem lastT_take (xs : List Sn) (k : Nat) (h : k < xs.length) : lastT ((xs.map mask50).take (k + 1)) = max (lastT ((xs.map mask50).take k)) (mask50 (xs.getD k default)).time := by
  rw [List.take_succ_eq_append_getElem (by simpa using h), lastT_snoc, List.getElem_map, List.getD_eq_getElem?_getD, List.getElem?_eq_getElem h]; rfl

theorem cells_new' (w : World) (x : Sn) (t : TypeId) (n : Nat) (hn : n = w.heap.size) : ∀ j u, x.cells[j]? = some u → (w.alloc (.cells x.arr t)).cell? ((⟨n, 0, none⟩ : Addr).add j) = some u := by subst hn; exact cells_new w x t

set_option maxHeartbeats 4000000 in
set_option maxRecDepth 100000 in
theorem retainTags (xs : List Sn) (A : Option Addr) (c : Nat) (tag : ByteArray) (within : Int) (hn : In64 within) (w : World) (h : SnsAt w A xs) :
    Calls Try.prog 6 #[.slice A xs.length c, .string tag, .int .i64 within] w fun e w' => e = .returned (.bool true) ∧ Below w.heap.size w w' := by
  have HS := Lib.hid h
  have HAL := Lib.hid (alive_any w)
  clear h
  by_cases hlen : 30 < xs.length
  · have hz : (30 : Int) < (xs.length : Int) := by omega
    go_enter Try.func6, Try.ntmps6
    go_wp2_with fail
    refine HAL.out.mono ?_
    rintro e w1 ⟨rfl, hb1⟩
    clear HAL
    go_wp2
    go_ret
    exact ⟨rfl, hb1⟩
  · have hz : ¬ (30 : Int) < (xs.length : Int) := by omega
    have hzd : decide ((30 : Int) < (xs.length : Int)) = false := decide_eq_false hz
    by_cases ht : tag.toList.isEmpty = true
    · go_enter Try.func6, Try.ntmps6
      go_wp2_with fail
      refine HAL.out.mono ?_
      rintro e w1 ⟨rfl, hb1⟩
      clear HAL
      go_wp2
      go_ret
      exact ⟨rfl, hb1⟩
    · rw [Bool.not_eq_true] at ht
      obtain ⟨z, hinfo, hzz⟩ := A_info_snap
      obtain ⟨i0, hi, hz0, hz1, hz2⟩ := info_parts hinfo
      clear hinfo
      go_enter Try.func6, Try.ntmps6
      go_wp2_with fail
      refine HAL.out.mono ?_
      rintro e w1 ⟨rfl, hb1⟩
      have HB1 := Lib.hid hb1
      clear HAL hb1
      go_wp2_with fail
      go_loopw [7, 8, 29] (fun v m i wr => ∃ k : Nat, k ≤ xs.length ∧ i = .int .i64 k ∧ m = .int .i64 (lastT ((xs.map mask50).take k)) ∧ Hid (wr.ownsRow w.heap.size 42 37 v k (((xs.map mask50).take k).flatMap Sn.cells) ∧ Below w.heap.size w wr)) (fun _ _ i _ => xs.length - (intOf i).toNat)
      case atStart =>
        refine ⟨0, Nat.zero_le _, by go_num, rfl, ?_, HB1.out.trans ((Below.refl _ w1).alloc HB1.out.size _)⟩
        exact ⟨rfl, .inr ⟨w1.heap.size, 0, #[], rfl, HB1.out.size, World.alloc_heap_new w1 _, Nat.le_refl _, by decide, rfl, rfl⟩⟩
      case round =>
        obtain ⟨k, hk, rfl, rfl, HK⟩ := hrel
        clear HB1
        by_cases hlt : k < xs.length
        · have hltz : (k : Int) < (xs.length : Int) := by omega
          obtain ⟨b, o, rfl, hblt, hr, hok⟩ := HS.out k hlt
          have HR : Hid (wr.rangeAt b (o + k * 37) (xs.getD k default).cells) := rangeAt_below hr HK.out.2 hblt
          have HT : Hid (((xs.map mask50).take (k + 1)).flatMap Sn.cells = ((xs.map mask50).take k).flatMap Sn.cells ++ (mask50 (xs.getD k default)).cells) := by
            have := take_flat (xs.map mask50) k (by simpa using hlt); rw [map_getD xs k hlt] at this; exact this
          have HL := Lib.hid (lastT_take xs k hlt)
          clear hr
          generalize xs.getD k default = x at *
          have hcl := x.len hok
          have hok2 := mask_ok hok
          have hmt : bits .and .i64 x.time 1125899906842623 = (mask50 x).time := rfl
          have HMT := Lib.hid hmt
          clear hmt
          go_wp2_with (first | (refine wpList_load_mid rfl 42 (.tmp 31) rfl b (o + k * 37) rfl x.cells _ HR.out Try.underlying42 rfl (snap_cells' x hok) ?_) | (refine wpList_store_row rfl 42 (.tmp 10) (.tmp 32) rfl wr.heap.size x.arr rfl rfl 42 _ (Blk.new _ _ _) (snap_cells x hok) (by rw [x.size hok]; rfl) (cells_one x) ?_; intro w2 hm2 hb2; have hc0 : w2.cell? ⟨wr.heap.size, 0, none⟩ = some (.int .i64 x.time) := (hb2.cell 0).trans (by simpa using x.arr0); have hf0 := hb2.frozen 0; have HM2 := Lib.hid hm2; have HB2 := Lib.hid hb2; have HB3 : Hid (Blk (w2.setCell ⟨wr.heap.size, 0, none⟩ (.int .i64 (bits .and .i64 x.time 1125899906842623))) wr.heap.size 42 (mask50 x).arr.toList) := (hb2.set_ 0 (.int .i64 (bits .and .i64 x.time 1125899906842623)) : Blk _ _ _ _); have HM3 : Hid (Mod (· = wr.heap.size) (wr.alloc _) (w2.setCell ⟨wr.heap.size, 0, none⟩ (.int .i64 (bits .and .i64 x.time 1125899906842623)))) := hm2.setCell (p := ⟨wr.heap.size, 0, none⟩) (fun _ => rfl) _; clear hm2 hb2) | (refine wpList_load_row rfl 42 (.tmp 10) rfl _ rfl _ _ _ _ HB3.out Try.underlying42 rfl (snap_cells (mask50 x) hok2) ?_) | (refine wpList_build_one rfl 22 42 (.tmp 42) rfl (mask50 x).arr rfl i0 z 37 Try.underlying22 hi hz0 hz1 ((mask50 x).size hok2) (by decide) (by decide) ?_; have HW : Hid (Below w.heap.size w (w2.setCell ⟨wr.heap.size, 0, none⟩ (.int .i64 (bits .and .i64 x.time 1125899906842623))) ∧ (w2.setCell ⟨wr.heap.size, 0, none⟩ (.int .i64 (bits .and .i64 x.time 1125899906842623))).ownsRow w.heap.size 42 37 u7 k (((xs.map mask50).take k).flatMap Sn.cells)) := (own_round HK.out.1 HK.out.2 HM3.out)) | (at_builtin; refine wpList_append_own _ rfl _ _ 22 rfl w.heap.size 42 i0 z 37 88 Try.underlying22 hi hz0 hz1 hz2 hzz (by decide) _ _ _ rfl (HW.out.2.alloc _) ⟨_, 0, none⟩ 1 1 (mask50 x).cells rfl (by rw [(mask50 x).len hok2]) (cells_new _ _ _) (cells_ok _) (by unfold maxLen; omega) (by omega) (by have := HW.out.1.size; simp at this ⊢; omega) ?_) | fail)
          intro v' w4 hown' hgrow _
          have HN : Hid (w4.ownsRow w.heap.size 42 37 v' (k + 1) (((xs.map mask50).take (k + 1)).flatMap Sn.cells) ∧ Below w.heap.size w w4) := by
            refine ⟨by rw [HT.out]; exact hown', ?_⟩
            exact (HW.out.1.alloc HW.out.1.size _).grown hgrow (by have := HW.out.1.size; simp at this ⊢; omega) (fun j hj => (HW.out.2.lt j hj).1)
          have HL2 : Hid (lastT ((xs.map mask50).take (k + 1)) = max (lastT ((xs.map mask50).take k)) (bits .and .i64 x.time 1125899906842623)) := HL.out
          clear hown' hgrow HW HT HK HM2 HB2 HR HB3 HM3 HL HMT
          go_wp2
          go_roundw
          case rel => exact ⟨k + 1, by omega, by go_num, by rw [HL2.out], HN⟩
          case measure => simp [intOf]; omega
        · obtain rfl : k = xs.length := by omega
          have hltz : ¬ (xs.length : Int) < (xs.length : Int) := by omega
          have htk : (xs.map mask50).take xs.length = xs.map mask50 := List.take_of_length_le (by simp)
          rw [htk] at HK ⊢
          clear htk
          have hml : (xs.map mask50).length = xs.length := by simp
          have hoks : ∀ s ∈ xs.map mask50, s.ok := by
            intro s hs
            obtain ⟨t, ht', rfl⟩ := List.mem_map.1 hs
            obtain ⟨i, hi', rfl⟩ := List.getElem_of_mem ht'
            obtain ⟨_, _, _, _, _, ok⟩ := HS.out i hi'
            rw [List.getD_eq_getElem?_getD, List.getElem?_eq_getElem hi'] at ok
            exact mask_ok ok
          have hown : wr.ownsRow w.heap.size 42 37 u7 (xs.map mask50).length ((xs.map mask50).flatMap Sn.cells) := by rw [hml]; exact HK.out.1
          obtain ⟨A2, c2, rfl, hsn⟩ := own_sns hoks hown
          rw [hml] at HK ⊢
          have HSN := Lib.hid hsn
          have HB2 := Lib.hid HK.out.2
          have HA := Lib.hid (fun k hk => tags_at xs tag (bits .and .i64 within 1125899906842623) ht (bits_mask within 1125899906842623 (by decide)) k hk)
          have hbm := bits_mask within 1125899906842623 (by decide)
          have HBM := Lib.hid hbm
          have HLR := Lib.hid (lastT_range xs)
          have hpT : (pTag tag).ok := ⟨in64_small (by simp [pTag]), in64_small (by simp [pTag]), in64_small (by simp [pTag]), in64_small (by simp [pTag])⟩
          have hpN : (pNear (bits .and .i64 within 1125899906842623)).ok := ⟨in64_small (by simp [pNear]), in64_small (by simp [pNear]), in64_small (by simp [pNear]), ⟨by simp [pNear]; omega, by simp [pNear]; omega⟩⟩
          have hpB : (pBoth tag (bits .and .i64 within 1125899906842623)).ok := ⟨in64_small (by simp [pBoth]), in64_small (by simp [pBoth]), in64_small (by simp [pBoth]), ⟨by simp [pBoth]; omega, by simp [pBoth]; omega⟩⟩
          have HP := Lib.hid (And.intro hpT (And.intro hpN hpB))
          have hlen2 : (xs.map mask50).length ≤ 1073741824 := by rw [hml]; omega
          have HML := Lib.hid (And.intro hml hlen2)
          clear hown hsn hbm hpT hpN hpB HK hoks hml hlen2 HS hi hz0 hz1 hz2 hzz
          go_wp2_with fail
          generalize bits .and .i64 within 1125899906842623 = N at *
          have hc := callsIn_wide.1 (keep_any (xs.map mask50) A2 c2 (pTag tag) HP.out.1 wr HML.out.2 HSN.out)
          rw [HML.out.1] at hc
          refine hc.mono ?_
          clear hc
          rintro e w2 ⟨rfl, hb, hk'⟩
          obtain ⟨g1, hg⟩ : ∃ g1, wr.heap.size + 2 = g1 := ⟨_, rfl⟩
          rw [hg] at hk' ⊢
          have HS2 := Lib.hid (HSN.out.below hb)
          have HK2 := Lib.hid hk'
          have HB3 := Lib.hid (HB2.out.trans (hb.mono HB2.out.size))
          clear hb hk' hg HSN HB2
          go_wp2_with fail
          have hc := callsIn_wide.1 (keep_any (xs.map mask50) A2 c2 (pNear N) HP.out.2.1 w2 HML.out.2 HS2.out)
          rw [HML.out.1] at hc
          refine hc.mono ?_
          clear hc
          rintro e w3 ⟨rfl, hb, hk'⟩
          obtain ⟨g2, hg⟩ : ∃ g2, w2.heap.size + 2 = g2 := ⟨_, rfl⟩
          rw [hg] at hk' ⊢
          have HS3 := Lib.hid (HS2.out.below hb)
          have HK3 := Lib.hid (And.intro (HK2.out.below hb HK2.out.lt) hk')
          have HB4 := Lib.hid (HB3.out.trans (hb.mono HB3.out.size))
          clear hb hk' hg HS2 HB3 HK2
          go_wp2_with fail
          have hc := callsIn_wide.1 (keep_any (xs.map mask50) A2 c2 (pBoth tag N) HP.out.2.2 w3 HML.out.2 HS3.out)
          rw [HML.out.1] at hc
          refine hc.mono ?_
          clear hc
          rintro e w4 ⟨rfl, hb, hk'⟩
          obtain ⟨g3, hg⟩ : ∃ g3, w3.heap.size + 2 = g3 := ⟨_, rfl⟩
          rw [hg] at hk' ⊢
          have HS4 := Lib.hid (HS3.out.below hb)
          have HK4 := Lib.hid (And.intro (HK3.out.1.below hb HK3.out.1.lt) (And.intro (HK3.out.2.below hb HK3.out.2.lt) hk'))
          have HB5 := Lib.hid (HB4.out.trans (hb.mono HB4.out.size))
          clear hb hk' hg HS3 HB4 HK3
          have hl1 := keepL_length (xs.map mask50) (pTag tag)
          have hl2 := keepL_length (xs.map mask50) (pNear N)
          have hl3 := keepL_length (xs.map mask50) (pBoth tag N)
          rw [HML.out.1] at hl1 hl2 hl3
          have HLL := Lib.hid (And.intro hl1 (And.intro hl2 hl3))
          clear hl1 hl2 hl3
          go_wp2_with fail
          go_loopw [63] (fun i wq => ∃ k : Nat, k ≤ xs.length ∧ i = .int .i64 k ∧ Hid (Below w4.heap.size w4 wq)) (fun i _ => xs.length - (intOf i).toNat)
          case atStart => exact ⟨0, Nat.zero_le _, by go_num, Below.refl _ _⟩
          case round =>
            obtain ⟨k, hk, rfl, HQ⟩ := hrel
            by_cases hlt2 : k < xs.length
            · have hltz : (k : Int) < (xs.length : Int) := by omega
              obtain ⟨b, o, rfl, hblt, hr, hok⟩ := HS4.out k (by rw [HML.out.1]; exact hlt2)
              rw [map_getD xs k hlt2] at hr hok
              have HR : Hid (wr.rangeAt b (o + k * 37) (mask50 (xs.getD k default)).cells) := rangeAt_below hr HQ.out hblt
              obtain ⟨a1, a2, a3⟩ := HA.out k hlt2
              have hT := mask_time (xs.getD k default)
              clear hr
              generalize xs.getD k default = x at *
              have hcl := (mask50 x).len hok
              have ka := bools_cell (HK4.out.1.below HQ.out HK4.out.1.lt) (k := k) (by rw [HLL.out.1]; exact hlt2)
              have kb := bools_cell (HK4.out.2.1.below HQ.out HK4.out.2.1.lt) (k := k) (by rw [HLL.out.2.1]; exact hlt2)
              have kc := bools_cell (HK4.out.2.2.below HQ.out HK4.out.2.2.lt) (k := k) (by rw [HLL.out.2.2]; exact hlt2)
              rw [a1] at ka
              rw [a2] at kb
              rw [a3] at kc
              have hw1 : IntKind.i64.wrap (lastT (xs.map mask50) - (mask50 x).time) = lastT (xs.map mask50) - (mask50 x).time := by have := HLR.out; rw [IntKind.wrap_i64]; omega
              have hw2 : wrap64 (lastT (xs.map mask50) - (mask50 x).time) = lastT (xs.map mask50) - (mask50 x).time := IntWalk.wrap64_in _ (by have := HLR.out; exact ⟨by omega, by omega⟩)
              have nB : (nearB (lastT (xs.map mask50)) (mask50 x).time N = true ∧ decide (0 < N) = true ∧ decide (lastT (xs.map mask50) - (mask50 x).time < N) = true) ∨ (nearB (lastT (xs.map mask50)) (mask50 x).time N = false ∧ decide (0 < N) = false ∧ True) ∨ (nearB (lastT (xs.map mask50)) (mask50 x).time N = false ∧ decide (0 < N) = true ∧ decide (lastT (xs.map mask50) - (mask50 x).time < N) = false) := by
                unfold nearB
                cases decide (0 < N) <;> cases decide (lastT (xs.map mask50) - (mask50 x).time < N) <;> simp
              clear a1 a2 a3
              generalize hL : lastT (xs.map mask50) = L at *
              generalize hTm : (mask50 x).time = T at *
              have htg : (mask50 x).tag.toList = x.tag.toList := rfl
              have HTG := Lib.hid (And.intro hL (And.intro hTm htg))
              clear hL hTm htg hT
              cases hb : (x.tag.toList == tag.toList) <;> rcases nB with ⟨e1, n1, n2⟩ | ⟨e1, n1, n2⟩ | ⟨e1, n1, n2⟩ <;> rw [hb] at ka kc <;> rw [e1] at kb kc <;> clear e1
              all_goals
                go_wp2_with (first | (refine wpList_load_mid rfl 42 (.tmp 66) rfl b (o + k * 37) rfl (mask50 x).cells _ HR.out Try.underlying42 rfl (snap_cells' (mask50 x) hok) ?_) | (refine wpList_store_row rfl 42 (.tmp 15) (.tmp 67) rfl wr.heap.size (mask50 x).arr rfl rfl 42 _ (Blk.new _ _ _) (snap_cells (mask50 x) hok) (by rw [(mask50 x).size hok]; rfl) (cells_one (mask50 x)) ?_; intro w5 hm2 hb2; have hc0 : w5.cell? ⟨wr.heap.size, 0, none⟩ = some (.int .i64 T) := (hb2.cell 0).trans (by rw [← HTG.out.2.1]; simpa using (mask50 x).arr0); have hc2 : w5.cell? ⟨wr.heap.size, 2, none⟩ = some (.string (mask50 x).tag) := (hb2.cell 2).trans (by simpa using (mask50 x).arr2); have hbw : Below wr.heap.size wr w5 := ((Below.refl _ _).alloc (Nat.le_refl _) _).trans (hm2.belowB (by simp) (fun j hj e => by omega)); have HBW := Lib.hid hbw; clear hbw hm2 hb2) | fail)
                have ka5 := (HBW.out.cell (p := ⟨g1, k, none⟩) (World.block_lt_of_cell? wr _ ka)).trans ka
                have kb5 := (HBW.out.cell (p := ⟨g2, k, none⟩) (World.block_lt_of_cell? wr _ kb)).trans kb
                have kc5 := (HBW.out.cell (p := ⟨g3, k, none⟩) (World.block_lt_of_cell? wr _ kc)).trans kc
                have q1 := one_cell ka5
                have q2 := one_cell kb5
                have q3 := one_cell kc5
                have q4 := one_cell hc2
                have htag : ((mask50 x).tag.toList == tag.toList) = (x.tag.toList == tag.toList) := rfl
                rw [hb] at htag
                clear ka5 kb5 kc5 hc0 hc2 ka kb kc
                refine wp_region_in (fun W' => W' = w5.drew) rfl (by kernel_rfl) (by kernel_rfl) ?_
                repeat (go_big_quiet_step (fail))
                refine wpQuiet_nil ?_
                rintro _ ⟨⟨W6, hW6⟩, rfl⟩
                obtain rfl := hW6
                clear q1 q2 q3 q4
                go_wp2
                go_roundw
                case rel => exact ⟨k + 1, by omega, by go_num, HQ.out.trans ((HBW.out.mono HQ.out.size).drew)⟩
                case measure => simp [intOf]; omega
            · obtain rfl : k = xs.length := by omega
              have hltz : ¬ (xs.length : Int) < (xs.length : Int) := by omega
              have HF := Lib.hid (HB5.out.trans (HQ.out.mono HB5.out.size))
              clear HQ
              go_wp2
              go_ret
              exact ⟨rfl, HF.out⟩

end Go.Proofs.Ytfpcgancmgeagaa
