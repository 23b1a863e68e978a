/- Contract of the document's Days. -/
import Derived.Test.YtfpcgancmgeagaaRefF
import Derived.Maps.AppendAt
namespace Go.Proofs.Ytfpcgancmgeagaa
open Go.RowKit

/-- A row of days that the call has built, not nil. -/
structure IntRow (w : World) (v : Value) (out : List Int) (W : World) : Prop where
  own : W.ownsRow w.heap.size 2 1 v out.length (out.map (Value.int .i64))
  nn : v ≠ .slice none 0 0
  below : Below w.heap.size w W
theorem IntRow.open {w W : World} {v : Value} {out : List Int} (h : IntRow w v out W) : ∃ g cap, v = .slice (Option.some ⟨g, 0, none⟩) out.length cap ∧ out.length ≤ cap ∧ cap ≤ maxLen ∧ g < W.heap.size ∧ ∀ j, j < out.length → W.cell? ⟨g, j, none⟩ = some (.int .i64 (out.getD j 0)) := by
  rcases h.own.2 with ⟨e, _⟩ | ⟨g, cap, cur, e, hb, hg, hn, hc, hs, ht⟩
  · exact absurd e h.nn
  · refine ⟨g, cap, e, hn, hc, (Array.getElem?_eq_some_iff.1 hg).1, fun j hj => ?_⟩
    have hv : (out.map (Value.int .i64))[j]? = some (.int .i64 (out.getD j 0)) := by
      rw [List.getElem?_map, List.getElem?_eq_getElem hj, List.getD_eq_getElem?_getD, List.getElem?_eq_getElem hj]; rfl
    rw [← ht, List.getElem?_take] at hv
    split at hv
    · simp only [World.cell?, hg]
      simpa using hv
    · cases hv

theorem row_new1 (w : World) (v : Value) (t : TypeId) : ∀ j u, [v][j]? = some u → (w.alloc (.cells #[v] t)).cell? ((⟨w.heap.size, 0, none⟩ : Addr).add j) = some u := by
  intro j u hj
  rw [Addr.add_mid, Nat.zero_add]
  exact ((Blk.new w t [v]).cell j).trans hj
theorem one_int (k : IntKind) (x : Int) : ∀ u ∈ [Value.int k x], u.oneCell' = true := by
  intro u hu
  simp only [List.mem_singleton] at hu
  subst hu
  rfl

set_option maxHeartbeats 2000000 in
set_option maxRecDepth 100000 in
theorem rdays_any (xs : List Sn) (A : Option Addr) (c : Nat) (day : Int) (hd1 : 1 ≤ day) (hd2 : day ≤ 9223372036854775807) (w : World) (hlen : xs.length ≤ 1073741824) (h : SnsAt w A xs) :
    Calls Try.prog 17 #[.slice A xs.length c, .int .i64 day] w fun e w' => ∃ v, e = .returned v ∧ IntRow w v (daysL xs day) w' := by
  obtain ⟨i0, hi, hz0, hz1, hz2⟩ := info_parts A_info_i64
  have HS := Lib.hid h
  have hdd : decide (day ≥ 1) = true := decide_eq_true hd1
  have HD := Lib.hid (And.intro hd1 hd2)
  clear h hd1 hd2
  go_enter Try.func17, Try.ntmps17
  go_wp2_with fail
  go_loopw [5, 6] (fun v i wr => ∃ k : Nat, k ≤ xs.length ∧ i = .int .i64 k ∧ Hid (IntRow w v (rdays xs day k) wr)) (fun _ i _ => xs.length - (intOf i).toNat)
  case atStart =>
    exact ⟨0, Nat.zero_le _, rfl, ⟨⟨rfl, .inr ⟨w.heap.size, 0, #[], rfl, Nat.le_refl _, World.alloc_heap_new w _, Nat.le_refl _, by decide, rfl, rfl⟩⟩, by simp, (Below.refl _ _).alloc (Nat.le_refl _) _⟩⟩
  case round =>
    obtain ⟨k, hk, rfl, HB⟩ := hrel
    by_cases hlt : k < xs.length
    · have hltz : (k : Int) < (xs.length : Int) := by omega
      have hltd : decide (k < xs.length) = true := decide_eq_true hlt
      obtain ⟨b, o, rfl, hblt, hck⟩ := HS.out.time hlt
      have tk : In64 (xs.getD k default).time := by obtain ⟨_, _, _, _, _, ok⟩ := HS.out k hlt; exact ok.2.1
      have hwk : wr.cell? ⟨b, o + k * 37, none⟩ = some (.int .i64 (xs.getD k default).time) := (HB.out.below.cell (p := ⟨b, _, none⟩) hblt).trans hck
      have HR := Lib.hid (rdays_succ xs day k hlt)
      have hrl := rdays_length xs day k (by omega)
      have HD1 := Lib.hid (day_any _ day tk HD.out.1 HD.out.2 wr)
      clear hck tk
      generalize hout : rdays xs day k = out at *
      generalize (xs.getD k default).time = t at *
      generalize hdt : t / day = d at *
      clear hout hdt
      obtain ⟨g, cap, rfl, hoc, hcm, hgl, hcell⟩ := HB.out.open
      have hrow : RowAt wr (some ⟨g, 0, none⟩) (out.map (Value.int .i64)) := fun i v hv => by
        have hil : i < out.length := by have := (List.getElem?_eq_some_iff.1 hv).1; simpa using this
        refine ⟨g, 0, rfl, hgl, ?_⟩
        rw [Nat.zero_add, hcell i hil, ← hv, List.getElem?_map, List.getElem?_eq_getElem hil, List.getD_eq_getElem?_getD, List.getElem?_eq_getElem hil]; rfl
      have HH := Lib.hid (has_any out d (some ⟨g, 0, none⟩) cap wr (by omega) hrow)
      have HCELL := Lib.hid hcell
      clear hrow hcell
      cases hm : decide (d ∈ out)
      · rw [hm] at HH
        have HIN := Lib.hid (insD_out hm)
        clear hm
        go_wp2_with fail
        refine HD1.out.mono ?_
        rintro e w2 ⟨rfl, rfl⟩
        go_wp2_with fail
        refine HH.out.mono ?_
        rintro e w2 ⟨rfl, rfl⟩
        clear HD1 HH hwk
        go_wp2_with fail
        go_loop [8] (fun a => ∃ m : Nat, m ≤ out.length ∧ a = .int .i64 m ∧ Hid (atD out d out.length = atD out d m)) (fun a => (intOf a).toNat)
        case atStart => exact ⟨out.length, Nat.le_refl _, rfl, rfl⟩
        case round =>
          obtain ⟨m, hml, rfl, HM⟩ := hrel
          have hways : (∃ n, m = n + 1 ∧ out.getD n 0 < d) ∨ m = 0 ∨ (∃ n, m = n + 1 ∧ ¬ out.getD n 0 < d) := by
            cases m with
            | zero => exact .inr (.inl rfl)
            | succ n =>
              by_cases h : out.getD n 0 < d
              · exact .inl ⟨n, rfl, h⟩
              · exact .inr (.inr ⟨n, rfl, h⟩)
          rcases hways with ⟨n, rfl, hlt2⟩ | hstop
          · have hcn := HCELL.out n (by omega)
            have HM2 : Hid (atD out d out.length = atD out d n) := by
              have h1 := HM.out
              have h2 : atD out d (n + 1) = atD out d n := by show (if out.getD n 0 < d then atD out d n else n + 1) = _; rw [if_pos hlt2]
              exact h1.trans h2
            generalize out.getD n 0 = e at *
            have hnz : (n : Int) < (out.length : Int) := by omega
            go_wp2
            go_round
            case rel => exact ⟨n, by omega, by go_num, HM2⟩
            case measure => simp [intOf]
          · have HAT : Hid (atD out d out.length = m) := by
              refine HM.out.trans ?_
              rcases hstop with h0 | ⟨n, h0, hn⟩
              · rw [h0]; rfl
              · rw [h0]; show (if out.getD n 0 < d then atD out d n else n + 1) = _
                rw [if_neg hn]
            have HFIN : Hid (insD out d = out.take m ++ [d] ++ out.drop m) := by have := HIN.out; rwa [HAT.out] at this
            have hmz : (m : Int) ≤ (cap : Int) := by omega
            have hmz2 : (m : Int) ≤ (out.length : Int) := by omega
            have hlz : (out.length : Int) ≤ (cap : Int) := by omega
            have htl : (out.take m).length = m := by rw [List.length_take]; omega
            have hdl : (out.drop m).length = out.length - m := by rw [List.length_drop]
            have HTD := Lib.hid (And.intro htl hdl)
            have hstop2 : (¬ 0 < m) ∨ (0 < m ∧ ∃ e, wr.cell? ⟨g, m - 1, none⟩ = some (.int .i64 e) ∧ decide (e < d) = false) := by
              rcases hstop with h0 | ⟨n, h0, hn⟩
              · exact .inl (by omega)
              · exact .inr ⟨by omega, out.getD n 0, by rw [h0]; exact HCELL.out n (by omega), decide_eq_false hn⟩
            have HTK : Hid (∀ W, Below wr.heap.size wr W → ∀ j u, ((out.take m).map (Value.int .i64))[j]? = some u → W.cell? ((⟨g, 0, none⟩ : Addr).add j) = some u) := by
              intro W hW j u hu
              rw [Addr.add_mid, Nat.zero_add, hW.cell (p := ⟨g, j, none⟩) hgl]
              have hj : j < out.length := by have := (List.getElem?_eq_some_iff.1 hu).1; simp at this; omega
              rw [HCELL.out j hj, ← hu, List.getElem?_map, List.getElem?_take, if_pos (by have := (List.getElem?_eq_some_iff.1 hu).1; simp at this; omega), List.getElem?_eq_getElem hj, List.getD_eq_getElem?_getD, List.getElem?_eq_getElem hj]; rfl
            have HDK : Hid (∀ W, Below wr.heap.size wr W → ∀ j u, ((out.drop m).map (Value.int .i64))[j]? = some u → W.cell? ((⟨g, m, none⟩ : Addr).add j) = some u) := by
              intro W hW j u hu
              rw [Addr.add_mid, hW.cell (p := ⟨g, m + j, none⟩) hgl]
              have hj : m + j < out.length := by have := (List.getElem?_eq_some_iff.1 hu).1; simp at this; omega
              rw [HCELL.out (m + j) hj, ← hu, List.getElem?_map, List.getElem?_drop, List.getElem?_eq_getElem hj, List.getD_eq_getElem?_getD, List.getElem?_eq_getElem hj]; rfl
            have HW0 : Hid (Below wr.heap.size wr (wr.alloc (.cells #[] 2)) ∧ (wr.alloc (.cells #[] 2)).ownsRow wr.heap.size 2 1 (.slice (some ⟨wr.heap.size, 0, none⟩) 0 0) 0 []) :=
              ⟨(Below.refl _ _).alloc (Nat.le_refl _) _, rfl, .inr ⟨_, 0, #[], rfl, Nat.le_refl _, World.alloc_heap_new wr _, Nat.le_refl _, by decide, rfl, rfl⟩⟩
            have hone : ∀ l : List Int, ∀ u ∈ l.map (Value.int .i64), u.oneCell' = true := by
              intro l u hu
              obtain ⟨x, _, rfl⟩ := List.mem_map.1 hu
              rfl
            have HONE := Lib.hid hone
            have hFM : (insD out d).map (Value.int .i64) = (out.take m).map (Value.int .i64) ++ [.int .i64 d] ++ (out.drop m).map (Value.int .i64) := by rw [HFIN.out]; simp only [List.map_append, List.map_cons, List.map_nil]
            have hFL : (insD out d).length = out.length + 1 := by rw [HFIN.out]; simp; omega
            have HFM := Lib.hid (And.intro hFM hFL)
            have HOT := Lib.hid (HONE.out (out.take m))
            have HOD := Lib.hid (HONE.out (out.drop m))
            have HLL : Hid (((out.take m).map (Value.int .i64)).length = m * 1 ∧ ((out.drop m).map (Value.int .i64)).length = (out.length - m) * 1) := by
              simp only [List.length_map, Nat.mul_one]; exact HTD.out
            obtain ⟨LT, hLT⟩ : ∃ LT, (out.take m).map (Value.int .i64) = LT := ⟨_, rfl⟩
            obtain ⟨LD, hLD⟩ : ∃ LD, (out.drop m).map (Value.int .i64) = LD := ⟨_, rfl⟩
            rw [hLT] at HTK HFM HOT HLL
            rw [hLD] at HDK HFM HOD HLL
            clear htl hdl HM HIN HAT hstop hone hFM hFL hLT hLD HFIN HTD HONE
            by_cases hmc : m = cap
            · subst hmc
              have hol : out.length = m := by omega
              have HOL := Lib.hid hol
              clear hol
              rcases hstop2 with h0 | ⟨h0, e, hce, hed⟩
              all_goals
                go_wp2_with (first | (refine wpList_append_own _ rfl (.tmp 46) (.tmp 49) 33 rfl wr.heap.size 2 i0 (.int .i64 0) 1 8 Try.underlying33 hi hz0 hz1 hz2 rfl (by decide) _ _ _ rfl HW0.out.2 ⟨g, 0, none⟩ m m LT rfl HLL.out.1 (HTK.out _ HW0.out.1) HOT.out (by unfold maxLen; omega) (by omega) (by simp) ?_) | fail)
                intro v1 w1 hown1 hg1 hnil1
                try simp only [Nat.zero_add, List.nil_append] at hown1
                have HW1 : Hid (Below wr.heap.size wr w1 ∧ w1.ownsRow wr.heap.size 2 1 v1 m LT ∧ v1 ≠ .slice none 0 0) :=
                  ⟨HW0.out.1.grown hg1 (by simp) (fun j hj => (HW0.out.2.lt j hj).1), hown1, by first | exact hnil1 | exact fun e => by have := (hnil1.1 e).1; cases this⟩
                clear hown1 hg1 hnil1
                go_wp2_with (first | (refine wpList_append_own _ rfl (.tmp 51) (.tmp 53) 33 rfl wr.heap.size 2 i0 (.int .i64 0) 1 8 Try.underlying33 hi hz0 hz1 hz2 rfl (by decide) _ _ _ rfl (HW1.out.2.1.alloc _) ⟨_, 0, none⟩ 1 1 [.int .i64 d] rfl rfl (row_new1 _ _ _) (one_int _ _) (by unfold maxLen; omega) (by omega) (by have := HW1.out.1.size; simp; omega) ?_) | fail)
                intro v2 w2 hown2 hg2 hnil2
                have HW2 : Hid (Below wr.heap.size wr w2 ∧ w2.ownsRow wr.heap.size 2 1 v2 (m + 1) (LT ++ [.int .i64 d]) ∧ v2 ≠ .slice none 0 0) :=
                  ⟨(HW1.out.1.alloc HW1.out.1.size _).grown hg2 (by have := HW1.out.1.size; simp; omega) (fun j hj => (HW1.out.2.1.lt j hj).1), hown2, by first | exact hnil2 | exact fun e => by have := (hnil2.1 e).2; omega⟩
                clear hown2 hg2 hnil2 HW1
                go_wp2_with (first | (refine wpList_append_own _ rfl (.tmp 55) (.tmp 58) 33 rfl wr.heap.size 2 i0 (.int .i64 0) 1 8 Try.underlying33 hi hz0 hz1 hz2 rfl (by decide) _ _ _ rfl HW2.out.2.1 ⟨g, 0, none⟩ _ _ [] rfl (by simp; try omega) (by simp) (by simp) (by unfold maxLen; omega) (by omega) HW2.out.1.size ?_) | fail)
                intro v3 w3 hown3 hg3 hnil3
                have HW3 : Hid (IntRow w v3 (insD out d) w3) := by
                  have hb3 : Below wr.heap.size wr w3 := HW2.out.1.grown hg3 HW2.out.1.size (fun j hj => (HW2.out.2.1.lt j hj).1)
                  refine ⟨?_, ?_, HB.out.below.trans (hb3.mono HB.out.below.size)⟩
                  · rw [HFM.out.1, HFM.out.2]
                    have h3 := own_mono hown3 HB.out.below.size
                    have hLD0 : LD = [] := List.length_eq_zero_iff.1 (by have h1 := HLL.out.2; have h2 := HOL.out; omega)
                    rw [hLD0, List.append_nil, HOL.out]
                    exact h3
                  · intro e
                    exact HW2.out.2.2 (hnil3.1 e)
                clear hown3 hg3 hnil3 HW2
                go_wp2
                go_roundw
                case rel => exact ⟨k + 1, by omega, by go_num, by rw [HR.out]; exact HW3⟩
                case measure => simp [intOf]; omega
            · have hmc2 : ¬ (m : Int) = (cap : Int) := by omega
              rcases hstop2 with h0 | ⟨h0, e, hce, hed⟩
              all_goals
                go_wp2_with (first | (refine wpList_append_own _ rfl (.tmp 46) (.tmp 49) 33 rfl wr.heap.size 2 i0 (.int .i64 0) 1 8 Try.underlying33 hi hz0 hz1 hz2 rfl (by decide) _ _ _ rfl HW0.out.2 ⟨g, 0, none⟩ m cap LT rfl HLL.out.1 (HTK.out _ HW0.out.1) HOT.out (by unfold maxLen; omega) (by omega) (by simp) ?_) | fail)
                intro v1 w1 hown1 hg1 hnil1
                try simp only [Nat.zero_add, List.nil_append] at hown1
                have HW1 : Hid (Below wr.heap.size wr w1 ∧ w1.ownsRow wr.heap.size 2 1 v1 m LT ∧ v1 ≠ .slice none 0 0) :=
                  ⟨HW0.out.1.grown hg1 (by simp) (fun j hj => (HW0.out.2.lt j hj).1), hown1, by first | exact hnil1 | exact fun e => by have := (hnil1.1 e).1; cases this⟩
                clear hown1 hg1 hnil1
                go_wp2_with (first | (refine wpList_append_own _ rfl (.tmp 51) (.tmp 53) 33 rfl wr.heap.size 2 i0 (.int .i64 0) 1 8 Try.underlying33 hi hz0 hz1 hz2 rfl (by decide) _ _ _ rfl (HW1.out.2.1.alloc _) ⟨_, 0, none⟩ 1 1 [.int .i64 d] rfl rfl (row_new1 _ _ _) (one_int _ _) (by unfold maxLen; omega) (by omega) (by have := HW1.out.1.size; simp; omega) ?_) | fail)
                intro v2 w2 hown2 hg2 hnil2
                have HW2 : Hid (Below wr.heap.size wr w2 ∧ w2.ownsRow wr.heap.size 2 1 v2 (m + 1) (LT ++ [.int .i64 d]) ∧ v2 ≠ .slice none 0 0) :=
                  ⟨(HW1.out.1.alloc HW1.out.1.size _).grown hg2 (by have := HW1.out.1.size; simp; omega) (fun j hj => (HW1.out.2.1.lt j hj).1), hown2, by first | exact hnil2 | exact fun e => by have := (hnil2.1 e).2; omega⟩
                clear hown2 hg2 hnil2 HW1
                go_wp2_with (first | (refine wpList_append_own _ rfl (.tmp 55) (.tmp 58) 33 rfl wr.heap.size 2 i0 (.int .i64 0) 1 8 Try.underlying33 hi hz0 hz1 hz2 rfl (by decide) _ _ _ rfl HW2.out.2.1 ⟨g, m, none⟩ (out.length - m) (cap - m) LD rfl HLL.out.2 (HDK.out _ HW2.out.1) HOD.out (by unfold maxLen; omega) (by omega) HW2.out.1.size ?_) | fail)
                intro v3 w3 hown3 hg3 hnil3
                have HW3 : Hid (IntRow w v3 (insD out d) w3) := by
                  have hb3 : Below wr.heap.size wr w3 := HW2.out.1.grown hg3 HW2.out.1.size (fun j hj => (HW2.out.2.1.lt j hj).1)
                  refine ⟨?_, ?_, HB.out.below.trans (hb3.mono HB.out.below.size)⟩
                  · rw [HFM.out.1, HFM.out.2]
                    have h3 := own_mono hown3 HB.out.below.size
                    rw [List.append_assoc, List.singleton_append]
                    rwa [show m + 1 + (out.length - m) = out.length + 1 by omega] at h3
                  · intro e
                    have h4 : v2 = .slice none 0 0 ∧ out.length - m = 0 := by first | exact hnil3.1 e | exact absurd e hnil3 | simp_all
                    exact HW2.out.2.2 h4.1
                clear hown3 hg3 hnil3 HW2
                go_wp2
                go_roundw
                case rel => exact ⟨k + 1, by omega, by go_num, by rw [HR.out]; exact HW3⟩
                case measure => simp [intOf]; omega
      · rw [hm] at HH
        have HIN := Lib.hid (insD_in hm)
        clear hm
        go_wp2_with fail
        refine HD1.out.mono ?_
        rintro e w2 ⟨rfl, rfl⟩
        go_wp2_with fail
        refine HH.out.mono ?_
        rintro e w2 ⟨rfl, rfl⟩
        clear HD1 HH hwk
        go_wp2
        go_roundw
        case rel => exact ⟨k + 1, by omega, by go_num, by rw [HR.out, HIN.out]; exact HB⟩
        case measure => simp [intOf]; omega
    · obtain rfl : k = xs.length := by omega
      have hltz : ¬ (xs.length : Int) < (xs.length : Int) := by omega
      have HA := Lib.hid (rdays_days xs day HD.out.1)
      go_wp2
      go_ret
      exact ⟨_, rfl, by rw [← HA.out]; exact HB.out⟩

set_option maxRecDepth 100000 in
theorem rdays_none (A : Option Addr) (n c : Nat) (day : Int) (hd1 : day < 1) (w : World) (hlen : n ≤ 1073741824) :
    Calls Try.prog 17 #[.slice A n c, .int .i64 day] w fun e w' => ∃ v, e = .returned v ∧ IntRow w v [] w' := by
  have hdd : decide (day ≥ 1) = false := decide_eq_false (by omega)
  have HI : Hid (IntRow w (.slice (some ⟨w.heap.size, 0, none⟩) 0 0) [] (w.alloc (.cells #[] 2))) := ⟨⟨rfl, .inr ⟨w.heap.size, 0, #[], rfl, Nat.le_refl _, World.alloc_heap_new w _, Nat.le_refl _, by decide, rfl, rfl⟩⟩, by simp, (Below.refl _ _).alloc (Nat.le_refl _) _⟩
  by_cases h0 : 0 < n
  · have hz : (0 : Int) < (n : Int) := by omega
    go_enter Try.func17, Try.ntmps17
    go_wp2_with fail
    refine wp_loop_rounds 1 ?_
    rw [rounds_succ]
    go_wp2
    go_ret
    exact ⟨_, rfl, HI.out⟩
  · obtain rfl : n = 0 := by omega
    go_enter Try.func17, Try.ntmps17
    go_wp2_with fail
    refine wp_loop_rounds 1 ?_
    rw [rounds_succ]
    go_wp2
    go_ret
    exact ⟨_, rfl, HI.out⟩

theorem refdays_any (xs : List Sn) (A : Option Addr) (c : Nat) (day : Int) (hd2 : In64 day) (w : World) (hlen : xs.length ≤ 1073741824) (h : SnsAt w A xs) :
    Calls Try.prog 17 #[.slice A xs.length c, .int .i64 day] w fun e w' => ∃ v, e = .returned v ∧ IntRow w v (daysL xs day) w' := by
  by_cases h1 : day < 1
  · rw [daysL_zero xs day h1]
    exact rdays_none A xs.length c day h1 w hlen
  · exact rdays_any xs A c day (by omega) hd2.2 w hlen h

end Go.Proofs.Ytfpcgancmgeagaa
