/- The library's stable sort of snapshots by a function: insertion. Written by gen_vsort.py out of the text for whole numbers. -/
import Derived.Test.YtfpcgancmgeagaaVSwap
namespace Go.Proofs.Ytfpcgancmgeagaa
open Go.RowKit

/-- What is asked of the comparing function: in every world that the sort passes through it answers cf, laying blocks of its own alone. -/
structure CmpOkV (fn : FuncId) (cap : Array Value) (cf : Int → Int → Int) (ss : List Sn) (g : Nat) (E : World → Prop) : Prop where
  enters : ∀ args w, (callFunc fn args).run Try.prog w = .ok (.enter fn args) w
  keeps : ∀ w w', E w → Mod (· = g) w w' → E w'
  calls : ∀ w x y, E w → InV ss x → InV ss y → Calls Try.prog fn (#[.agg (snAt ss x).arr, .agg (snAt ss y).arr] ++ cap) w fun e w' => e = .returned (.int .i64 (cf x y)) ∧ Below w.heap.size w w'

set_option maxHeartbeats 1000000 in
set_option maxRecDepth 100000 in
theorem insertionV (fn : FuncId) (cap : Array Value) (cf : Int → Int → Int) (ss : List Sn) (hok : ∀ s ∈ ss, s.ok) (g : Nat) (E : World → Prop) (hcmp : CmpOkV fn cap cf ss g E) (t : TypeId) (rest : List Value) (xs : List Int) (c a b : Nat) (w : World)
    (hE : E w) (hD : ∀ x ∈ xs, InV ss x) (hd : DatV ss w g t rest xs) (hab : a ≤ b) (hb : b ≤ xs.length) (hn : xs.length ≤ 1073741824) :
    Calls Try.prog 112 #[.slice (some ⟨g, 0, none⟩) xs.length c, .int .i64 a, .int .i64 b, .func (.func fn) #[] cap] w fun e w' =>
      e = .returned (.tuple #[]) ∧ Mod (· = g) w w' ∧ DatV ss w' g t rest (insOuter cf a (a + 1) (b - (a + 1)) xs) := by
  have HC := Lib.hid hcmp
  have HE := Lib.hid hE
  have HD := Lib.hid hd
  have HX := Lib.hid hD
  have HOK := Lib.hid hok
  clear hcmp hE hd hD hok
  go_enter Try.func112, Try.ntmps112
  go_wp2_with fail
  go_loopg [8] (b - a) (fun g1 vi wr => ∃ (i : Nat) (xi : List Int), vi = .int .i64 i ∧ a < i ∧ i ≤ b + 1 ∧ b - i ≤ g1 ∧ xi.length = xs.length ∧ Hid (Mod (· = g) w wr ∧ DatV ss wr g t rest xi ∧ E wr ∧ (∀ x ∈ xi, InV ss x) ∧ insOuter cf a i (b - i) xi = insOuter cf a (a + 1) (b - (a + 1)) xs))
  case atStart => exact ⟨a + 1, xs, by go_num, by omega, by omega, by omega, rfl, ⟨Mod.refl _ _, HD.out, HE.out, HX.out, rfl⟩⟩
  case round =>
    obtain ⟨i, xi, rfl, hai, hib, hg1, hsk, HI⟩ := hrel
    by_cases hlt : i < b
    · have hltz : (i : Int) < (b : Int) := by omega
      go_wp2_with fail
      obtain ⟨HM, HDi, HEi, HXi, HOi⟩ := HI.out
      have HI2 : Hid (Mod (· = g) w wr ∧ DatV ss wr g t rest xi ∧ E wr ∧ (∀ x ∈ xi, InV ss x) ∧ insInner cf a i xi = insInner cf a i xi) := ⟨HM, HDi, HEi, HXi, rfl⟩
      have HO := Lib.hid HOi
      clear HM HDi HEi HXi HOi HI
      go_loopg [9] i (fun g2 vj wr2 => ∃ (j : Nat) (xj : List Int), vj = .int .i64 j ∧ a ≤ j ∧ j ≤ i ∧ j ≤ g2 ∧ xj.length = xs.length ∧ Hid (Mod (· = g) w wr2 ∧ DatV ss wr2 g t rest xj ∧ E wr2 ∧ (∀ x ∈ xj, InV ss x) ∧ insInner cf a j xj = insInner cf a i xi))
      case atStart => exact ⟨i, xi, rfl, by omega, Nat.le_refl _, Nat.le_refl _, hsk, HI2⟩
      case round =>
        clear HI2
        obtain ⟨j, xj, rfl, haj, hji, hg2, hsj, HI⟩ := hrel
        by_cases hja : a < j
        · obtain ⟨jp, rfl⟩ : ∃ q, j = q + 1 := ⟨j - 1, by omega⟩
          have hjad : decide ((jp : Int) + 1 > (a : Int)) = true := decide_eq_true (by omega)
          have hjaz' : (a : Int) < (jp : Int) + 1 := by omega
          have hb0 : (0 : Int) ≤ (jp : Int) + 1 := by omega
          have hb1 : (jp : Int) + 1 < (xs.length : Int) := by omega
          have hb2 : (jp : Int) < (xs.length : Int) := by omega
          have hw1 : IntKind.i64.wrap (jp : Int) = (jp : Int) := by rw [IntKind.wrap_i64]; omega
          obtain ⟨HM, HDi, HEi, HXi, HOi⟩ := HI.out
          have hx : xj.getD (jp + 1) 0 ∈ xj := by rw [List.getD_eq_getElem?_getD, List.getElem?_eq_getElem (by omega)]; simp
          have hy : xj.getD jp 0 ∈ xj := by rw [List.getD_eq_getElem?_getD, List.getElem?_eq_getElem (by omega)]; simp
          have l1 : Hid (∀ W, (∃ p : In (fun W => Below wr.heap.size wr W), W = p.world) → W.rangeAt g ((jp + 1) * 37) (snAt ss (xj.getD (jp + 1) 0)).cells) := by rintro _ ⟨p, rfl⟩; exact (HDi.below p.ok (Blk.lt HDi)).range HOK.out HXi (by omega)
          have l2 : Hid (∀ W, (∃ p : In (fun W => Below wr.heap.size wr W), W = p.world) → W.rangeAt g (jp * 37) (snAt ss (xj.getD jp 0)).cells) := by rintro _ ⟨p, rfl⟩; exact (HDi.below p.ok (Blk.lt HDi)).range HOK.out HXi (by omega)
          have K1 := Lib.hid (snAt_ok HOK.out (HXi _ hx))
          have K2 := Lib.hid (snAt_ok HOK.out (HXi _ hy))
          have ecall := HC.out.enters
          have hcall : Hid (∀ p : In (fun W => Below wr.heap.size wr W), Calls Try.prog fn (#[.agg (snAt ss (xj.getD (jp + 1) 0)).arr, .agg (snAt ss (xj.getD jp 0)).arr] ++ cap) p.world fun e w'' => e = .returned (.int .i64 (cf (xj.getD (jp + 1) 0) (xj.getD jp 0))) ∧ ∃ q : In (fun W => Below wr.heap.size wr W), w'' = q.world) := fun p =>
            Calls.into (HC.out.calls p.world _ _ (HC.out.keeps _ _ HEi (Mod.of_below p.ok _)) (HXi _ hx) (HXi _ hy)) fun e w' h => ⟨h.1, p.ok.trans (h.2.mono p.ok.size)⟩
          clear HM HDi HEi HXi HOi hx hy
          generalize hx1 : xj.getD (jp + 1) 0 = x at *
          generalize hy1 : xj.getD jp 0 = y at *
          have HX1 := Lib.hid hx1
          have HY1 := Lib.hid hy1
          clear hx1 hy1
          by_cases hlv : cf x y < 0
          · have hd1 : decide (cf x y < 0) = true := decide_eq_true hlv
            go_wp2_with fail
            refine wp_region_in (fun W => Below wr.heap.size wr W) (Below.refl _ _).drew (by kernel_rfl) (by kernel_rfl) ?_
            repeat (first | (refine wpQuiet_load_mid rfl 42 (.tmp 25) rfl g ((jp + 1) * 37) rfl _ _ l1.out Try.underlying42 rfl (snap_cells' _ K1.out) ?_; simp only [Act.put, List.setIfInBounds_toArray, List.set_cons_zero, List.set_cons_succ]) | (refine wpQuiet_load_mid rfl 42 (.tmp 30) rfl g (jp * 37) rfl _ _ l2.out Try.underlying42 rfl (snap_cells' _ K2.out) ?_; simp only [Act.put, List.setIfInBounds_toArray, List.set_cons_zero, List.set_cons_succ]) | (quiet_step (exact hcall.out _)))
            refine wpQuiet_nil ?_
            rintro w2 ⟨⟨_, hw2⟩, rfl⟩
            clear l1 l2 hcall ecall
            obtain ⟨HM, HDi, HEi, HXi, HOi⟩ := HI.out
            have HD2 := HDi.below hw2 (Blk.lt HDi)
            have HS2 : SortsV ss g t rest E w w2 xj := ⟨HM.trans (Mod.of_below hw2 _), HD2, HC.out.keeps _ _ HEi (Mod.of_below hw2 _)⟩
            have hdr : DatV ss w2.drew g t rest xj := HD2
            have hym : InV ss y := by rw [← HY1.out]; exact HXi _ (getD_mem xj jp (by omega))
            have RX : Hid (w2.drew.rangeAt g ((jp + 1) * 37) (snAt ss x).cells) := by rw [← HX1.out]; exact hdr.range HOK.out HXi (by omega)
            have RY : Hid (w2.drew.rangeAt g (jp * 37) (snAt ss y).cells) := by rw [← HY1.out]; exact hdr.range HOK.out HXi (by omega)
            have hst := hdr.store HOK.out HXi (i := jp + 1) (by omega) hym
            have HT1 : Hid (w2.drew.there g ((jp + 1) * 37) (snAt ss y).arr.size) := by rw [(snAt ss y).size K2.out]; exact hdr.there HOK.out HXi (by omega)
            have HT2 : Hid ((w2.drew.setCells g ((jp + 1) * 37) (snAt ss y).arr.toList).there g (jp * 37) (snAt ss x).arr.size) := by
              rw [(snAt ss x).size K1.out]; exact hst.there HOK.out (set_in HXi hym _) (by simp; omega)
            have hex := exchangedV HOK.out HC.out.keeps HXi HS2 (jp + 1) jp (by omega) (by omega) x y HX1.out HY1.out
            have HN : Hid (Mod (· = g) w ((w2.drew.setCells g ((jp + 1) * 37) (snAt ss y).arr.toList).setCells g (jp * 37) (snAt ss x).arr.toList) ∧ DatV ss ((w2.drew.setCells g ((jp + 1) * 37) (snAt ss y).arr.toList).setCells g (jp * 37) (snAt ss x).arr.toList) g t rest (swp xj (jp + 1) jp) ∧ E ((w2.drew.setCells g ((jp + 1) * 37) (snAt ss y).arr.toList).setCells g (jp * 37) (snAt ss x).arr.toList) ∧ (∀ z ∈ swp xj (jp + 1) jp, InV ss z) ∧ insInner cf a jp (swp xj (jp + 1) jp) = insInner cf a i xi) := by
              refine ⟨hex.1, hex.2.1, hex.2.2, ?_, ?_⟩
              · intro z hz
                exact HXi z (mem_swp xj (jp + 1) jp (by omega) (by omega) hz)
              · rw [← HOi, insInner_go _ _ _ _ _ _ HX1.out HY1.out (by omega) hlv]
            clear HD2 HS2 hdr hym hst hex HM HDi HEi HXi HOi HI hw2
            go_wp2_with fail
            refine wp_region_any (by kernel_rfl) ?_
            change wpAny _ _ _ _ _ _ _ (World.drew _)
            refine any_take (i := 0) (v := ?_) 37 rfl rfl (by kernel_rfl) (by kernel_rfl) (by kernel_rfl) (fun _ _ _ h => h) (Or.inl ⟨by rfl, ?_⟩) ?_
            rotate_left
            · (intro w; go_simp; try (with_reducible rfl))
            simp only [List.setIfInBounds_toArray, List.set_cons_zero, List.set_cons_succ]
            refine any_take (i := 1) (v := ?_) 38 rfl rfl (by kernel_rfl) (by kernel_rfl) (by kernel_rfl) (fun _ _ _ h => h) (Or.inl ⟨by rfl, ?_⟩) ?_
            rotate_left
            · (intro w; go_simp; try (with_reducible rfl))
            simp only [List.setIfInBounds_toArray, List.set_cons_zero, List.set_cons_succ]
            refine any_take (i := 2) (v := ?_) 39 rfl rfl (by kernel_rfl) (by kernel_rfl) (by kernel_rfl) (fun _ _ _ h => h) (Or.inl ⟨by rfl, ?_⟩) ?_
            rotate_left
            · (intro w; go_simp; try (with_reducible rfl))
            simp only [List.setIfInBounds_toArray, List.set_cons_zero, List.set_cons_succ]
            refine any_take (i := 3) (v := ?_) 40 rfl rfl (by kernel_rfl) (by kernel_rfl) (by kernel_rfl) (fun _ _ _ h => h) (Or.inl ⟨by rfl, ?_⟩) ?_
            rotate_left
            · (intro w; go_simp; try (with_reducible rfl))
            simp only [List.setIfInBounds_toArray, List.set_cons_zero, List.set_cons_succ]
            refine any_take (i := 4) (v := ?_) 41 rfl rfl (by kernel_rfl) (by kernel_rfl) (by kernel_rfl) (fun _ _ _ h => h) (Or.inl ⟨by rfl, ?_⟩) ?_
            rotate_left
            · (intro w; go_simp; try (with_reducible rfl))
            simp only [List.setIfInBounds_toArray, List.set_cons_zero, List.set_cons_succ]
            refine any_take (i := 5) (v := ?_) 42 rfl rfl (by kernel_rfl) (by kernel_rfl) (by kernel_rfl) (fun _ _ _ h => h) (Or.inl ⟨by rfl, ?_⟩) ?_
            rotate_left
            · (intro w; go_simp; try (with_reducible rfl))
            simp only [List.setIfInBounds_toArray, List.set_cons_zero, List.set_cons_succ]
            refine any_take (i := 6) (v := ?_) 43 rfl rfl (by kernel_rfl) (by kernel_rfl) (by kernel_rfl) (fun _ _ _ h => h) (Or.inl ⟨by rfl, ?_⟩) ?_
            rotate_left
            · (intro w; go_simp; try (with_reducible rfl))
            simp only [List.setIfInBounds_toArray, List.set_cons_zero, List.set_cons_succ]
            refine any_take (i := 7) (v := ?_) 44 rfl rfl (by kernel_rfl) (by kernel_rfl) (by kernel_rfl) (fun _ _ _ h => h) (Or.inl ⟨by rfl, ?_⟩) ?_
            rotate_left
            · (intro w; go_simp; try (with_reducible rfl))
            simp only [List.setIfInBounds_toArray, List.set_cons_zero, List.set_cons_succ]
            refine any_take (i := 8) (v := ?_) 45 rfl rfl (by kernel_rfl) (by kernel_rfl) (by kernel_rfl) (fun _ _ _ h => h) (Or.inl ⟨by rfl, ?_⟩) ?_
            rotate_left
            · (intro w; go_simp; try (with_reducible rfl))
            simp only [List.setIfInBounds_toArray, List.set_cons_zero, List.set_cons_succ]
            refine any_take (i := 10) (v := ?_) 47 rfl rfl (by kernel_rfl) (by kernel_rfl) (by kernel_rfl) (fun _ _ _ h => h) (Or.inl ⟨by rfl, ?_⟩) ?_
            rotate_left
            · (intro w; go_simp; try (with_reducible rfl))
            simp only [List.setIfInBounds_toArray, List.set_cons_zero, List.set_cons_succ]
            refine any_take (i := 11) (v := ?_) 48 rfl rfl (by kernel_rfl) (by kernel_rfl) (by kernel_rfl) (fun _ _ _ h => h) (Or.inl ⟨by rfl, ?_⟩) ?_
            rotate_left
            · (intro w; go_simp; try (with_reducible rfl))
            simp only [List.setIfInBounds_toArray, List.set_cons_zero, List.set_cons_succ]
            refine any_take (i := 12) (v := ?_) 49 rfl rfl (by kernel_rfl) (by kernel_rfl) (by kernel_rfl) (fun _ _ _ h => h) (Or.inl ⟨by rfl, ?_⟩) ?_
            rotate_left
            · (intro w; go_simp; try (with_reducible rfl))
            simp only [List.setIfInBounds_toArray, List.set_cons_zero, List.set_cons_succ]
            refine any_two (i := 9) (j := 13) (by kernel_rfl) rfl rfl (by rfl) (by rfl) (fun K hK => ?_) (fun K hK => ?_)
            refine load_mid 46 rfl 42 (.tmp 45) rfl g (jp * 37) rfl (snAt ss y).cells _ RY.out Try.underlying42 rfl (snap_cells' _ K2.out) ?_
            refine hK _ _ ?_
            clear hK K
            simp only [List.setIfInBounds_toArray, List.set_cons_zero, List.set_cons_succ]
            refine any_one (i := 13) (by kernel_rfl) rfl (by rfl) (fun K hK => ?_)
            refine load_mid 50 rfl 42 (.tmp 49) rfl g ((jp + 1) * 37) rfl (snAt ss x).cells _ RX.out Try.underlying42 rfl (snap_cells' _ K1.out) ?_
            refine hK _ _ ?_
            clear hK K
            simp only [List.setIfInBounds_toArray, List.set_cons_zero, List.set_cons_succ]
            refine any_take (i := 14) (v := ?_) 51 rfl rfl (by kernel_rfl) (by kernel_rfl) (by kernel_rfl) (fun _ _ _ h => h) (Or.inl ⟨by rfl, ?_⟩) ?_
            rotate_left
            · (intro w; go_simp; try (with_reducible rfl))
            simp only [List.setIfInBounds_toArray, List.set_cons_zero, List.set_cons_succ]
            refine any_one (i := 15) (by kernel_rfl) rfl (by rfl) (fun K hK => ?_)
            refine store_mid rfl 42 (.tmp 51) (.tmp 46) rfl g ((jp + 1) * 37) (snAt ss y).arr rfl rfl HT1.out (snap_cells _ K2.out) (cells_one _) ?_
            refine hK _ _ ?_
            clear hK K
            refine any_take (i := 16) (v := ?_) 52 rfl rfl (by kernel_rfl) (by kernel_rfl) (by kernel_rfl) (fun _ _ _ h => h) (Or.inl ⟨by rfl, ?_⟩) ?_
            rotate_left
            · (intro w; go_simp; try (with_reducible rfl))
            simp only [List.setIfInBounds_toArray, List.set_cons_zero, List.set_cons_succ]
            refine any_one (i := 17) (by kernel_rfl) rfl (by rfl) (fun K hK => ?_)
            refine store_mid rfl 42 (.tmp 52) (.tmp 50) rfl g (jp * 37) (snAt ss x).arr rfl rfl HT2.out (snap_cells _ K1.out) (cells_one _) ?_
            refine hK _ _ ?_
            clear hK K
            refine wpAny_done (by kernel_rfl) ?_ _
            rotate_left
            refine load_mid 50 rfl 42 (.tmp 49) rfl g ((jp + 1) * 37) rfl (snAt ss x).cells _ RX.out Try.underlying42 rfl (snap_cells' _ K1.out) ?_
            refine hK _ _ ?_
            clear hK K
            simp only [List.setIfInBounds_toArray, List.set_cons_zero, List.set_cons_succ]
            refine any_one (i := 9) (by kernel_rfl) rfl (by rfl) (fun K hK => ?_)
            refine load_mid 46 rfl 42 (.tmp 45) rfl g (jp * 37) rfl (snAt ss y).cells _ RY.out Try.underlying42 rfl (snap_cells' _ K2.out) ?_
            refine hK _ _ ?_
            clear hK K
            simp only [List.setIfInBounds_toArray, List.set_cons_zero, List.set_cons_succ]
            refine any_take (i := 14) (v := ?_) 51 rfl rfl (by kernel_rfl) (by kernel_rfl) (by kernel_rfl) (fun _ _ _ h => h) (Or.inl ⟨by rfl, ?_⟩) ?_
            rotate_left
            · (intro w; go_simp; try (with_reducible rfl))
            simp only [List.setIfInBounds_toArray, List.set_cons_zero, List.set_cons_succ]
            refine any_one (i := 15) (by kernel_rfl) rfl (by rfl) (fun K hK => ?_)
            refine store_mid rfl 42 (.tmp 51) (.tmp 46) rfl g ((jp + 1) * 37) (snAt ss y).arr rfl rfl HT1.out (snap_cells _ K2.out) (cells_one _) ?_
            refine hK _ _ ?_
            clear hK K
            refine any_take (i := 16) (v := ?_) 52 rfl rfl (by kernel_rfl) (by kernel_rfl) (by kernel_rfl) (fun _ _ _ h => h) (Or.inl ⟨by rfl, ?_⟩) ?_
            rotate_left
            · (intro w; go_simp; try (with_reducible rfl))
            simp only [List.setIfInBounds_toArray, List.set_cons_zero, List.set_cons_succ]
            refine any_one (i := 17) (by kernel_rfl) rfl (by rfl) (fun K hK => ?_)
            refine store_mid rfl 42 (.tmp 52) (.tmp 50) rfl g (jp * 37) (snAt ss x).arr rfl rfl HT2.out (snap_cells _ K1.out) (cells_one _) ?_
            refine hK _ _ ?_
            clear hK K
            refine wpAny_done (by kernel_rfl) ?_ _
            all_goals clear RX RY HT1 HT2
            all_goals generalize (w2.drew.setCells g ((jp + 1) * 37) (snAt ss y).arr.toList).setCells g (jp * 37) (snAt ss x).arr.toList = w3 at *
            all_goals
              go_wp2
              go_roundg jp
              case measure => omega
              case rel => exact ⟨jp, swp xj (jp + 1) jp, rfl, by omega, by omega, Nat.le_refl _, by rw [swp_length]; exact hsj, HN⟩
          · have hd1 : decide (cf x y < 0) = false := decide_eq_false hlv
            go_wp2_with fail
            refine wp_region_in (fun W => Below wr.heap.size wr W) (Below.refl _ _).drew (by kernel_rfl) (by kernel_rfl) ?_
            repeat (first | (refine wpQuiet_load_mid rfl 42 (.tmp 25) rfl g ((jp + 1) * 37) rfl _ _ l1.out Try.underlying42 rfl (snap_cells' _ K1.out) ?_; simp only [Act.put, List.setIfInBounds_toArray, List.set_cons_zero, List.set_cons_succ]) | (refine wpQuiet_load_mid rfl 42 (.tmp 30) rfl g (jp * 37) rfl _ _ l2.out Try.underlying42 rfl (snap_cells' _ K2.out) ?_; simp only [Act.put, List.setIfInBounds_toArray, List.set_cons_zero, List.set_cons_succ]) | (quiet_step (exact hcall.out _)))
            refine wpQuiet_nil ?_
            rintro w2 ⟨⟨_, hw2⟩, rfl⟩
            clear l1 l2 hcall ecall
            obtain ⟨HM, HDi, HEi, HXi, HOi⟩ := HI.out
            have HN : Hid (Mod (· = g) w w2 ∧ DatV ss w2 g t rest xj ∧ E w2 ∧ (∀ x ∈ xj, InV ss x) ∧ insOuter cf a (i + 1) (b - (i + 1)) xj = insOuter cf a (a + 1) (b - (a + 1)) xs) :=
              ⟨HM.trans (Mod.of_below hw2 _), HDi.below hw2 (Blk.lt HDi), HC.out.keeps _ _ HEi (Mod.of_below hw2 _), HXi, by
                rw [← HO.out, show b - i = (b - (i + 1)) + 1 from by omega, insOuter, ← HOi, insInner_stop _ _ _ _ _ _ HX1.out HY1.out (by omega)]⟩
            clear HM HDi HEi HXi HOi HI hw2
            go_wp2
            go_roundg (b - (i + 1))
            case measure => omega
            case rel => exact ⟨i + 1, xj, by go_num, by omega, by omega, Nat.le_refl _, hsj, HN⟩
        · have hjaz : decide ((j : Int) > (a : Int)) = false := decide_eq_false (by omega)
          have hjaz' : ¬ (a : Int) < (j : Int) := by omega
          obtain ⟨HM, HDi, HEi, HXi, HOi⟩ := HI.out
          have HN : Hid (∀ q, Mod (· = g) w (wr.drewN q) ∧ DatV ss (wr.drewN q) g t rest xj ∧ E (wr.drewN q) ∧ (∀ x ∈ xj, InV ss x) ∧ insOuter cf a (i + 1) (b - (i + 1)) xj = insOuter cf a (a + 1) (b - (a + 1)) xs) := fun q =>
            ⟨HM.drewN q, HDi.drewN q, HC.out.keeps _ _ HEi ((Mod.refl _ _).drewN q), HXi, by
              obtain rfl : j = a := by omega
              rw [← HO.out, show b - i = (b - (i + 1)) + 1 from by omega, insOuter, ← HOi]
              cases j with
              | zero => rfl
              | succ j => rw [insInner, if_neg (fun h => by omega)]⟩
          clear HM HDi HEi HXi HOi HI
          go_wp2_with fail
          go_quiet (fail)
          have HN1 := Lib.hid (HN.out nq)
          clear HN
          go_wp2
          go_roundg (b - (i + 1))
          case measure => omega
          case rel => exact ⟨i + 1, xj, by go_num, by omega, by omega, Nat.le_refl _, hsj, HN1⟩
    · have hltz : ¬ (i : Int) < (b : Int) := by omega
      obtain ⟨HM, HDi, HEi, HXi, HOi⟩ := HI.out
      have HN : Hid (Mod (· = g) w wr ∧ DatV ss wr g t rest (insOuter cf a (a + 1) (b - (a + 1)) xs)) := ⟨HM, by rw [← HOi, show b - i = 0 from by omega]; exact HDi⟩
      clear HM HDi HEi HXi HOi HI
      go_wp2
      go_end0
      exact ⟨rfl, HN.out⟩

end Go.Proofs.Ytfpcgancmgeagaa
