/- The exchange of two snapshots in a row; swapRange. -/
import Derived.Test.YtfpcgancmgeagaaVBase
namespace Go.Proofs.Ytfpcgancmgeagaa
open Go.RowKit

/-- What a part of the sort has done to the world. -/
def SortsV (ss : List Sn) (g : Nat) (t : TypeId) (rest : List Value) (E : World → Prop) (w w' : World) (ys : List Int) : Prop := Mod (· = g) w w' ∧ DatV ss w' g t rest ys ∧ E w'

theorem SortsV.below {ss : List Sn} {g : Nat} {t : TypeId} {rest : List Value} {E : World → Prop} (hk : ∀ w w', E w → Mod (· = g) w w' → E w') {w W W' : World} {l : List Int} (h : SortsV ss g t rest E w W l) (hb : Below W.heap.size W W') : SortsV ss g t rest E w W' l :=
  ⟨h.1.trans (Mod.of_below hb _), h.2.1.below hb (Blk.lt h.2.1), hk _ _ h.2.2 (Mod.of_below hb _)⟩
theorem SortsV.trans {ss : List Sn} {g : Nat} {t : TypeId} {rest : List Value} {E : World → Prop} {w W W' : World} {l l' : List Int} (h : SortsV ss g t rest E w W l) (h' : SortsV ss g t rest E W W' l') : SortsV ss g t rest E w W' l' :=
  ⟨h.1.trans h'.1, h'.2⟩

theorem exchangedV {ss : List Sn} {g : Nat} {t : TypeId} {rest : List Value} {E : World → Prop} (hok : ∀ s ∈ ss, s.ok) (hk : ∀ w w', E w → Mod (· = g) w w' → E w') {w W : World} {l : List Int} (hy : ∀ y ∈ l, InV ss y) (h : SortsV ss g t rest E w W l) (i j : Nat) (hi : i < l.length) (hj : j < l.length) (x y : Int) (hx : l.getD i 0 = x) (hyy : l.getD j 0 = y) :
    SortsV ss g t rest E w ((W.drew.setCells g (i * 37) (snAt ss y).cells).setCells g (j * 37) (snAt ss x).cells) (swp l i j) := by
  obtain ⟨hm, hd, he⟩ := h
  have iy : InV ss y := by rw [← hyy]; exact hy _ (getD_mem l j hj)
  have ix : InV ss x := by rw [← hx]; exact hy _ (getD_mem l i hi)
  have hs : Mod (· = g) W ((W.drew.setCells g (i * 37) (snAt ss y).cells).setCells g (j * 37) (snAt ss x).cells) := Mod.setCells (Mod.setCells ((Mod.refl (· = g) W).drew) (fun _ => rfl) _ _) (fun _ => rfl) _ _
  have hd0 : DatV ss W.drew g t rest l := hd
  have h1 := hd0.store hok hy hi iy
  have h2 := h1.store hok (set_in hy iy _) (i := j) (by simpa using hj) ix
  exact ⟨hm.trans hs, by rw [swp_of _ _ _ _ _ hx hyy]; exact h2, hk _ _ he hs⟩

set_option maxHeartbeats 1000000 in
set_option maxRecDepth 100000 in
theorem swapRangeV (ss : List Sn) (hok : ∀ s ∈ ss, s.ok) (g : Nat) (E : World → Prop) (hk : ∀ w w', E w → Mod (· = g) w w' → E w') (t : TypeId) (rest : List Value) (f : Value) (xs : List Int) (c a b n : Nat) (w : World)
    (hE : E w) (hD : ∀ x ∈ xs, InV ss x) (hd : DatV ss w g t rest xs) (ha : a + n ≤ xs.length) (hb : b + n ≤ xs.length) (hn : xs.length ≤ 1073741824) :
    Calls Try.prog 150 #[.slice (some ⟨g, 0, none⟩) xs.length c, .int .i64 a, .int .i64 b, .int .i64 n, f] w fun e w' =>
      e = .returned (.tuple #[]) ∧ SortsV ss g t rest E w w' (swapR a b 0 n xs) := by
  have HK := Lib.hid hk
  have HOK := Lib.hid hok
  have H0 : Hid (SortsV ss g t rest E w w xs ∧ ∀ x ∈ xs, InV ss x) := ⟨⟨Mod.refl _ _, hd, hE⟩, hD⟩
  clear hE hd hk hD hok
  go_enter Try.func150, Try.ntmps150
  go_wp2_with fail
  go_loopg [10] n (fun g1 vi wr => ∃ (i : Nat) (xi : List Int), vi = .int .i64 i ∧ i ≤ n ∧ n - i ≤ g1 ∧ xi.length = xs.length ∧ Hid (SortsV ss g t rest E w wr xi ∧ ∀ x ∈ xi, InV ss x) ∧ Hid (swapR a b i (n - i) xi = swapR a b 0 n xs))
  case atStart => exact ⟨0, xs, by go_num, by omega, by omega, rfl, H0, rfl⟩
  case round =>
    clear H0
    obtain ⟨i, xi, rfl, hin, hg1, hsk, HS, HO⟩ := hrel
    by_cases hlt : i < n
    · have hltz : (i : Int) < (n : Int) := by omega
      have p1 : (0 : Int) ≤ (a : Int) + (i : Int) := by omega
      have p2 : (0 : Int) ≤ (b : Int) + (i : Int) := by omega
      have p3 : (a : Int) + (i : Int) < (xs.length : Int) := by omega
      have p4 : (b : Int) + (i : Int) < (xs.length : Int) := by omega
      have q1 : IntKind.i64.wrap ((a : Int) + (i : Int)) = (a : Int) + (i : Int) := by rw [IntKind.wrap_i64]; omega
      have q2 : IntKind.i64.wrap ((b : Int) + (i : Int)) = (b : Int) + (i : Int) := by rw [IntKind.wrap_i64]; omega
      obtain ⟨⟨HM, HDi, HEi⟩, HYi⟩ := HS.out
      have hdr : DatV ss wr.drew g t rest xi := HDi
      have hxm := HYi _ (getD_mem xi (a + i) (by omega))
      have hym := HYi _ (getD_mem xi (b + i) (by omega))
      have okx := snAt_ok HOK.out hxm
      have oky := snAt_ok HOK.out hym
      have RX := Lib.hid (hdr.range HOK.out HYi (i := a + i) (by omega))
      have RY := Lib.hid (hdr.range HOK.out HYi (i := b + i) (by omega))
      have hst := hdr.store HOK.out HYi (i := a + i) (by omega) hym
      have HT1 := Lib.hid (show wr.drew.there g ((a + i) * 37) (snAt ss (xi.getD (b + i) 0)).arr.size by rw [(snAt ss _).size oky]; exact hdr.there HOK.out HYi (by omega))
      have HT2 := Lib.hid (show (wr.drew.setCells g ((a + i) * 37) (snAt ss (xi.getD (b + i) 0)).arr.toList).there g ((b + i) * 37) (snAt ss (xi.getD (a + i) 0)).arr.size by
        rw [(snAt ss _).size okx]; exact hst.there HOK.out (set_in HYi hym _) (by simp; omega))
      have HN : Hid (SortsV ss g t rest E w ((wr.drew.setCells g ((a + i) * 37) (snAt ss (xi.getD (b + i) 0)).arr.toList).setCells g ((b + i) * 37) (snAt ss (xi.getD (a + i) 0)).arr.toList) (swp xi (a + i) (b + i)) ∧ ∀ x ∈ swp xi (a + i) (b + i), InV ss x) :=
        ⟨exchangedV HOK.out HK.out HYi HS.out.1 (a + i) (b + i) (by omega) (by omega) _ _ rfl rfl, fun z hz => HYi z (mem_swp xi _ _ (by omega) (by omega) hz)⟩
      clear HM HDi HEi HYi HS hdr hxm hym hst
      generalize xi.getD (a + i) 0 = x at *
      generalize xi.getD (b + i) 0 = y at *
      go_wp2_with fail
      refine wp_region_any (by kernel_rfl) ?_
      change wpAny _ _ _ _ _ _ _ (World.drew _)
      refine any_take (i := 0) (v := ?_) 16 rfl rfl (by kernel_rfl) (by kernel_rfl) (by kernel_rfl) (fun _ _ _ h => h) (Or.inl ⟨by rfl, ?_⟩) ?_
      rotate_left
      · (intro w; go_simp; try (with_reducible rfl))
      simp only [List.setIfInBounds_toArray, List.set_cons_zero, List.set_cons_succ]
      refine any_take (i := 1) (v := ?_) 17 rfl rfl (by kernel_rfl) (by kernel_rfl) (by kernel_rfl) (fun _ _ _ h => h) (Or.inl ⟨by rfl, ?_⟩) ?_
      rotate_left
      · (intro w; go_simp; try (with_reducible rfl))
      simp only [List.setIfInBounds_toArray, List.set_cons_zero, List.set_cons_succ]
      refine any_take (i := 2) (v := ?_) 18 rfl rfl (by kernel_rfl) (by kernel_rfl) (by kernel_rfl) (fun _ _ _ h => h) (Or.inl ⟨by rfl, ?_⟩) ?_
      rotate_left
      · (intro w; go_simp; try (with_reducible rfl))
      simp only [List.setIfInBounds_toArray, List.set_cons_zero, List.set_cons_succ]
      refine any_take (i := 3) (v := ?_) 19 rfl rfl (by kernel_rfl) (by kernel_rfl) (by kernel_rfl) (fun _ _ _ h => h) (Or.inl ⟨by rfl, ?_⟩) ?_
      rotate_left
      · (intro w; go_simp; try (with_reducible rfl))
      simp only [List.setIfInBounds_toArray, List.set_cons_zero, List.set_cons_succ]
      refine any_take (i := 4) (v := ?_) 20 rfl rfl (by kernel_rfl) (by kernel_rfl) (by kernel_rfl) (fun _ _ _ h => h) (Or.inl ⟨by rfl, ?_⟩) ?_
      rotate_left
      · (intro w; go_simp; try (with_reducible rfl))
      simp only [List.setIfInBounds_toArray, List.set_cons_zero, List.set_cons_succ]
      refine any_take (i := 5) (v := ?_) 21 rfl rfl (by kernel_rfl) (by kernel_rfl) (by kernel_rfl) (fun _ _ _ h => h) (Or.inl ⟨by rfl, ?_⟩) ?_
      rotate_left
      · (intro w; go_simp; try (with_reducible rfl))
      simp only [List.setIfInBounds_toArray, List.set_cons_zero, List.set_cons_succ]
      refine any_take (i := 6) (v := ?_) 22 rfl rfl (by kernel_rfl) (by kernel_rfl) (by kernel_rfl) (fun _ _ _ h => h) (Or.inl ⟨by rfl, ?_⟩) ?_
      rotate_left
      · (intro w; go_simp; try (with_reducible rfl))
      simp only [List.setIfInBounds_toArray, List.set_cons_zero, List.set_cons_succ]
      refine any_take (i := 7) (v := ?_) 23 rfl rfl (by kernel_rfl) (by kernel_rfl) (by kernel_rfl) (fun _ _ _ h => h) (Or.inl ⟨by rfl, ?_⟩) ?_
      rotate_left
      · (intro w; go_simp; try (with_reducible rfl))
      simp only [List.setIfInBounds_toArray, List.set_cons_zero, List.set_cons_succ]
      refine any_take (i := 8) (v := ?_) 24 rfl rfl (by kernel_rfl) (by kernel_rfl) (by kernel_rfl) (fun _ _ _ h => h) (Or.inl ⟨by rfl, ?_⟩) ?_
      rotate_left
      · (intro w; go_simp; try (with_reducible rfl))
      simp only [List.setIfInBounds_toArray, List.set_cons_zero, List.set_cons_succ]
      refine any_take (i := 9) (v := ?_) 25 rfl rfl (by kernel_rfl) (by kernel_rfl) (by kernel_rfl) (fun _ _ _ h => h) (Or.inl ⟨by rfl, ?_⟩) ?_
      rotate_left
      · (intro w; go_simp; try (with_reducible rfl))
      simp only [List.setIfInBounds_toArray, List.set_cons_zero, List.set_cons_succ]
      refine any_take (i := 10) (v := ?_) 26 rfl rfl (by kernel_rfl) (by kernel_rfl) (by kernel_rfl) (fun _ _ _ h => h) (Or.inl ⟨by rfl, ?_⟩) ?_
      rotate_left
      · (intro w; go_simp; try (with_reducible rfl))
      simp only [List.setIfInBounds_toArray, List.set_cons_zero, List.set_cons_succ]
      refine any_take (i := 11) (v := ?_) 27 rfl rfl (by kernel_rfl) (by kernel_rfl) (by kernel_rfl) (fun _ _ _ h => h) (Or.inl ⟨by rfl, ?_⟩) ?_
      rotate_left
      · (intro w; go_simp; try (with_reducible rfl))
      simp only [List.setIfInBounds_toArray, List.set_cons_zero, List.set_cons_succ]
      refine any_take (i := 12) (v := ?_) 28 rfl rfl (by kernel_rfl) (by kernel_rfl) (by kernel_rfl) (fun _ _ _ h => h) (Or.inl ⟨by rfl, ?_⟩) ?_
      rotate_left
      · (intro w; go_simp; try (with_reducible rfl))
      simp only [List.setIfInBounds_toArray, List.set_cons_zero, List.set_cons_succ]
      refine any_take (i := 14) (v := ?_) 30 rfl rfl (by kernel_rfl) (by kernel_rfl) (by kernel_rfl) (fun _ _ _ h => h) (Or.inl ⟨by rfl, ?_⟩) ?_
      rotate_left
      · (intro w; go_simp; try (with_reducible rfl))
      simp only [List.setIfInBounds_toArray, List.set_cons_zero, List.set_cons_succ]
      refine any_take (i := 15) (v := ?_) 31 rfl rfl (by kernel_rfl) (by kernel_rfl) (by kernel_rfl) (fun _ _ _ h => h) (Or.inl ⟨by rfl, ?_⟩) ?_
      rotate_left
      · (intro w; go_simp; try (with_reducible rfl))
      simp only [List.setIfInBounds_toArray, List.set_cons_zero, List.set_cons_succ]
      refine any_take (i := 16) (v := ?_) 32 rfl rfl (by kernel_rfl) (by kernel_rfl) (by kernel_rfl) (fun _ _ _ h => h) (Or.inl ⟨by rfl, ?_⟩) ?_
      rotate_left
      · (intro w; go_simp; try (with_reducible rfl))
      simp only [List.setIfInBounds_toArray, List.set_cons_zero, List.set_cons_succ]
      refine any_take (i := 17) (v := ?_) 33 rfl rfl (by kernel_rfl) (by kernel_rfl) (by kernel_rfl) (fun _ _ _ h => h) (Or.inl ⟨by rfl, ?_⟩) ?_
      rotate_left
      · (intro w; go_simp; try (with_reducible rfl))
      simp only [List.setIfInBounds_toArray, List.set_cons_zero, List.set_cons_succ]
      refine any_take (i := 18) (v := ?_) 34 rfl rfl (by kernel_rfl) (by kernel_rfl) (by kernel_rfl) (fun _ _ _ h => h) (Or.inl ⟨by rfl, ?_⟩) ?_
      rotate_left
      · (intro w; go_simp; try (with_reducible rfl))
      simp only [List.setIfInBounds_toArray, List.set_cons_zero, List.set_cons_succ]
      refine any_two (i := 13) (j := 19) (by kernel_rfl) rfl rfl (by rfl) (by rfl) (fun K hK => ?_) (fun K hK => ?_)
      refine load_mid 29 rfl 42 (.tmp 28) rfl g ((b + i) * 37) rfl (snAt ss y).cells _ RY.out Try.underlying42 rfl (snap_cells' _ oky) ?_
      refine hK _ _ ?_
      clear hK K
      simp only [List.setIfInBounds_toArray, List.set_cons_zero, List.set_cons_succ]
      refine any_one (i := 19) (by kernel_rfl) rfl (by rfl) (fun K hK => ?_)
      refine load_mid 35 rfl 42 (.tmp 34) rfl g ((a + i) * 37) rfl (snAt ss x).cells _ RX.out Try.underlying42 rfl (snap_cells' _ okx) ?_
      refine hK _ _ ?_
      clear hK K
      simp only [List.setIfInBounds_toArray, List.set_cons_zero, List.set_cons_succ]
      refine any_take (i := 20) (v := ?_) 36 rfl rfl (by kernel_rfl) (by kernel_rfl) (by kernel_rfl) (fun _ _ _ h => h) (Or.inl ⟨by rfl, ?_⟩) ?_
      rotate_left
      · (intro w; go_simp; try (with_reducible rfl))
      simp only [List.setIfInBounds_toArray, List.set_cons_zero, List.set_cons_succ]
      refine any_one (i := 21) (by kernel_rfl) rfl (by rfl) (fun K hK => ?_)
      refine store_mid rfl 42 (.tmp 36) (.tmp 29) rfl g ((a + i) * 37) (snAt ss y).arr rfl rfl HT1.out (snap_cells _ oky) (cells_one _) ?_
      refine hK _ _ ?_
      clear hK K
      refine any_take (i := 22) (v := ?_) 37 rfl rfl (by kernel_rfl) (by kernel_rfl) (by kernel_rfl) (fun _ _ _ h => h) (Or.inl ⟨by rfl, ?_⟩) ?_
      rotate_left
      · (intro w; go_simp; try (with_reducible rfl))
      simp only [List.setIfInBounds_toArray, List.set_cons_zero, List.set_cons_succ]
      refine any_one (i := 23) (by kernel_rfl) rfl (by rfl) (fun K hK => ?_)
      refine store_mid rfl 42 (.tmp 37) (.tmp 35) rfl g ((b + i) * 37) (snAt ss x).arr rfl rfl HT2.out (snap_cells _ okx) (cells_one _) ?_
      refine hK _ _ ?_
      clear hK K
      refine wpAny_done (by kernel_rfl) ?_ _
      rotate_left
      refine load_mid 35 rfl 42 (.tmp 34) rfl g ((a + i) * 37) rfl (snAt ss x).cells _ RX.out Try.underlying42 rfl (snap_cells' _ okx) ?_
      refine hK _ _ ?_
      clear hK K
      simp only [List.setIfInBounds_toArray, List.set_cons_zero, List.set_cons_succ]
      refine any_one (i := 13) (by kernel_rfl) rfl (by rfl) (fun K hK => ?_)
      refine load_mid 29 rfl 42 (.tmp 28) rfl g ((b + i) * 37) rfl (snAt ss y).cells _ RY.out Try.underlying42 rfl (snap_cells' _ oky) ?_
      refine hK _ _ ?_
      clear hK K
      simp only [List.setIfInBounds_toArray, List.set_cons_zero, List.set_cons_succ]
      refine any_take (i := 20) (v := ?_) 36 rfl rfl (by kernel_rfl) (by kernel_rfl) (by kernel_rfl) (fun _ _ _ h => h) (Or.inl ⟨by rfl, ?_⟩) ?_
      rotate_left
      · (intro w; go_simp; try (with_reducible rfl))
      simp only [List.setIfInBounds_toArray, List.set_cons_zero, List.set_cons_succ]
      refine any_one (i := 21) (by kernel_rfl) rfl (by rfl) (fun K hK => ?_)
      refine store_mid rfl 42 (.tmp 36) (.tmp 29) rfl g ((a + i) * 37) (snAt ss y).arr rfl rfl HT1.out (snap_cells _ oky) (cells_one _) ?_
      refine hK _ _ ?_
      clear hK K
      refine any_take (i := 22) (v := ?_) 37 rfl rfl (by kernel_rfl) (by kernel_rfl) (by kernel_rfl) (fun _ _ _ h => h) (Or.inl ⟨by rfl, ?_⟩) ?_
      rotate_left
      · (intro w; go_simp; try (with_reducible rfl))
      simp only [List.setIfInBounds_toArray, List.set_cons_zero, List.set_cons_succ]
      refine any_one (i := 23) (by kernel_rfl) rfl (by rfl) (fun K hK => ?_)
      refine store_mid rfl 42 (.tmp 37) (.tmp 35) rfl g ((b + i) * 37) (snAt ss x).arr rfl rfl HT2.out (snap_cells _ okx) (cells_one _) ?_
      refine hK _ _ ?_
      clear hK K
      refine wpAny_done (by kernel_rfl) ?_ _
      all_goals
        clear RX RY HT1 HT2
        generalize (wr.drew.setCells g ((a + i) * 37) (snAt ss y).arr.toList).setCells g ((b + i) * 37) (snAt ss x).arr.toList = w3 at *
        go_wp2
        go_roundg (n - (i + 1))
        case measure => omega
        case rel => exact ⟨i + 1, swp xi (a + i) (b + i), by go_num, by omega, Nat.le_refl _, by rw [swp_length]; exact hsk, HN, by rw [← HO.out, show n - i = (n - (i + 1)) + 1 from by omega, swapR]; exact rfl⟩
    · have hltz : ¬ (i : Int) < (n : Int) := by omega
      have HN : Hid (SortsV ss g t rest E w wr (swapR a b 0 n xs)) := by rw [← HO.out, show n - i = 0 from by omega]; exact HS.out.1
      clear HS
      go_wp2
      go_end0
      exact ⟨rfl, HN.out⟩

end Go.Proofs.Ytfpcgancmgeagaa
