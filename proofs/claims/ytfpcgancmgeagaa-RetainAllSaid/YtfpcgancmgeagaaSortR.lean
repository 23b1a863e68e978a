/- The library's stable sort sorts: the merge, and the whole. Plain lists, no program in sight. -/
import Derived.Test.YtfpcgancmgeagaaSortQ
namespace Go.Proofs.Ytfpcgancmgeagaa

theorem mem_getD {l : List Int} {x : Int} (h : x ∈ l) : ∃ i, i < l.length ∧ l.getD i 0 = x := by
  obtain ⟨i, hi, rfl⟩ := List.mem_iff_getElem.1 h
  exact ⟨i, hi, by simp [List.getD_eq_getElem?_getD, List.getElem?_eq_getElem hi]⟩
theorem srt_getD {cf : Int → Int → Int} {l : List Int} (h : Srt cf l) (i j : Nat) (hij : i < j) (hj : j < l.length) : bef cf (l.getD i 0) (l.getD j 0) := by
  have := List.pairwise_iff_getElem.1 h i j (by omega) hj hij
  simpa [List.getD_eq_getElem?_getD, List.getElem?_eq_getElem hj, List.getElem?_eq_getElem (show i < l.length by omega)] using this

section
variable {cf : Int → Int → Int} {D : Int → Prop} (ht : BefTrans cf D)
include ht

/-- The merge's cut: what stands ahead of it on both sides is ahead of what stands behind it. -/
theorem cut_ok (l : List Int) (a m b : Nat) (h1 : a < m) (h2 : m < b) (hA : ∀ i j, a ≤ i → i < j → j < m → bef cf (l.getD i 0) (l.getD j 0)) (hB : ∀ i j, m ≤ i → i < j → j < b → bef cf (l.getD i 0) (l.getD j 0))
    (hX : ∀ i j, a ≤ i → i < m → m ≤ j → j < b → l.getD i 0 < l.getD j 0) (hD : ∀ i, a ≤ i → i < b → D (l.getD i 0)) (s e : Nat) (hs : s = smStart cf a m b l) (he : e = mid a b + m - s) :
    (∀ i j, a ≤ i → i < s → e ≤ j → j < b → bef cf (l.getD i 0) (l.getD j 0)) ∧ (∀ i j, m ≤ j → j < e → s ≤ i → i < m → bef cf (l.getD j 0) (l.getD i 0)) := by
  have hr := smS_le a m b h1 h2
  have hM : ∃ M, M = mid a b := ⟨_, rfl⟩
  obtain ⟨M, hM⟩ := hM
  have hM2 : 2 * M ≤ a + b ∧ a + b ≤ 2 * M + 1 := by rw [hM]; unfold mid; omega
  have hR : smR a m b ≤ M := by rw [hM]; unfold smR; split <;> omega
  have hS : M + m - 1 - smS a m b < b := by rw [hM] at *; unfold smS; split <;> omega
  have hS2 : smS a m b = a ∨ M + m - smS a m b = b := by rw [hM] at *; unfold smS; split <;> omega
  have hR2 : smR a m b = M ∨ smR a m b = m := by rw [hM]; unfold smR; split <;> simp
  unfold smStart at hs
  rw [← hM] at hs he
  generalize smS a m b = S at *
  generalize smR a m b = R at *
  have hp : ∀ c, S ≤ c → c < R → (smP cf l (M + m - 1) c = true ↔ bef cf (l.getD c 0) (l.getD (M + m - 1 - c) 0)) := fun c c1 c2 => by
    rw [bef_lt (hX c (M + m - 1 - c) (by omega) (by omega) (by omega) (by omega))]
    simp [smP]
  have hmono : ∀ h h', S ≤ h' → h' < h → h < R → smP cf l (M + m - 1) h = true → smP cf l (M + m - 1) h' = true := fun h h' x1 x2 x3 x4 => by
    rw [hp h' x1 (by omega)]
    rw [hp h (by omega) x3] at x4
    have g1 := hA h' h (by omega) x2 (by omega)
    have g2 := hB (M + m - 1 - h) (M + m - 1 - h') (by omega) (by omega) (by omega)
    exact ht _ _ _ (hD _ (by omega) (by omega)) (hD (M + m - 1 - h) (by omega) (by omega)) (hD _ (by omega) (by omega)) (ht _ _ _ (hD _ (by omega) (by omega)) (hD h (by omega) (by omega)) (hD _ (by omega) (by omega)) g1 x4) g2
  obtain ⟨g1, g2⟩ := bs_spec (smP cf l (M + m - 1)) (R - S) S R (Nat.le_refl _) hr.2.1 hmono
  have g3 := bs_range (smP cf l (M + m - 1)) (R - S) S R (Nat.le_refl _) hr.2.1
  rw [← hs] at g1 g2 g3
  constructor
  · intro i j hi1 hi2 hj1 hj2
    by_cases hsS : s = S
    · omega
    · have hq := (hp (s - 1) (by omega) (by omega)).1 (g1 (s - 1) (by omega) (by omega))
      rw [show M + m - 1 - (s - 1) = e from by omega] at hq
      have c1 : bef cf (l.getD i 0) (l.getD e 0) := by
        by_cases hi : i = s - 1
        · rw [hi]; exact hq
        · exact ht _ _ _ (hD i hi1 (by omega)) (hD (s - 1) (by omega) (by omega)) (hD e (by omega) (by omega)) (hA i (s - 1) hi1 (by omega) (by omega)) hq
      by_cases hj : j = e
      · rw [hj]; exact c1
      · exact ht _ _ _ (hD i hi1 (by omega)) (hD e (by omega) (by omega)) (hD j (by omega) hj2) c1 (hB e j (by omega) (by omega) hj2)
  · intro i j hj1 hj2 hi1 hi2
    by_cases hsR : s = R
    · omega
    · have hq := g2 s (by omega) (by omega)
      have hq' : ¬ bef cf (l.getD s 0) (l.getD (M + m - 1 - s) 0) := fun h => by rw [(hp s (by omega) (by omega)).2 h] at hq; cases hq
      have hlt := hX s (M + m - 1 - s) (by omega) (by omega) (by omega) (by omega)
      rw [bef_lt hlt] at hq'
      have hq2 : bef cf (l.getD (M + m - 1 - s) 0) (l.getD s 0) := (bef_gt hlt).2 (by omega)
      rw [show M + m - 1 - s = e - 1 from by omega] at hq2
      have c1 : bef cf (l.getD j 0) (l.getD s 0) := by
        by_cases hj : j = e - 1
        · rw [hj]; exact hq2
        · exact ht _ _ _ (hD j (by omega) (by omega)) (hD (e - 1) (by omega) (by omega)) (hD s (by omega) (by omega)) (hB j (e - 1) hj1 (by omega) (by omega)) hq2
      by_cases hi : i = s
      · rw [hi]; exact c1
      · exact ht _ _ _ (hD j (by omega) (by omega)) (hD s (by omega) (by omega)) (hD i (by omega) (by omega)) c1 (hA s i (by omega) (by omega) hi2)

theorem symm_app : ∀ (f : Nat) (P A B Q : List Int), A.length + B.length ≤ f → 0 < A.length → 0 < B.length → Srt cf A → Srt cf B → (∀ x ∈ A, ∀ y ∈ B, x < y) → (∀ x ∈ A, D x) → (∀ x ∈ B, D x) →
    ∃ C, symm cf f P.length (P.length + A.length) (P.length + A.length + B.length) (P ++ (A ++ (B ++ Q))) = P ++ (C ++ Q) ∧ C.Perm (A ++ B) ∧ Srt cf C := by
  intro f
  induction f with
  | zero => intro P A B Q h h1 h2; omega
  | succ f ih =>
    intro P A B Q hf hA0 hB0 hsA hsB hX hDA hDB
    obtain ⟨l, hl⟩ : ∃ l, l = P ++ (A ++ (B ++ Q)) := ⟨_, rfl⟩
    have gA : ∀ i, i < A.length → l.getD (P.length + i) 0 = A.getD i 0 := fun i hi => by rw [hl, getD_app, getD_app_lt _ _ _ hi]
    have gB : ∀ i, i < B.length → l.getD (P.length + A.length + i) 0 = B.getD i 0 := fun i hi => by rw [hl, show P.length + A.length + i = P.length + (A.length + i) from by omega, getD_app, getD_app, getD_app_lt _ _ _ hi]
    rw [← hl, symm]
    by_cases hA1 : A.length = 1
    · rw [if_pos (by omega)]
      obtain ⟨x, rfl⟩ : ∃ x, A = [x] := List.length_eq_one_iff.1 hA1
      have gx : l.getD P.length 0 = x := by have := gA 0 (by simp); simpa using this
      have hsp := bs_spec (fun h => decide (cf (l.getD h 0) (l.getD P.length 0) < 0)) B.length (P.length + [x].length) (P.length + [x].length + B.length) (by omega) (by omega) (fun h h' h1 h2 h3 h4 => by
        simp only [decide_eq_true_eq, gx] at h4 ⊢
        obtain ⟨i, rfl⟩ : ∃ i, h = P.length + [x].length + i := ⟨h - (P.length + [x].length), by omega⟩
        obtain ⟨j, rfl⟩ : ∃ j, h' = P.length + [x].length + j := ⟨h' - (P.length + [x].length), by omega⟩
        rw [gB i (by omega)] at h4
        rw [gB j (by omega)]
        have hi : B.getD i 0 ∈ B := getD_mem _ _ (by omega)
        have hj : B.getD j 0 ∈ B := getD_mem _ _ (by omega)
        exact (bef_gt (hX x (by simp) _ hj)).1 (ht _ _ _ (hDB _ hj) (hDB _ hi) (hDA x (by simp)) (srt_getD hsB j i (by omega) (by omega)) ((bef_gt (hX x (by simp) _ hi)).2 h4)))
      have hrg := bs_range (fun h => decide (cf (l.getD h 0) (l.getD P.length 0) < 0)) B.length (P.length + [x].length) (P.length + [x].length + B.length) (by omega) (by omega)
      generalize bs (fun h => decide (cf (l.getD h 0) (l.getD P.length 0) < 0)) (P.length + [x].length) (P.length + [x].length + B.length) = r at hsp hrg ⊢
      obtain ⟨B1, B2, rfl, hb1⟩ := split_at B (r - (P.length + 1)) (by simp at hrg; omega)
      have e1 : r - 1 - P.length = B1.length := by simp at hrg; omega
      refine ⟨B1 ++ x :: B2, ?_, ?_, ?_⟩
      · rw [e1, hl]
        have := shR_app B1 P x (B2 ++ Q)
        simp only [List.append_assoc, List.cons_append, List.nil_append] at this ⊢
        exact this
      · simp only [List.singleton_append]
        exact List.perm_middle
      · have q1 : ∀ y ∈ B1, bef cf y x := fun y hy => by
          obtain ⟨i, hi, rfl⟩ := mem_getD hy
          have := hsp.1 (P.length + [x].length + i) (by omega) (by simp; omega)
          simp only [decide_eq_true_eq, gx] at this
          rw [gB i (by simp; omega), getD_app_lt _ _ _ hi] at this
          exact (bef_gt (hX x (by simp) _ (List.mem_append_left _ hy))).2 this
        have q2 : ∀ y ∈ B2, bef cf x y := fun y hy => by
          obtain ⟨i, hi, rfl⟩ := mem_getD hy
          have := hsp.2 (P.length + [x].length + (B1.length + i)) (by simp; omega) (by simp; omega)
          simp only [decide_eq_false_iff_not, gx] at this
          rw [gB (B1.length + i) (by simp; omega), getD_app] at this
          exact (bef_lt (hX x (by simp) _ (List.mem_append_right _ hy))).2 this
        have hp := List.pairwise_append.1 hsB
        refine List.pairwise_append.2 ⟨hp.1, List.pairwise_cons.2 ⟨q2, hp.2.1⟩, fun y hy z hz => ?_⟩
        rcases List.mem_cons.1 hz with rfl | hz
        · exact q1 y hy
        · exact hp.2.2 y hy z hz
    · rw [if_neg (by omega)]
      by_cases hB1 : B.length = 1
      · rw [if_pos (by omega)]
        obtain ⟨y, rfl⟩ : ∃ x, B = [x] := List.length_eq_one_iff.1 hB1
        have gy : l.getD (P.length + A.length) 0 = y := by have := gB 0 (by simp); simpa using this
        have hsp := bs_spec (fun h => !decide (cf (l.getD (P.length + A.length) 0) (l.getD h 0) < 0)) A.length P.length (P.length + A.length) (by omega) (by omega) (fun h h' h1 h2 h3 h4 => by
          simp only [Bool.not_eq_true', decide_eq_false_iff_not, gy] at h4 ⊢
          obtain ⟨i, rfl⟩ : ∃ i, h = P.length + i := ⟨h - P.length, by omega⟩
          obtain ⟨j, rfl⟩ : ∃ j, h' = P.length + j := ⟨h' - P.length, by omega⟩
          rw [gA i (by omega)] at h4
          rw [gA j (by omega)]
          have hi : A.getD i 0 ∈ A := getD_mem _ _ (by omega)
          have hj : A.getD j 0 ∈ A := getD_mem _ _ (by omega)
          exact (bef_lt (hX _ hj y (by simp))).1 (ht _ _ _ (hDA _ hj) (hDA _ hi) (hDB y (by simp)) (srt_getD hsA j i (by omega) (by omega)) ((bef_lt (hX _ hi y (by simp))).2 h4)))
        have hrg := bs_range (fun h => !decide (cf (l.getD (P.length + A.length) 0) (l.getD h 0) < 0)) A.length P.length (P.length + A.length) (by omega) (by omega)
        generalize bs (fun h => !decide (cf (l.getD (P.length + A.length) 0) (l.getD h 0) < 0)) P.length (P.length + A.length) = r at hsp hrg ⊢
        obtain ⟨A1, A2, rfl, ha1⟩ := split_at A (r - P.length) (by omega)
        have er : r = (P ++ A1).length := by simp; omega
        refine ⟨A1 ++ y :: A2, ?_, ?_, ?_⟩
        · rw [hl, er]
          have := shL_app (P ++ A1) A2.length A2 y Q rfl
          rw [show P.length + (A1 ++ A2).length - (P ++ A1).length = A2.length from by simp; omega]
          simp only [List.append_assoc, List.cons_append, List.nil_append] at this ⊢
          exact this
        · simp only [List.append_assoc]
          exact List.Perm.append_left A1 (by simpa using (List.perm_append_singleton y A2).symm)
        · have q1 : ∀ x ∈ A1, bef cf x y := fun x hx => by
            obtain ⟨i, hi, rfl⟩ := mem_getD hx
            have := hsp.1 (P.length + i) (by omega) (by omega)
            simp only [Bool.not_eq_true', decide_eq_false_iff_not, gy] at this
            rw [gA i (by simp; omega), getD_app_lt _ _ _ hi] at this
            exact (bef_lt (hX _ (List.mem_append_left _ hx) y (by simp))).2 this
          have q2 : ∀ x ∈ A2, bef cf y x := fun x hx => by
            obtain ⟨i, hi, rfl⟩ := mem_getD hx
            have := hsp.2 (P.length + (A1.length + i)) (by omega) (by simp; omega)
            simp only [Bool.not_eq_false', decide_eq_true_eq, gy] at this
            rw [gA (A1.length + i) (by simp; omega), getD_app] at this
            exact (bef_gt (hX _ (List.mem_append_right _ hx) y (by simp))).2 this
          have hp := List.pairwise_append.1 hsA
          refine List.pairwise_append.2 ⟨hp.1, List.pairwise_cons.2 ⟨q2, hp.2.1⟩, fun x hx z hz => ?_⟩
          rcases List.mem_cons.1 hz with rfl | hz
          · exact q1 x hx
          · exact hp.2.2 x hx z hz
      · rw [if_neg (by omega)]
        dsimp only
        obtain ⟨s, hs⟩ : ∃ s, s = smStart cf P.length (P.length + A.length) (P.length + A.length + B.length) l := ⟨_, rfl⟩
        obtain ⟨M, hM⟩ : ∃ M, M = mid P.length (P.length + A.length + B.length) := ⟨_, rfl⟩
        obtain ⟨e, he⟩ : ∃ e, e = mid P.length (P.length + A.length + B.length) + (P.length + A.length) - s := ⟨_, rfl⟩
        obtain ⟨k1, k2⟩ := cut_ok ht l P.length (P.length + A.length) (P.length + A.length + B.length) (by omega) (by omega)
          (fun i j h1 h2 h3 => by
            obtain ⟨i, rfl⟩ : ∃ q, i = P.length + q := ⟨i - P.length, by omega⟩
            obtain ⟨j, rfl⟩ : ∃ q, j = P.length + q := ⟨j - P.length, by omega⟩
            rw [gA i (by omega), gA j (by omega)]; exact srt_getD hsA i j (by omega) (by omega))
          (fun i j h1 h2 h3 => by
            obtain ⟨i, rfl⟩ : ∃ q, i = P.length + A.length + q := ⟨i - (P.length + A.length), by omega⟩
            obtain ⟨j, rfl⟩ : ∃ q, j = P.length + A.length + q := ⟨j - (P.length + A.length), by omega⟩
            rw [gB i (by omega), gB j (by omega)]; exact srt_getD hsB i j (by omega) (by omega))
          (fun i j h1 h2 h3 h4 => by
            obtain ⟨i, rfl⟩ : ∃ q, i = P.length + q := ⟨i - P.length, by omega⟩
            obtain ⟨j, rfl⟩ : ∃ q, j = P.length + A.length + q := ⟨j - (P.length + A.length), by omega⟩
            rw [gA i (by omega), gB j (by omega)]; exact hX _ (getD_mem _ _ (by omega)) _ (getD_mem _ _ (by omega)))
          (fun i h1 h2 => by
            by_cases hi : i < P.length + A.length
            · obtain ⟨i, rfl⟩ : ∃ q, i = P.length + q := ⟨i - P.length, by omega⟩
              rw [gA i (by omega)]; exact hDA _ (getD_mem _ _ (by omega))
            · obtain ⟨i, rfl⟩ : ∃ q, i = P.length + A.length + q := ⟨i - (P.length + A.length), by omega⟩
              rw [gB i (by omega)]; exact hDB _ (getD_mem _ _ (by omega)))
          s e hs he
        have hr1 := smStart_range cf P.length (P.length + A.length) (P.length + A.length + B.length) l (by omega) (by omega)
        have hr2 := smS_le P.length (P.length + A.length) (P.length + A.length + B.length) (by omega) (by omega)
        have hR : smR P.length (P.length + A.length) (P.length + A.length + B.length) ≤ M := by rw [hM]; unfold smR; split <;> omega
        have hM2 : 2 * M ≤ P.length + (P.length + A.length + B.length) ∧ P.length + (P.length + A.length + B.length) ≤ 2 * M + 1 := by rw [hM]; unfold mid; omega
        rw [← hs] at hr1
        rw [← hs, ← he, ← hM]
        rw [← hM] at he hr2
        clear hs hM
        obtain ⟨A1, A2, rfl, ha1⟩ := split_at A (s - P.length) (by omega)
        obtain ⟨B1, B2, rfl, hb1⟩ := split_at B (e - (P.length + (A1 ++ A2).length)) (by omega)
        simp only [List.length_append] at *
        -- the facts over members
        have m1 : ∀ x ∈ A1, ∀ y ∈ B2, bef cf x y := fun x hx y hy => by
          obtain ⟨i, hi, rfl⟩ := mem_getD hx
          obtain ⟨j, hj, rfl⟩ := mem_getD hy
          have := k1 (P.length + i) (P.length + (A1.length + A2.length) + (B1.length + j)) (by omega) (by omega) (by omega) (by omega)
          rw [gA i (by omega), gB (B1.length + j) (by omega), getD_app_lt _ _ _ hi, getD_app] at this
          exact this
        have m2 : ∀ y ∈ B1, ∀ x ∈ A2, bef cf y x := fun y hy x hx => by
          obtain ⟨i, hi, rfl⟩ := mem_getD hx
          obtain ⟨j, hj, rfl⟩ := mem_getD hy
          have := k2 (P.length + (A1.length + i)) (P.length + (A1.length + A2.length) + j) (by omega) (by omega) (by omega) (by omega)
          rw [gA (A1.length + i) (by omega), gB j (by omega), getD_app_lt _ _ _ hj, getD_app] at this
          exact this
        have pA := List.pairwise_append.1 hsA
        have pB := List.pairwise_append.1 hsB
        have ea : s = P.length + A1.length := by omega
        have eb : e = P.length + A1.length + A2.length + B1.length := by omega
        have eM : M = P.length + A1.length + B1.length := by omega
        clear k1 k2 gA gB hr1 hr2 hR ha1 hb1
        have x1 : (if s < P.length + (A1.length + A2.length) ∧ P.length + (A1.length + A2.length) < e then rot (P.length + (A1.length + A2.length)) (P.length + (A1.length + A2.length) - s) (e - (P.length + (A1.length + A2.length))) l else l) = P ++ (A1 ++ (B1 ++ (A2 ++ (B2 ++ Q)))) := by
          split
          · rename_i hc
            have := rot_app (A2.length + B1.length) (P ++ A1) A2 B1 (B2 ++ Q) (P.length + (A1.length + A2.length)) (Nat.le_refl _) (by omega) (by omega) (by simp; omega)
            rw [show P.length + (A1.length + A2.length) - s = A2.length from by omega, show e - (P.length + (A1.length + A2.length)) = B1.length from by omega, hl]
            simp only [List.append_assoc] at this ⊢
            exact this
          · rename_i hc
            rw [hl]
            by_cases hz : A2.length = 0
            · obtain rfl : A2 = [] := List.eq_nil_of_length_eq_zero hz
              simp
            · obtain rfl : B1 = [] := List.eq_nil_of_length_eq_zero (by omega)
              simp
        rw [x1]
        have x2 : ∃ C1, (if P.length < s ∧ s < M then symm cf f P.length s M (P ++ (A1 ++ (B1 ++ (A2 ++ (B2 ++ Q))))) else P ++ (A1 ++ (B1 ++ (A2 ++ (B2 ++ Q))))) = P ++ (C1 ++ (A2 ++ (B2 ++ Q))) ∧ C1.Perm (A1 ++ B1) ∧ Srt cf C1 := by
          split
          · rename_i hc
            rw [ea, eM]
            exact ih P A1 B1 (A2 ++ (B2 ++ Q)) (by omega) (by omega) (by omega) pA.1 pB.1 (fun x hx y hy => hX x (by simp [hx]) y (by simp [hy])) (fun x hx => hDA x (by simp [hx])) (fun x hx => hDB x (by simp [hx]))
          · rename_i hc
            by_cases hz : A1.length = 0
            · obtain rfl : A1 = [] := List.eq_nil_of_length_eq_zero hz
              exact ⟨B1, by simp, by simp, pB.1⟩
            · obtain rfl : B1 = [] := List.eq_nil_of_length_eq_zero (by omega)
              exact ⟨A1, by simp, by simp, pA.1⟩
        obtain ⟨C1, y1, y2, y3⟩ := x2
        rw [y1]
        have hc1 : C1.length = A1.length + B1.length := by rw [y2.length_eq]; simp
        have x3 : ∃ C2, (if M < e ∧ e < P.length + (A1.length + A2.length) + (B1.length + B2.length) then symm cf f M e (P.length + (A1.length + A2.length) + (B1.length + B2.length)) (P ++ (C1 ++ (A2 ++ (B2 ++ Q)))) else P ++ (C1 ++ (A2 ++ (B2 ++ Q)))) = P ++ (C1 ++ (C2 ++ Q)) ∧ C2.Perm (A2 ++ B2) ∧ Srt cf C2 := by
          split
          · rename_i hc
            obtain ⟨C2, z1, z2, z3⟩ := ih (P ++ C1) A2 B2 Q (by omega) (by omega) (by omega) pA.2.1 pB.2.1 (fun x hx y hy => hX x (by simp [hx]) y (by simp [hy])) (fun x hx => hDA x (by simp [hx])) (fun x hx => hDB x (by simp [hx]))
            refine ⟨C2, ?_, z2, z3⟩
            rw [show (P ++ C1).length = M from by simp; omega, show M + A2.length = e from by omega, show e + B2.length = P.length + (A1.length + A2.length) + (B1.length + B2.length) from by omega] at z1
            simp only [List.append_assoc] at z1
            exact z1
          · rename_i hc
            by_cases hz : A2.length = 0
            · obtain rfl : A2 = [] := List.eq_nil_of_length_eq_zero hz
              exact ⟨B2, by simp, by simp, pB.2.1⟩
            · obtain rfl : B2 = [] := List.eq_nil_of_length_eq_zero (by omega)
              exact ⟨A2, by simp, by simp, pA.2.1⟩
        obtain ⟨C2, z1, z2, z3⟩ := x3
        rw [z1]
        refine ⟨C1 ++ C2, by simp, ?_, List.pairwise_append.2 ⟨y3, z3, fun x hx y hy => ?_⟩⟩
        · refine (y2.append z2).trans ?_
          simp only [List.append_assoc]
          refine List.Perm.append_left A1 ?_
          have : (B1 ++ (A2 ++ B2)).Perm (A2 ++ (B1 ++ B2)) := by
            rw [← List.append_assoc, ← List.append_assoc]
            exact List.perm_append_comm.append_right B2
          exact this
        · rcases List.mem_append.1 (y2.mem_iff.1 hx) with hx | hx <;> rcases List.mem_append.1 (z2.mem_iff.1 hy) with hy | hy
          · exact pA.2.2 x hx y hy
          · exact m1 x hx y hy
          · exact m2 x hx y hy
          · exact pB.2.2 x hx y hy
end

end Go.Proofs.Ytfpcgancmgeagaa
