/- The library's stable sort sorts: plain lists, no program in sight. Condition: the comparing function orders the elements, ties by their numbers. -/
import Derived.Test.YtfpcgancmgeagaaSortE
namespace Go.Proofs.Ytfpcgancmgeagaa

/-- x comes ahead of y, ties by the numbers themselves. -/
def bef (cf : Int → Int → Int) (x y : Int) : Prop := if x < y then ¬ cf y x < 0 else cf x y < 0
theorem bef_lt {cf : Int → Int → Int} {x y : Int} (h : x < y) : bef cf x y ↔ ¬ cf y x < 0 := by unfold bef; rw [if_pos h]
theorem bef_gt {cf : Int → Int → Int} {x y : Int} (h : x < y) : bef cf y x ↔ cf y x < 0 := by unfold bef; rw [if_neg (by omega)]

/-- bef leads on, over the elements. -/
def BefTrans (cf : Int → Int → Int) (D : Int → Prop) : Prop := ∀ x y z, D x → D y → D z → bef cf x y → bef cf y z → bef cf x z

abbrev Srt (cf : Int → Int → Int) (l : List Int) : Prop := l.Pairwise (bef cf)

theorem getD_app (P Q : List Int) (i : Nat) : (P ++ Q).getD (P.length + i) 0 = Q.getD i 0 := by
  simp [List.getD_eq_getElem?_getD, List.getElem?_append_right]
theorem getD_app_lt (P Q : List Int) (i : Nat) (h : i < P.length) : (P ++ Q).getD i 0 = P.getD i 0 := by
  simp [List.getD_eq_getElem?_getD, List.getElem?_append_left h]

theorem swp_app (P M Q : List Int) (x y : Int) : swp (P ++ x :: (M ++ y :: Q)) P.length (P.length + 1 + M.length) = P ++ y :: (M ++ x :: Q) := by
  have e : P.length + 1 + M.length = P.length + (M.length + 1) := by omega
  rw [swp_of _ _ _ x y (by simp) (by
    rw [e, getD_app P (x :: (M ++ y :: Q)) (M.length + 1)]
    simp)]
  rw [e]
  simp [List.set_append]
theorem swp_comm (l : List Int) (i j : Nat) (h : i ≠ j) : swp l i j = swp l j i := by unfold swp; rw [List.set_comm _ _ h]
theorem swp_next (P Q : List Int) (x y : Int) : swp (P ++ x :: y :: Q) P.length (P.length + 1) = P ++ y :: x :: Q := by
  have := swp_app P [] Q x y; simpa using this
theorem swp_prev (P Q : List Int) (x y : Int) : swp (P ++ x :: y :: Q) (P.length + 1) P.length = P ++ y :: x :: Q := by
  rw [swp_comm _ _ _ (by omega), swp_next]

/-! insertion -/
section
variable {cf : Int → Int → Int} {D : Int → Prop} (ht : BefTrans cf D)
include ht

theorem insInner_app : ∀ (n : Nat) (P A : List Int) (y : Int) (Q : List Int), A.length = n → Srt cf A → (∀ x ∈ A, x < y) → (∀ x ∈ A, D x) → D y →
    ∃ C, insInner cf P.length (P.length + A.length) (P ++ (A ++ y :: Q)) = P ++ (C ++ Q) ∧ C.Perm (A ++ [y]) ∧ Srt cf C := by
  intro n
  induction n with
  | zero =>
    intro P A y Q hn _ _ _ _
    obtain rfl : A = [] := List.eq_nil_of_length_eq_zero hn
    refine ⟨[y], ?_, by simp, by simp⟩
    simp only [List.length_nil, Nat.add_zero, List.nil_append, List.singleton_append]
    cases h : P.length with
    | zero => rfl
    | succ k => rw [insInner, if_neg (fun h => by omega)]
  | succ n ih =>
    intro P A y Q hn hs hl hD hy
    obtain ⟨A', x, rfl⟩ : ∃ A' x, A = A' ++ [x] := ⟨A.dropLast, A.getLast (by intro h; rw [h] at hn; simp at hn), (List.dropLast_concat_getLast _).symm⟩
    have hn' : A'.length = n := by simpa using hn
    have hsA := (List.pairwise_append.1 hs).1
    have hsx := (List.pairwise_append.1 hs).2.2
    have hxy : x < y := hl x (by simp)
    have e0 : P ++ ((A' ++ [x]) ++ y :: Q) = (P ++ A') ++ x :: y :: Q := by simp
    have ej : P.length + (A' ++ [x]).length = (P ++ A').length + 1 := by simp; omega
    rw [e0, ej]
    have g1 : ((P ++ A') ++ x :: y :: Q).getD ((P ++ A').length + 1) 0 = y := by rw [getD_app]; rfl
    have g0 : ((P ++ A') ++ x :: y :: Q).getD (P ++ A').length 0 = x := by have := getD_app (P ++ A') (x :: y :: Q) 0; simp at this; simp [this]
    by_cases hc : cf y x < 0
    · rw [insInner_go cf _ _ _ y x g1 g0 (by simp; omega) hc, swp_prev]
      obtain ⟨C, h1, h2, h3⟩ := ih P A' y (x :: Q) hn' hsA (fun z hz => hl z (by simp [hz])) (fun z hz => hD z (by simp [hz])) hy
      refine ⟨C ++ [x], ?_, ?_, ?_⟩
      · rw [show (P ++ A').length = P.length + A'.length from by simp, show (P ++ A') ++ y :: x :: Q = P ++ (A' ++ y :: x :: Q) from by simp, h1]; simp
      · refine (h2.append_right [x]).trans ?_
        simp only [List.append_assoc]
        exact List.Perm.append_left A' (List.Perm.swap x y [])
      · refine List.pairwise_append.2 ⟨h3, by simp, fun z hz w hw => ?_⟩
        obtain rfl : w = x := by simpa using hw
        rcases List.mem_append.1 (h2.mem_iff.1 hz) with hz | hz
        · exact hsx z hz w (by simp)
        · obtain rfl : z = y := by simpa using hz
          exact (bef_gt hxy).2 hc
    · rw [insInner_stop cf _ _ _ y x g1 g0 hc]
      refine ⟨(A' ++ [x]) ++ [y], by simp, List.Perm.refl _, List.pairwise_append.2 ⟨hs, by simp, fun z hz w hw => ?_⟩⟩
      obtain rfl : w = y := by simpa using hw
      have hb : bef cf x w := (bef_lt hxy).2 hc
      rcases List.mem_append.1 hz with hz' | hz'
      · exact ht z x w (hD z hz) (hD x (by simp)) hy (hsx z hz' x (by simp)) hb
      · obtain rfl : z = x := by simpa using hz'
        exact hb

theorem insOuter_app : ∀ (B : List Int) (P A Q : List Int), Srt cf A → (A ++ B).Pairwise (· < ·) ∨ (∀ x ∈ A, ∀ y ∈ B, x < y) ∧ B.Pairwise (· < ·) → (∀ x ∈ A, D x) → (∀ x ∈ B, D x) →
    ∃ C, insOuter cf P.length (P.length + A.length) B.length (P ++ (A ++ (B ++ Q))) = P ++ (C ++ Q) ∧ C.Perm (A ++ B) ∧ Srt cf C := by
  intro B
  induction B with
  | nil => intro P A Q hs _ _ _; exact ⟨A, by simp [insOuter], by simp, hs⟩
  | cons y B ih =>
    intro P A Q hs hc hA hB
    have hc' : (∀ x ∈ A, ∀ z ∈ y :: B, x < z) ∧ (y :: B).Pairwise (· < ·) := by
      rcases hc with h | h
      · exact ⟨(List.pairwise_append.1 h).2.2, (List.pairwise_append.1 h).2.1⟩
      · exact h
    obtain ⟨C, h1, h2, h3⟩ := insInner_app ht A.length P A y (B ++ Q) rfl hs (fun x hx => hc'.1 x hx y (by simp)) hA (hB y (by simp))
    have hl : C.length = A.length + 1 := by rw [h2.length_eq]; simp
    obtain ⟨C', g1, g2, g3⟩ := ih P C Q h3 (Or.inr ⟨fun x hx z hz => by
      rcases List.mem_append.1 (h2.mem_iff.1 hx) with hx | hx
      · exact hc'.1 x hx z (by simp [hz])
      · obtain rfl : x = y := by simpa using hx
        exact (List.pairwise_cons.1 hc'.2).1 z hz, (List.pairwise_cons.1 hc'.2).2⟩) (fun x hx => by
      rcases List.mem_append.1 (h2.mem_iff.1 hx) with hx | hx
      · exact hA x hx
      · obtain rfl : x = y := by simpa using hx
        exact hB x (by simp)) (fun x hx => hB x (by simp [hx]))
    refine ⟨C', ?_, ?_, g3⟩
    · rw [List.length_cons, insOuter, List.cons_append, h1, show P.length + A.length + 1 = P.length + C.length from by omega, g1]
    · refine g2.trans ((h2.append_right B).trans ?_)
      simp

theorem ins_app (P B Q : List Int) (hB : B.Pairwise (· < ·)) (hD : ∀ x ∈ B, D x) : ∃ C, ins cf P.length (P.length + B.length) (P ++ (B ++ Q)) = P ++ (C ++ Q) ∧ C.Perm B ∧ Srt cf C := by
  unfold ins
  cases B with
  | nil => exact ⟨[], by simp [insOuter], by simp, by simp⟩
  | cons x B =>
    obtain ⟨C, h1, h2, h3⟩ := insOuter_app ht B P [x] Q (by simp) (Or.inl (by simpa using hB)) (fun z hz => hD z (by simp at hz; simp [hz])) (fun z hz => hD z (by simp [hz]))
    refine ⟨C, ?_, by simpa using h2, h3⟩
    rw [← h1]
    simp
    congr 1
    omega
end

/-! blocks that change places -/
theorem swapR_app : ∀ (X P M Y Q : List Int) (i : Nat) (X0 Y0 : List Int), X.length = Y.length → X0.length = i → Y0.length = i →
    swapR P.length (P.length + i + X.length + M.length) i X.length (P ++ (X0 ++ (X ++ (M ++ (Y0 ++ (Y ++ Q)))))) = P ++ (X0 ++ (Y ++ (M ++ (Y0 ++ (X ++ Q))))) := by
  intro X
  induction X with
  | nil =>
    intro P M Y Q i X0 Y0 hl _ _
    obtain rfl : Y = [] := List.eq_nil_of_length_eq_zero (by simpa using hl.symm)
    rfl
  | cons x X ih =>
    intro P M Y Q i X0 Y0 hl h0 h1
    cases Y with
    | nil => simp at hl
    | cons y Y =>
      rw [List.length_cons, swapR]
      have hs := swp_app (P ++ X0) (X ++ (M ++ Y0)) (Y ++ Q) x y
      have e1 : P ++ (X0 ++ ((x :: X) ++ (M ++ (Y0 ++ ((y :: Y) ++ Q))))) = (P ++ X0) ++ x :: ((X ++ (M ++ Y0)) ++ y :: (Y ++ Q)) := by simp
      have e2 : P.length + i = (P ++ X0).length := by simp; omega
      have e3 : P.length + i + (X.length + 1) + M.length + i = (P ++ X0).length + 1 + (X ++ (M ++ Y0)).length := by simp; omega
      rw [e1, e3, e2, hs]
      have := ih P M Y Q (i + 1) (X0 ++ [y]) (Y0 ++ [x]) (by simpa using hl) (by simp; omega) (by simp; omega)
      rw [show P.length + (i + 1) + X.length + M.length = (P ++ X0).length + (X.length + 1) + M.length from by simp; omega] at this
      simp only [List.append_assoc, List.cons_append, List.nil_append] at this ⊢
      exact this
theorem swapR_app0 (P X M Y Q : List Int) (hl : X.length = Y.length) : swapR P.length (P.length + X.length + M.length) 0 X.length (P ++ (X ++ (M ++ (Y ++ Q)))) = P ++ (Y ++ (M ++ (X ++ Q))) := by
  have := swapR_app X P M Y Q 0 [] [] hl rfl rfl; simpa using this

theorem split_at (l : List Int) (k : Nat) (h : k ≤ l.length) : ∃ a b, l = a ++ b ∧ a.length = k := ⟨l.take k, l.drop k, (List.take_append_drop k l).symm, by simp; omega⟩

theorem rot_app : ∀ (n : Nat) (P U V Q : List Int) (m : Nat), U.length + V.length ≤ n → 0 < U.length → 0 < V.length → P.length + U.length = m → rot m U.length V.length (P ++ (U ++ (V ++ Q))) = P ++ (V ++ (U ++ Q)) := by
  intro n
  induction n with
  | zero => intro P U V Q m h hu hv _; omega
  | succ n ih =>
    intro P U V Q m h hu hv hm
    rcases Nat.lt_trichotomy U.length V.length with hlt | heq | hgt
    · rw [rot_lt m _ _ _ hu hlt]
      -- V = V1 ++ V2, V2 as long as U: U and V2 change places
      obtain ⟨V1, V2, rfl, hl1⟩ := split_at V (V.length - U.length) (by omega)
      have hl2 : V2.length = U.length := by
        have : (V1 ++ V2).length = V1.length + V2.length := by simp
        omega
      have hs := swapR_app0 P U V1 (V2) Q hl2.symm
      have e : m + (V1 ++ V2).length - U.length = P.length + U.length + V1.length := by simp; omega
      rw [show m - U.length = P.length from by omega, e, show P ++ (U ++ ((V1 ++ V2) ++ Q)) = P ++ (U ++ (V1 ++ (V2 ++ Q))) from by simp, hs]
      have e2 : (V1 ++ V2).length - U.length = V1.length := by simp; omega
      rw [e2, show U.length = V2.length from hl2.symm]
      rw [ih P V2 V1 (U ++ Q) m (by simp at h; omega) (by omega) (by simp at hlt; omega) (by omega)]
      simp
    · rw [heq, rot_eq m _ _ hv]
      have hs := swapR_app0 P U [] V Q heq
      simp only [List.nil_append, List.length_nil, Nat.add_zero] at hs
      rw [show m - V.length = P.length from by omega, ← heq, ← hm, hs]
    · rw [rot_gt m _ _ _ hv hgt]
      -- U = U1 ++ U2, U1 as long as V: U1 and V change places
      obtain ⟨U1, U2, rfl, hl1⟩ := split_at U V.length (by omega)
      have hs := swapR_app0 P U1 U2 V Q hl1
      rw [show m - (U1 ++ U2).length = P.length from by omega, ← hl1, show m = P.length + U1.length + U2.length from by simp at hm; omega, show P ++ ((U1 ++ U2) ++ (V ++ Q)) = P ++ (U1 ++ (U2 ++ (V ++ Q))) from by simp, hs]
      have e2 : (U1 ++ U2).length - U1.length = U2.length := by simp
      rw [e2]
      have := ih (P ++ V) U2 U1 Q (P.length + U1.length + U2.length) (by simp at h; omega) (by simp at hgt; omega) (by omega) (by simp; omega)
      simp only [List.append_assoc] at this ⊢
      exact this

theorem shR_app : ∀ (Y P : List Int) (x : Int) (Q : List Int), shR P.length Y.length (P ++ x :: (Y ++ Q)) = P ++ (Y ++ x :: Q) := by
  intro Y
  induction Y with
  | nil => intro P x Q; rfl
  | cons y Y ih =>
    intro P x Q
    rw [List.length_cons, shR, List.cons_append, swp_next]
    have := ih (P ++ [y]) x Q
    simpa using this
theorem shL_app (P : List Int) : ∀ (n : Nat) (Y : List Int) (x : Int) (Q : List Int), Y.length = n → shL P.length n (P ++ (Y ++ x :: Q)) = P ++ x :: (Y ++ Q) := by
  intro n
  induction n with
  | zero =>
    intro Y x Q hn
    obtain rfl : Y = [] := List.eq_nil_of_length_eq_zero hn
    rfl
  | succ n ih =>
    intro Y x Q hn
    obtain ⟨Y', y, rfl⟩ : ∃ A' x, Y = A' ++ [x] := ⟨Y.dropLast, Y.getLast (by intro h; rw [h] at hn; simp at hn), (List.dropLast_concat_getLast _).symm⟩
    have hn' : Y'.length = n := by simpa using hn
    have hs := swp_prev (P ++ Y') Q y x
    rw [shL, show P.length + n + 1 = (P ++ Y').length + 1 from by simp; omega, show P.length + n = (P ++ Y').length from by simp; omega, show P ++ ((Y' ++ [y]) ++ x :: Q) = (P ++ Y') ++ y :: x :: Q from by simp, hs]
    have := ih Y' x (y :: Q) hn'
    simp only [List.append_assoc, List.cons_append, List.nil_append] at this ⊢
    exact this

/-- What the search finds, where p says yes ahead of a place and no behind it. -/
theorem bs_spec (p : Nat → Bool) : ∀ (n i j : Nat), j - i ≤ n → i ≤ j → (∀ h h', i ≤ h' → h' < h → h < j → p h = true → p h' = true) →
    (∀ h, i ≤ h → h < bs p i j → p h = true) ∧ (∀ h, bs p i j ≤ h → h < j → p h = false) := by
  intro n
  induction n with
  | zero =>
    intro i j h hij _
    obtain rfl : i = j := by omega
    rw [bs_end]
    exact ⟨fun h h1 h2 => by omega, fun h h1 h2 => by omega⟩
  | succ n ih =>
    intro i j h hij hm
    by_cases hlt : i < j
    · cases hp : p ((i + j) / 2) with
      | true =>
        rw [bs_yes p i j hlt hp]
        obtain ⟨h1, h2⟩ := ih ((i + j) / 2 + 1) j (by omega) (by omega) (fun a b x1 x2 x3 => hm a b (by omega) x2 x3)
        refine ⟨fun k hk1 hk2 => ?_, h2⟩
        by_cases hk : k < (i + j) / 2
        · exact hm _ k hk1 hk (by omega) hp
        · by_cases hk' : k = (i + j) / 2
          · rw [hk']; exact hp
          · exact h1 k (by omega) hk2
      | false =>
        rw [bs_no p i j hlt hp]
        obtain ⟨h1, h2⟩ := ih i ((i + j) / 2) (by omega) (by omega) (fun a b x1 x2 x3 => hm a b x1 x2 (by omega))
        refine ⟨h1, fun k hk1 hk2 => ?_⟩
        by_cases hk : k < (i + j) / 2
        · exact h2 k hk1 hk
        · by_cases hk' : k = (i + j) / 2
          · rw [hk']; exact hp
          · cases hpk : p k with
            | false => rfl
            | true => have := hm k ((i + j) / 2) (by omega) (by omega) hk2 hpk; rw [hp] at this; cases this
    · obtain rfl : i = j := by omega
      rw [bs_end]
      exact ⟨fun h h1 h2 => by omega, fun h h1 h2 => by omega⟩

end Go.Proofs.Ytfpcgancmgeagaa
