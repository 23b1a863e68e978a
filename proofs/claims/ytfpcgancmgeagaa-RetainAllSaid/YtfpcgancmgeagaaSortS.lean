/- The library's stable sort sorts: the whole of it. Plain lists, no program in sight. -/
import Derived.Test.YtfpcgancmgeagaaSortR
namespace Go.Proofs.Ytfpcgancmgeagaa

/-- C is R, sorted in runs of bs. -/
inductive Runs (cf : Int → Int → Int) (bs : Nat) : List Int → List Int → Prop
  | last (R C : List Int) : R.length ≤ bs → C.Perm R → Srt cf C → Runs cf bs R C
  | more (R1 C1 R2 C2 : List Int) : R1.length = bs → C1.Perm R1 → Srt cf C1 → Runs cf bs R2 C2 → Runs cf bs (R1 ++ R2) (C1 ++ C2)

theorem Runs.length {cf : Int → Int → Int} {bs : Nat} {R C : List Int} (h : Runs cf bs R C) : C.length = R.length := by
  induction h with
  | last R C _ hp _ => exact hp.length_eq
  | more R1 C1 R2 C2 _ hp _ _ ih => simp [hp.length_eq, ih]
theorem Runs.one {cf : Int → Int → Int} {bs : Nat} {R C : List Int} (h : Runs cf bs R C) (hl : R.length ≤ bs) (hb : 0 < bs) : C.Perm R ∧ Srt cf C := by
  cases h with
  | last _ _ _ hp hs => exact ⟨hp, hs⟩
  | more R1 C1 R2 C2 h1 hp hs hr =>
    have : R2.length = 0 := by simp at hl; omega
    have hc := hr.length
    obtain rfl : R2 = [] := List.eq_nil_of_length_eq_zero this
    obtain rfl : C2 = [] := List.eq_nil_of_length_eq_zero (by simpa using hc)
    exact ⟨by simpa using hp, by simpa using hs⟩

section
variable {cf : Int → Int → Int} {D : Int → Prop} (ht : BefTrans cf D)
include ht

theorem st1_runs : ∀ (n : Nat) (P R : List Int), R.length ≤ n → R.Pairwise (· < ·) → (∀ x ∈ R, D x) → ∃ C, st1 cf (P.length + R.length) P.length (P ++ R) = P ++ C ∧ Runs cf 20 R C := by
  intro n
  induction n with
  | zero =>
    intro P R hn hp hD
    obtain rfl : R = [] := List.eq_nil_of_length_eq_zero (by omega)
    obtain ⟨C, h1, h2, h3⟩ := ins_app ht P [] [] (by simp) (by simp)
    rw [st1, dif_neg (by simp)]
    exact ⟨C, by simpa using h1, .last _ _ (by simp) h2 h3⟩
  | succ n ih =>
    intro P R hn hp hD
    rw [st1]
    by_cases h : P.length + 20 ≤ P.length + R.length
    · rw [dif_pos h]
      obtain ⟨R1, R2, rfl, h1⟩ := split_at R 20 (by omega)
      have pp := List.pairwise_append.1 hp
      obtain ⟨C, g1, g2, g3⟩ := ins_app ht P R1 R2 pp.1 (fun x hx => hD x (by simp [hx]))
      have hl : C.length = 20 := by rw [g2.length_eq, h1]
      rw [h1] at g1
      rw [g1]
      obtain ⟨C2, k1, k2⟩ := ih (P ++ C) R2 (by simp at hn; omega) pp.2.1 (fun x hx => hD x (by simp [hx]))
      refine ⟨C ++ C2, ?_, .more R1 C R2 C2 h1 g2 g3 k2⟩
      rw [show (P ++ C).length + R2.length = P.length + (R1 ++ R2).length from by simp; omega, show (P ++ C).length = P.length + 20 from by simp; omega] at k1
      simp only [List.append_assoc] at k1 ⊢
      exact k1
    · rw [dif_neg h]
      obtain ⟨C, g1, g2, g3⟩ := ins_app ht P R [] hp hD
      exact ⟨C, by simpa using g1, .last _ _ (by omega) g2 g3⟩

theorem st2in_runs (bs : Nat) (hbs : 0 < bs) : ∀ (n : Nat) (P R C : List Int), R.length ≤ n → R.Pairwise (· < ·) → (∀ x ∈ R, D x) → Runs cf bs R C →
    ∃ C', st2in cf (P.length + R.length) bs P.length (P ++ C) = P ++ C' ∧ Runs cf (2 * bs) R C' := by
  intro n
  induction n with
  | zero =>
    intro P R C hn hp hD hr
    have hl := hr.length
    obtain rfl : R = [] := List.eq_nil_of_length_eq_zero (by omega)
    obtain rfl : C = [] := List.eq_nil_of_length_eq_zero (by simpa using hl)
    rw [st2in, dif_neg (by simp only [List.length_nil]; omega), if_neg (by simp only [List.length_nil]; omega)]
    exact ⟨[], by simp, .last _ _ (by simp) (by simp) (by simp)⟩
  | succ n ih =>
    intro P R C hn hp hD hr
    by_cases hsm : R.length ≤ bs
    · have h1 := hr.one hsm hbs
      rw [st2in, dif_neg (by omega), if_neg (by omega)]
      exact ⟨C, rfl, .last _ _ (by omega) h1.1 h1.2⟩
    · cases hr with
      | last _ _ h _ _ => omega
      | more R1 C1 R2 C2 h1 hp1 hs1 hr2 =>
        have pp := List.pairwise_append.1 hp
        have hc1 : C1.length = bs := by rw [hp1.length_eq, h1]
        have merge : ∀ (S1 E1 Q : List Int), 0 < E1.length → E1.Perm S1 → Srt cf E1 → (∀ x ∈ S1, x ∈ R2) → (R1 ++ S1).Pairwise (· < ·) → P.length + (R1 ++ R2).length ≥ P.length + bs + E1.length →
            ∃ C, symm cf (P.length + (R1 ++ R2).length) P.length (P.length + bs) (P.length + bs + E1.length) (P ++ (C1 ++ (E1 ++ Q))) = P ++ (C ++ Q) ∧ C.Perm (R1 ++ S1) ∧ Srt cf C := by
          intro S1 E1 Q h0 hpe hse hm hpw hle
          obtain ⟨C, g1, g2, g3⟩ := symm_app ht (P.length + (R1 ++ R2).length) P C1 E1 Q (by omega) (by omega) h0 hs1 hse (fun x hx y hy => (List.pairwise_append.1 hpw).2.2 x (hp1.mem_iff.1 hx) y (hpe.mem_iff.1 hy)) (fun x hx => hD x (by simp [hp1.mem_iff.1 hx])) (fun x hx => hD x (by simp [hm x (hpe.mem_iff.1 hx)]))
          rw [hc1] at g1
          exact ⟨C, g1, g2.trans (hp1.append hpe), g3⟩
        by_cases hbig : P.length + 2 * bs ≤ P.length + (R1 ++ R2).length
        · rw [st2in, dif_pos ⟨hbs, hbig⟩]
          have hR2 : bs ≤ R2.length := by simp at hbig; omega
          -- the next run
          obtain ⟨S1, E1, S2, E2, rfl, rfl, t1, t2, t3, t4⟩ : ∃ S1 E1 S2 E2, R2 = S1 ++ S2 ∧ C2 = E1 ++ E2 ∧ S1.length = bs ∧ E1.Perm S1 ∧ Srt cf E1 ∧ Runs cf bs S2 E2 := by
            cases hr2 with
            | last _ _ h hpq hs => exact ⟨R2, C2, [], [], by simp, by simp, by omega, hpq, hs, .last _ _ (by simp) (by simp) (by simp)⟩
            | more S1 E1 S2 E2 h hpq hs hr => exact ⟨S1, E1, S2, E2, rfl, rfl, h, hpq, hs, hr⟩
          have he1 : E1.length = bs := by rw [t2.length_eq, t1]
          have hpw : (R1 ++ S1).Pairwise (· < ·) := by
            have h := hp
            rw [← List.append_assoc] at h
            exact (List.pairwise_append.1 h).1
          obtain ⟨C, g1, g2, g3⟩ := merge S1 E1 E2 (by omega) t2 t3 (fun x hx => by simp [hx]) hpw (by simp; omega)
          rw [he1, show P.length + bs + bs = P.length + 2 * bs from by omega] at g1
          rw [g1]
          have hlC : C.length = 2 * bs := by rw [g2.length_eq]; simp; omega
          obtain ⟨C', k1, k2⟩ := ih (P ++ C) S2 E2 (by simp at hn; omega) (List.pairwise_append.1 pp.2.1).2.1 (fun x hx => hD x (by simp [hx])) t4
          rw [show (P ++ C).length + S2.length = P.length + (R1 ++ (S1 ++ S2)).length from by simp; omega, show (P ++ C).length = P.length + 2 * bs from by simp; omega] at k1
          refine ⟨C ++ C', by simp only [List.append_assoc] at k1; exact k1, ?_⟩
          have := Runs.more (cf := cf) (bs := 2 * bs) (R1 ++ S1) C S2 C' (by simp; omega) g2 g3 k2
          simpa using this
        · rw [st2in, dif_neg (by omega), if_pos (by simp at hsm ⊢; omega)]
          have hR2 : R2.length < bs := by simp at hbig; omega
          have h2 := hr2.one (by omega) hbs
          have hl2 : C2.length = R2.length := hr2.length
          obtain ⟨C, g1, g2, g3⟩ := merge R2 C2 [] (by simp at hsm; omega) h2.1 h2.2 (fun x hx => hx) hp (by simp; omega)
          rw [show P.length + bs + C2.length = P.length + (R1 ++ R2).length from by simp; omega] at g1
          simp only [List.append_nil] at g1
          exact ⟨C, g1, .last _ _ (by simp; omega) g2 g3⟩

theorem st2_sorts : ∀ (n bs : Nat) (R C : List Int), R.length - bs ≤ n → 0 < bs → R.Pairwise (· < ·) → (∀ x ∈ R, D x) → Runs cf bs R C → (st2 cf R.length bs C).Perm R ∧ Srt cf (st2 cf R.length bs C) := by
  intro n
  induction n with
  | zero =>
    intro bs R C hn hb hp hD hr
    rw [st2, dif_neg (by omega)]
    exact hr.one (by omega) hb
  | succ n ih =>
    intro bs R C hn hb hp hD hr
    rw [st2]
    by_cases h : bs < R.length
    · rw [dif_pos ⟨hb, h⟩]
      obtain ⟨C', h1, h2⟩ := st2in_runs ht bs hb R.length [] R C (Nat.le_refl _) hp hD hr
      simp only [List.length_nil, Nat.zero_add, List.nil_append] at h1
      rw [h1]
      exact ih (2 * bs) R C' (by omega) (by omega) hp hD h2
    · rw [dif_neg (by omega)]
      exact hr.one (by omega) hb

/-- **The sort sorts, stably**: of rising numbers it makes the same numbers, ordered by cf, ties rising. -/
theorem stable_sorts (xs : List Int) (hp : xs.Pairwise (· < ·)) (hD : ∀ x ∈ xs, D x) : (stable cf xs).Perm xs ∧ Srt cf (stable cf xs) := by
  obtain ⟨C, h1, h2⟩ := st1_runs ht xs.length [] xs (Nat.le_refl _) hp hD
  simp only [List.length_nil, Nat.zero_add, List.nil_append] at h1
  unfold stable
  rw [h1]
  exact st2_sorts ht xs.length 20 xs C (by omega) (by omega) hp hD h2
end

theorem st1_length (cf : Int → Int → Int) (n : Nat) : ∀ (k a : Nat) (l : List Int), n - a ≤ k → (st1 cf n a l).length = l.length := by
  intro k
  induction k with
  | zero => intro a l h; rw [st1]; split
            · omega
            · exact ins_length _ _ _ _
  | succ k ih =>
    intro a l h
    rw [st1]; split
    · rw [ih _ _ (by omega), ins_length]
    · exact ins_length _ _ _ _
theorem st2in_length (cf : Int → Int → Int) (n bs : Nat) : ∀ (k a : Nat) (l : List Int), n - a ≤ k → (st2in cf n bs a l).length = l.length := by
  intro k
  induction k with
  | zero => intro a l h; rw [st2in]; split
            · omega
            · split
              · exact symm_length _ _ _ _ _ _
              · rfl
  | succ k ih =>
    intro a l h
    rw [st2in]; split
    · rw [ih _ _ (by omega), symm_length]
    · split
      · exact symm_length _ _ _ _ _ _
      · rfl
theorem st2_length (cf : Int → Int → Int) (n : Nat) : ∀ (k bs : Nat) (l : List Int), n - bs ≤ k → (st2 cf n bs l).length = l.length := by
  intro k
  induction k with
  | zero => intro bs l h; rw [st2, dif_neg (by omega)]
  | succ k ih =>
    intro bs l h
    rw [st2]; split
    · rw [ih _ _ (by omega), st2in_length cf n bs _ _ _ (Nat.le_refl _)]
    · rfl
theorem stable_length (cf : Int → Int → Int) (l : List Int) : (stable cf l).length = l.length := by
  unfold stable; rw [st2_length _ _ _ _ _ (Nat.le_refl _), st1_length _ _ _ _ _ (Nat.le_refl _)]

end Go.Proofs.Ytfpcgancmgeagaa
