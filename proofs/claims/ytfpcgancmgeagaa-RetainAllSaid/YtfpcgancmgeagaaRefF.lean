/- The document's days: an insertion; they are the days that retain.Days hands out. Plain Lean. -/
import Derived.Test.YtfpcgancmgeagaaRefE
namespace Go.Proofs.Ytfpcgancmgeagaa

/-- Where a day goes. -/
def atD (out : List Int) (d : Int) : Nat → Nat
  | 0 => 0
  | n + 1 => if out.getD n 0 < d then atD out d n else n + 1
theorem atD_le (out : List Int) (d : Int) : ∀ n, atD out d n ≤ n
  | 0 => Nat.le_refl _
  | n + 1 => by
    unfold atD
    split
    · have := atD_le out d n; omega
    · exact Nat.le_refl _
theorem atD_low (out : List Int) (d : Int) : ∀ n j, atD out d n ≤ j → j < n → out.getD j 0 < d
  | 0, j, _, h => by omega
  | n + 1, j, h1, h2 => by
    unfold atD at h1
    split at h1
    · rename_i h
      by_cases e : j = n
      · rw [e]; exact h
      · exact atD_low out d n j h1 (by omega)
    · omega
theorem atD_high (out : List Int) (d : Int) : ∀ n, 0 < atD out d n → ¬ out.getD (atD out d n - 1) 0 < d
  | 0, h => by simp [atD] at h
  | n + 1, h => by
    unfold atD at h ⊢
    split
    · rename_i hh
      rw [if_pos hh] at h
      exact atD_high out d n h
    · rename_i hh; exact hh
def insD (out : List Int) (d : Int) : List Int := if d ∈ out then out else out.take (atD out d out.length) ++ [d] ++ out.drop (atD out d out.length)
def rdays (xs : List Sn) (day : Int) (k : Nat) : List Int := (xs.take k).foldl (fun out s => insD out (s.time / day)) []
theorem rdays_succ (xs : List Sn) (day : Int) (k : Nat) (h : k < xs.length) : rdays xs day (k + 1) = insD (rdays xs day k) ((xs.getD k default).time / day) := by
  unfold rdays
  rw [List.take_succ_eq_append_getElem h, List.foldl_append]
  simp [List.getD_eq_getElem?_getD, List.getElem?_eq_getElem h]
theorem insD_mem {out : List Int} {d e : Int} : e ∈ insD out d ↔ e = d ∨ e ∈ out := by
  unfold insD
  split
  · rename_i h
    constructor
    · exact .inr
    · rintro (rfl | h')
      · exact h
      · exact h'
  · have := List.take_append_drop (atD out d out.length) out
    constructor
    · intro h
      simp only [List.mem_append, List.mem_singleton] at h
      rcases h with (h | h) | h
      · exact .inr (List.mem_of_mem_take h)
      · exact .inl h
      · exact .inr (List.mem_of_mem_drop h)
    · rintro (rfl | h)
      · simp
      · rw [← this] at h
        simp only [List.mem_append, List.mem_singleton] at h ⊢
        rcases h with h | h
        · exact .inl (.inl h)
        · exact .inr h
theorem insD_strict {out : List Int} (d : Int) (h : out.Pairwise (· > ·)) : (insD out d).Pairwise (· > ·) := by
  unfold insD
  split
  · exact h
  · rename_i hn
    generalize hk : atD out d out.length = k
    have hle := atD_le out d out.length
    rw [hk] at hle
    have hp := List.pairwise_iff_getElem.1 h
    have hlow : ∀ e ∈ out.drop k, e < d := by
      intro e he
      obtain ⟨j, hj, rfl⟩ := List.getElem_of_mem he
      rw [List.length_drop] at hj
      have := atD_low out d out.length (k + j) (by omega) (by omega)
      rw [List.getD_eq_getElem?_getD, List.getElem?_eq_getElem (by omega)] at this
      rw [List.getElem_drop]; exact this
    have hhigh : ∀ e ∈ out.take k, d < e := by
      intro e he
      obtain ⟨j, hj, rfl⟩ := List.getElem_of_mem he
      rw [List.length_take] at hj
      rw [List.getElem_take]
      have h1 := atD_high out d out.length (by omega)
      rw [hk, List.getD_eq_getElem?_getD, List.getElem?_eq_getElem (by omega)] at h1
      simp only [Option.getD_some] at h1
      have h2 : out[k - 1]'(by omega) ≠ d := fun e => hn (by rw [← e]; exact List.getElem_mem _)
      by_cases e : j = k - 1
      · subst e; omega
      · have := hp j (k - 1) (by omega) (by omega) (by omega); omega
    rw [List.append_assoc, List.pairwise_append]
    refine ⟨h.sublist (List.take_sublist _ _), ?_, ?_⟩
    · rw [List.singleton_append, List.pairwise_cons]
      exact ⟨fun e he => hlow e he, h.sublist (List.drop_sublist _ _)⟩
    · intro a ha b hb
      have h1 := hhigh a ha
      simp only [List.mem_append, List.mem_singleton] at hb
      rcases hb with rfl | hb
      · exact h1
      · have := hlow b hb; show b < a; omega
theorem rdays_strict (xs : List Sn) (day : Int) : ∀ k, k ≤ xs.length → (rdays xs day k).Pairwise (· > ·)
  | 0, _ => by unfold rdays; simp
  | k + 1, h => by rw [rdays_succ xs day k h]; exact insD_strict _ (rdays_strict xs day k (by omega))
theorem rdays_mem (xs : List Sn) (day d : Int) : ∀ k, k ≤ xs.length → (d ∈ rdays xs day k ↔ ∃ i : Nat, i < k ∧ (xs.getD i default).time / day = d)
  | 0, _ => by unfold rdays; simp
  | k + 1, h => by
    rw [rdays_succ xs day k h, insD_mem, rdays_mem xs day d k (by omega)]
    constructor
    · rintro (e | ⟨i, hi, e⟩)
      · exact ⟨k, by omega, e.symm⟩
      · exact ⟨i, by omega, e⟩
    · rintro ⟨i, hi, e⟩
      by_cases hk : i = k
      · subst hk; exact .inl e.symm
      · exact .inr ⟨i, by omega, e⟩
theorem strict_eq : ∀ {a b : List Int}, a.Pairwise (· > ·) → b.Pairwise (· > ·) → (∀ d, d ∈ a ↔ d ∈ b) → a = b
  | [], [], _, _, _ => rfl
  | [], y :: b, _, _, h => by have := (h y).2 (List.mem_cons_self ..); cases this
  | x :: a, [], _, _, h => by have := (h x).1 (List.mem_cons_self ..); cases this
  | x :: a, y :: b, ha, hb, h => by
    have ha' := List.pairwise_cons.1 ha
    have hb' := List.pairwise_cons.1 hb
    have e : x = y := by
      rcases List.mem_cons.1 ((h x).1 (List.mem_cons_self ..)) with e | e
      · exact e
      · rcases List.mem_cons.1 ((h y).2 (List.mem_cons_self ..)) with e' | e'
        · exact e'.symm
        · have := ha'.1 y e'; have := hb'.1 x e; omega
    subst e
    rw [strict_eq ha'.2 hb'.2 (fun d => ?_)]
    constructor
    · intro hd
      rcases List.mem_cons.1 ((h d).1 (List.mem_cons_of_mem _ hd)) with e | e
      · have := ha'.1 d hd; omega
      · exact e
    · intro hd
      rcases List.mem_cons.1 ((h d).2 (List.mem_cons_of_mem _ hd)) with e | e
      · have := hb'.1 d hd; omega
      · exact e
/-- **The document's days are the program's.** -/
theorem rdays_days (xs : List Sn) (day : Int) (h : 1 ≤ day) : rdays xs day xs.length = daysL xs day := by
  refine strict_eq (rdays_strict xs day _ (Nat.le_refl _)) (daysL_strict xs day) fun d => ?_
  rw [rdays_mem xs day d _ (Nat.le_refl _), daysL_mem h]
  constructor
  · rintro ⟨i, hi, e⟩
    exact ⟨i, by omega, by omega, by unfold dayOf snAt; rw [Int.toNat_natCast]; exact e⟩
  · rintro ⟨i, h0, h1, e⟩
    exact ⟨i.toNat, by omega, e⟩
theorem insD_length (out : List Int) (d : Int) : (insD out d).length ≤ out.length + 1 := by
  unfold insD
  split
  · omega
  · simp; omega
theorem rdays_length (xs : List Sn) (day : Int) : ∀ k, k ≤ xs.length → (rdays xs day k).length ≤ k
  | 0, _ => by unfold rdays; simp
  | k + 1, h => by rw [rdays_succ xs day k h]; have := insD_length (rdays xs day k) ((xs.getD k default).time / day); have := rdays_length xs day k (by omega); omega
theorem insD_in {out : List Int} {d : Int} (h : decide (d ∈ out) = true) : insD out d = out := by unfold insD; rw [if_pos (of_decide_eq_true h)]
theorem insD_out {out : List Int} {d : Int} (h : decide (d ∈ out) = false) : insD out d = out.take (atD out d out.length) ++ [d] ++ out.drop (atD out d out.length) := by unfold insD; rw [if_neg (of_decide_eq_false h)]

end Go.Proofs.Ytfpcgancmgeagaa
