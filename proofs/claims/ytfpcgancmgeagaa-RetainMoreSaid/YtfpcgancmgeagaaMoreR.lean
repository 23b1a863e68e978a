/- The plain law of RetainMore. -/
import Derived.Test.YtfpcgancmgeagaaMoreQ
import Derived.Test.YtfpcgancmgeagaaTagsP
namespace Go.Proofs.Ytfpcgancmgeagaa

def keptTo (ks : List Bool) (k : Nat) : List Int := (rng k).filter fun i => ks.getD i.toNat true
theorem keptTo_succ (ks : List Bool) (k : Nat) : keptTo ks (k + 1) = keptTo ks k ++ (if ks.getD k true then [(k : Int)] else []) := by
  unfold keptTo
  rw [rng_succ, List.filter_append]
  congr 1
  cases h : ks.getD k true
  · rw [List.getD_eq_getElem?_getD] at h; simp [h]
  · rw [List.getD_eq_getElem?_getD] at h; simp [h]
def leftTo (xs : List Sn) (ks : List Bool) (k : Nat) : List Sn := (keptTo ks k).map (snAt xs)
theorem leftTo_succ (xs : List Sn) (ks : List Bool) (k : Nat) : leftTo xs ks (k + 1) = leftTo xs ks k ++ (if ks.getD k true then [snAt xs k] else []) := by
  unfold leftTo
  rw [keptTo_succ, List.map_append]
  split <;> rfl
theorem mem_kept {ks : List Bool} {k : Nat} {i : Int} (h : i ∈ keptTo ks k) : 0 ≤ i ∧ i < k ∧ ks.getD i.toNat true = true := by
  obtain ⟨h1, h2⟩ := List.mem_filter.1 h
  have := mem_rng h1
  exact ⟨this.1, this.2, h2⟩
theorem kept_pairwise (ks : List Bool) (k : Nat) : (keptTo ks k).Pairwise (· < ·) := (rng_pairwise k).filter _
theorem left_length (xs : List Sn) (ks : List Bool) (k : Nat) : (leftTo xs ks k).length = (keptTo ks k).length := by unfold leftTo; simp
theorem left_mem {xs : List Sn} {ks : List Bool} {k : Nat} (hk : k ≤ xs.length) {s : Sn} (h : s ∈ leftTo xs ks k) : s ∈ xs := by
  obtain ⟨i, hi, rfl⟩ := List.mem_map.1 h
  obtain ⟨h0, h1, _⟩ := mem_kept hi
  unfold snAt
  rw [List.getD_eq_getElem?_getD, List.getElem?_eq_getElem (by omega)]
  exact List.getElem_mem _
theorem left_part (xs : List Sn) (ks : List Bool) : Part xs (leftTo xs ks xs.length) (fun j => (keptTo ks xs.length).getD j.toNat 0) := by
  have hl := left_length xs ks xs.length
  refine ⟨fun j h0 h1 => ?_, fun i j h0 hij h1 => ?_, fun j h0 h1 => ?_⟩
  · have := mem_kept (getD_in (l := keptTo ks xs.length) (k := j.toNat) (by omega))
    exact ⟨this.1, by omega⟩
  · have := List.pairwise_iff_getElem.1 (kept_pairwise ks xs.length) i.toNat j.toNat (by omega) (by omega) (by omega)
    rw [List.getD_eq_getElem?_getD, List.getD_eq_getElem?_getD, List.getElem?_eq_getElem (by omega), List.getElem?_eq_getElem (by omega)]
    exact this
  · have hj : j.toNat < (keptTo ks xs.length).length := by omega
    show (leftTo xs ks xs.length).getD j.toNat default = _
    unfold leftTo
    rw [List.getD_eq_getElem?_getD, List.getElem?_map, List.getElem?_eq_getElem hj]
    simp only [Option.map_some, Option.getD_some]
    rw [List.getD_eq_getElem?_getD, List.getElem?_eq_getElem hj]
    rfl

theorem gones_nil {xs : List Sn} {p : Pol} (h : ∀ i : Int, 0 ≤ i → i < xs.length → keepB xs p i = true) : gonesL xs p = [] := by
  unfold gonesL gonesTo
  rw [List.filter_eq_nil_iff]
  intro i hi
  have := mem_rng hi
  rw [getD_true (by rw [keepL_length]; omega), keepL_getD this.1 this.2, h i this.1 this.2]
  simp
theorem keptTo_len (xs : List Sn) (p : Pol) : (keptTo (keepL xs p) xs.length).length = (rng xs.length).countP (keepB xs p) := by
  unfold keptTo
  rw [← List.countP_eq_length_filter]
  refine List.countP_congr fun i hi => ?_
  have := mem_rng hi
  rw [getD_true (by rw [keepL_length]; omega), keepL_getD this.1 this.2]
theorem gones_len (xs : List Sn) (p : Pol) : (gonesL xs p).length + (rng xs.length).countP (keepB xs p) = xs.length := by
  unfold gonesL gonesTo
  have h := List.length_eq_countP_add_countP (keepB xs p) (l := rng xs.length)
  rw [rng_length] at h
  rw [← List.countP_eq_length_filter]
  have e : (rng xs.length).countP (fun i => !((keepL xs p).getD i.toNat true)) = (rng xs.length).countP (fun i => decide ¬(keepB xs p i = true)) := by
    refine List.countP_congr fun i hi => ?_
    have := mem_rng hi
    rw [getD_true (by rw [keepL_length]; omega), keepL_getD this.1 this.2]
    cases keepB xs p i <;> simp
  rw [e]
  omega

/-- **What is kept is kept when the others are gone.** -/
theorem left_gone {xs : List Sn} (hok : ∀ s ∈ xs, s.ok) (p : Pol) : gonesL (leftTo xs (keepL xs p) xs.length) p = [] := by
  have hp := left_part xs (keepL xs p)
  have hl := left_length xs (keepL xs p) xs.length
  refine gones_nil fun i h0 h1 => hp.keep hok p ⟨h0, h1⟩ ?_
  obtain ⟨m0, m1, m2⟩ := mem_kept (getD_in (l := keptTo (keepL xs p) xs.length) (k := i.toNat) (by omega))
  rw [getD_true (by rw [keepL_length]; omega), keepL_getD m0 (by omega)] at m2
  exact m2
/-- **The list turned round has as many gone.** -/
theorem back_gone (xs : List Sn) (p : Pol) : (gonesL xs.reverse p).length = xs.length - (leftTo xs (keepL xs p) xs.length).length := by
  have h1 := gones_len xs.reverse p
  rw [List.length_reverse] at h1
  have h2 := count_perm (List.reverse_perm xs) p
  rw [List.length_reverse] at h2
  rw [left_length, keptTo_len]
  omega

end Go.Proofs.Ytfpcgancmgeagaa
