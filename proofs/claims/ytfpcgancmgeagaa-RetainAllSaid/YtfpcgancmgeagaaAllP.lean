/- The plain law of RetainAll: with no policy all go, with the last n none goes. -/
import Derived.Test.YtfpcgancmgeagaaTagsP
import Derived.Test.YtfpcgancmgeagaaVSnap
namespace Go.Proofs.Ytfpcgancmgeagaa

theorem gonesL_nil {xs : List Sn} {p : Pol} (h : ∀ i : Int, 0 ≤ i → i < xs.length → keepB xs p i = true) : gonesL xs p = [] := by
  unfold gonesL gonesTo
  rw [List.filter_eq_nil_iff]
  intro i hi
  have := mem_rng hi
  rw [getD_true (by rw [keepL_length]; omega), keepL_getD this.1 this.2, h i this.1 this.2]
  simp
theorem gonesL_len (xs : List Sn) (p : Pol) : (gonesL xs p).length + (rng xs.length).countP (keepB xs p) = xs.length := by
  unfold gonesL gonesTo
  have h := List.length_eq_countP_add_countP (keepB xs p) (l := rng xs.length)
  rw [rng_length] at h
  rw [← List.countP_eq_length_filter]
  have e : (rng xs.length).countP (fun i => !((keepL xs p).getD i.toNat true)) = (rng xs.length).countP (fun i => decide ¬(keepB xs p i = true)) := by
    refine List.countP_congr fun i hi => ?_
    have := mem_rng hi
    rw [getD_true (by rw [keepL_length]; omega), keepL_getD this.1 this.2]
    cases keepB xs p i <;> simp
  rw [e]
  omega


theorem gone_all (xs : List Sn) (h : xs.length ≤ 30) : (goneMost xs (pDays 0 0) 1000).length = xs.length := by
  have := gonesL_len xs (pDays 0 0)
  have e : (rng xs.length).countP (keepB xs (pDays 0 0)) = 0 := by
    rw [List.countP_eq_zero]
    intro i _
    rw [keepB_days]
    simp
  unfold goneMost
  rw [List.length_take]
  show min 1000 _ = _
  omega
theorem behindN_lt {xs : List Sn} {i : Int} (h0 : 0 ≤ i) (hi : i < xs.length) : behindN xs i < xs.length := by
  unfold behindN
  have hl := rng_length xs.length
  have hle := List.countP_le_length (p := fun m => decide (ahead xs i m)) (l := rng xs.length)
  refine Nat.lt_of_le_of_ne (by omega) (fun e => ?_)
  have := List.countP_eq_length.1 (e.trans hl.symm) i (List.mem_map.2 ⟨i.toNat, List.mem_range.2 (by omega), by omega⟩)
  simp only [decide_eq_true_eq] at this
  exact ahead_irrefl this
theorem gone_last (xs : List Sn) : goneMost xs (pLast xs.length) 1000 = [] := by
  unfold goneMost
  rw [gonesL_nil, List.take_nil]
  intro i h0 h1
  rw [keepB_last]
  have := behindN_lt h0 h1
  exact decide_eq_true (by omega)

/-- The three policies of the law. -/
def threeP (day : Int) : List Pol := [pLast 1, pDays 1 day, pNear 1]
theorem three_ok {day : Int} (h : 1 ≤ day ∧ day ≤ 65536) (j : Nat) (hj : j < 3) : ((threeP day).getD j (pLast 1)).ok := by
  have a : In64 0 := in64_small (by decide)
  have b : In64 1 := in64_small (by decide)
  match j, hj with
  | 0, _ => exact ⟨b, a, a, a⟩
  | 1, _ => exact ⟨a, b, ⟨by show _ ≤ day; omega, by show day ≤ _; omega⟩, a⟩
  | 2, _ => exact ⟨a, a, a, b⟩
theorem three_keeps {xs : List Sn} (hn : 0 < xs.length) {day : Int} (h : 1 ≤ day ∧ day ≤ 65536) (j : Nat) (hj : j < 3) : keepB xs ((threeP day).getD j (pLast 1)) (lastV xs) = true := by
  match j, hj with
  | 0, _ => exact lastV_byLast hn _ (by show (1 : Int) ≤ 1; omega)
  | 1, _ => exact lastV_byDay hn _ (by show (1 : Int) ≤ 1; omega) h.1
  | 2, _ => exact lastV_byNear hn _ (by show (1 : Int) ≤ 1; omega)
def threeCells (day : Int) : List Value := (threeP day).flatMap Pol.cells
theorem three_at (day : Int) (j : Nat) (hj : j < 3) (i : Nat) (v : Value) (h : ((threeP day).getD j (pLast 1)).cells[i]? = some v) : (threeCells day)[j * 5 + i]? = some v := by
  have hi : i < 5 := by
    have := (List.getElem?_eq_some_iff.1 h).1
    exact this
  match j, hj, i, hi with
  | 0, _, 0, _ => exact h
  | 0, _, 1, _ => exact h
  | 0, _, 2, _ => exact h
  | 0, _, 3, _ => exact h
  | 0, _, 4, _ => exact h
  | 1, _, 0, _ => exact h
  | 1, _, 1, _ => exact h
  | 1, _, 2, _ => exact h
  | 1, _, 3, _ => exact h
  | 1, _, 4, _ => exact h
  | 2, _, 0, _ => exact h
  | 2, _, 1, _ => exact h
  | 2, _, 2, _ => exact h
  | 2, _, 3, _ => exact h
  | 2, _, 4, _ => exact h

end Go.Proofs.Ytfpcgancmgeagaa
