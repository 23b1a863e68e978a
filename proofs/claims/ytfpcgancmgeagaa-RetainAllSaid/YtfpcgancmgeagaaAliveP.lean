/- The law's example: what Keep and Days hand out at it. Plain Lean. -/
import Derived.Test.YtfpcgancmgeagaaKeepP
namespace Go.Proofs.Ytfpcgancmgeagaa

def sn0 (t : Int) (tag : ByteArray) : Sn := ⟨t, ⟨#[]⟩, tag, List.replicate 32 0, 0, 0⟩
def xs0 : List Sn := [sn0 5 ⟨#[]⟩, sn0 25 ⟨#[]⟩, sn0 12 ⟨#[120]⟩, sn0 21 ⟨#[]⟩]

theorem keepL_eq (xs : List Sn) (p : Pol) : keepL xs p = (rng xs.length).map (keepB xs p) := by
  apply List.ext_getElem
  · rw [keepL_length, List.length_map, rng_length]
  · intro i h1 h2
    rw [keepL_length] at h1
    have := keepL_getD (xs := xs) (p := p) (i := (i : Int)) (by omega) (by omega)
    rw [Int.toNat_natCast, List.getD_eq_getElem?_getD, List.getElem?_eq_getElem (by rw [keepL_length]; exact h1)] at this
    simp only [Option.getD_some] at this
    rw [this, List.getElem_map]
    congr 1
    simp [rng]

theorem ahead_time {xs : List Sn} {i m : Int} (h : (snAt xs i).time ≠ (snAt xs m).time) : ahead xs i m ↔ (snAt xs i).time < (snAt xs m).time := by
  constructor
  · intro ha
    have : (snAt xs i).time ≤ (snAt xs m).time := snap_time (by unfold ahead at ha; omega)
    omega
  · intro hl
    rcases Decidable.em (ahead xs i m) with h1 | h1
    · exact h1
    · have hne : i ≠ m := fun e => h (by rw [e])
      rcases ahead_total (xs := xs) hne with h2 | h2
      · exact h2
      · have : (snAt xs m).time ≤ (snAt xs i).time := snap_time (by unfold ahead at h2; omega)
        omega

theorem rng4 : rng 4 = [0, 1, 2, 3] := rfl
theorem xs0_len : xs0.length = 4 := rfl
theorem t0 : (snAt xs0 0).time = 5 := rfl
theorem t1 : (snAt xs0 1).time = 25 := rfl
theorem t2 : (snAt xs0 2).time = 12 := rfl
theorem t3 : (snAt xs0 3).time = 21 := rfl
theorem ah0 : ∀ i ∈ rng 4, ∀ m ∈ rng 4, (ahead xs0 i m ↔ (snAt xs0 i).time < (snAt xs0 m).time) := by
  intro i hi m hm
  by_cases e : i = m
  · subst e
    constructor
    · intro h; exact absurd h ahead_irrefl
    · intro h; omega
  · refine ahead_time ?_
    rw [rng4] at hi hm
    simp only [List.mem_cons, List.not_mem_nil, or_false] at hi hm
    rcases hi with rfl | rfl | rfl | rfl <;> rcases hm with rfl | rfl | rfl | rfl <;> first | exact absurd rfl e | (simp only [t0, t1, t2, t3]; decide)
theorem behind0 : behindN xs0 0 = 3 ∧ behindN xs0 1 = 0 ∧ behindN xs0 2 = 2 ∧ behindN xs0 3 = 1 := by
  have h : ∀ i ∈ rng 4, behindN xs0 i = (rng 4).countP fun m => decide ((snAt xs0 i).time < (snAt xs0 m).time) := by
    intro i hi
    unfold behindN
    rw [xs0_len]
    refine List.countP_congr fun m hm => ?_
    simp only [decide_eq_true_eq]
    exact ah0 i hi m hm
  refine ⟨?_, ?_, ?_, ?_⟩
  · rw [h 0 (by rw [rng4]; simp)]; decide
  · rw [h 1 (by rw [rng4]; simp)]; decide
  · rw [h 2 (by rw [rng4]; simp)]; decide
  · rw [h 3 (by rw [rng4]; simp)]; decide
theorem latest0 : latest xs0 10 0 = true ∧ latest xs0 10 1 = true ∧ latest xs0 10 2 = true ∧ latest xs0 10 3 = false := by
  have h : ∀ i ∈ rng 4, latest xs0 10 i = (rng 4).all fun m => !(decide ((snAt xs0 i).time < (snAt xs0 m).time) && decide (dayOf xs0 10 m = dayOf xs0 10 i)) := by
    intro i hi
    unfold latest
    rw [xs0_len, Bool.eq_iff_iff, List.all_eq_true, List.all_eq_true]
    constructor
    · intro h m hm; rw [← decide_eq_decide.2 (ah0 i hi m hm)]; exact h m hm
    · intro h m hm; rw [decide_eq_decide.2 (ah0 i hi m hm)]; exact h m hm
  refine ⟨?_, ?_, ?_, ?_⟩
  · rw [h 0 (by rw [rng4]; simp)]; decide
  · rw [h 1 (by rw [rng4]; simp)]; decide
  · rw [h 2 (by rw [rng4]; simp)]; decide
  · rw [h 3 (by rw [rng4]; simp)]; decide
theorem top0 : topT xs0 = 25 := by
  obtain ⟨i, h0, h1, h2, _⟩ := topT_mem (xs := xs0) (by decide)
  have h3 := topT_ge (xs := xs0) (i := 1) (by omega) (by rw [xs0_len]; omega)
  rw [t1] at h3
  rw [xs0_len] at h1
  have hi : i = 0 ∨ i = 1 ∨ i = 2 ∨ i = 3 := by omega
  rcases hi with rfl | rfl | rfl | rfl
  · rw [t0] at h2; omega
  · rw [t1] at h2; omega
  · rw [t2] at h2; omega
  · rw [t3] at h2; omega
theorem days0 : daysL xs0 10 = [2, 1, 0] := by
  unfold daysL
  rw [if_neg (by omega), show dayRow xs0 10 = [0, 2, 1, 2] from by decide, show ([0,2,1,2]:List Int).mergeSort (fun x y => decide (x ≤ y)) = [0,1,2,2] from by simp [List.mergeSort, List.MergeSort.Internal.splitInTwo, List.merge]]
  decide

def pA : Pol := ⟨1, 0, 0, 0, ⟨#[]⟩⟩
def pB : Pol := ⟨0, 2, 10, 0, ⟨#[]⟩⟩
def pC : Pol := ⟨0, 0, 0, 5, ⟨#[120]⟩⟩
theorem aboveW_zero (t l : Int) : aboveW t l 0 = false := by unfold aboveW; exact decide_eq_false (fun h => by omega)
theorem emptyB : (⟨#[]⟩ : ByteArray).toList = [] := by rw [Lib.toList_data]
theorem xB : (⟨#[120]⟩ : ByteArray).toList = [120] := by rw [Lib.toList_data]
theorem keepA : keepL xs0 pA = [false, true, false, false] := by
  obtain ⟨b0, b1, b2, b3⟩ := behind0
  rw [keepL_eq, xs0_len, rng4]
  simp only [List.map_cons, List.map_nil, keepB, pA, b0, b1, b2, b3, aboveW_zero, emptyB]
  decide
theorem keepBB : keepL xs0 pB = [false, true, true, false] := by
  obtain ⟨b0, b1, b2, b3⟩ := latest0
  rw [keepL_eq, xs0_len, rng4]
  simp only [List.map_cons, List.map_nil, keepB, pB, b0, b1, b2, b3, aboveW_zero, emptyB, days0]
  decide
theorem keepC : keepL xs0 pC = [false, true, true, true] := by
  rw [keepL_eq, xs0_len, rng4]
  simp only [List.map_cons, List.map_nil, keepB, pC, top0, xB, t0, t1, t2, t3, show (snAt xs0 0).tag = ⟨#[]⟩ from rfl, show (snAt xs0 1).tag = ⟨#[]⟩ from rfl, show (snAt xs0 2).tag = ⟨#[120]⟩ from rfl, show (snAt xs0 3).tag = ⟨#[]⟩ from rfl, emptyB]
  decide
theorem goneA : goneMost xs0 pA 9 = [0, 2, 3] := by
  unfold goneMost gonesL
  rw [keepA]
  decide

end Go.Proofs.Ytfpcgancmgeagaa
