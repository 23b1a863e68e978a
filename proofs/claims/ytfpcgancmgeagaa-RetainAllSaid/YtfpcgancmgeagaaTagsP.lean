/- What Keep hands out by a tag, by nearness, by both. Plain Lean. -/
import Derived.Test.YtfpcgancmgeagaaDaysP
import Derived.Test.YtfpcgancmgeagaaRDays
namespace Go.Proofs.Ytfpcgancmgeagaa

def mask50 (s : Sn) : Sn := { s with time := bits .and .i64 s.time 1125899906842623 }
def lastT (ys : List Sn) : Int := ys.foldl (fun m s => max m s.time) 0
theorem lastT_snoc (ys : List Sn) (s : Sn) : lastT (ys ++ [s]) = max (lastT ys) s.time := by unfold lastT; rw [List.foldl_append]; rfl
theorem foldMax : ∀ (ys : List Sn) (m : Int), m ≤ ys.foldl (fun m s => max m s.time) m ∧ (∀ s ∈ ys, s.time ≤ ys.foldl (fun m s => max m s.time) m) ∧ (ys.foldl (fun m s => max m s.time) m = m ∨ ∃ s ∈ ys, s.time = ys.foldl (fun m s => max m s.time) m)
  | [], m => ⟨Int.le_refl _, (fun s h => by cases h), .inl rfl⟩
  | y :: ys, m => by
    obtain ⟨h1, h2, h3⟩ := foldMax ys (max m y.time)
    rw [List.foldl_cons]
    refine ⟨by omega, fun s hs => ?_, ?_⟩
    · rcases List.mem_cons.1 hs with rfl | hs
      · omega
      · exact h2 s hs
    · rcases h3 with h3 | ⟨s, hs, he⟩
      · by_cases h : y.time ≤ m
        · left; rw [h3]; omega
        · right; exact ⟨y, List.mem_cons_self .., by rw [h3]; omega⟩
      · right; exact ⟨s, List.mem_cons_of_mem _ hs, he⟩
theorem mask_time (s : Sn) : 0 ≤ (mask50 s).time ∧ (mask50 s).time ≤ 1125899906842623 := bits_mask s.time 1125899906842623 (by decide)
theorem lastT_range (xs : List Sn) : 0 ≤ lastT (xs.map mask50) ∧ lastT (xs.map mask50) ≤ 1125899906842623 := by
  obtain ⟨h1, _, h3⟩ := foldMax (xs.map mask50) 0
  refine ⟨h1, ?_⟩
  unfold lastT
  rcases h3 with h3 | ⟨s, hs, he⟩
  · rw [h3]; omega
  · rw [← he]
    obtain ⟨t, _, rfl⟩ := List.mem_map.1 hs
    exact (mask_time t).2

theorem top_last (xs : List Sn) (h : 0 < xs.length) : topT (xs.map mask50) = lastT (xs.map mask50) := by
  obtain ⟨i, h0, hn, he, _⟩ := topT_mem (xs := xs.map mask50) (by simpa using h)
  obtain ⟨h1, h2, h3⟩ := foldMax (xs.map mask50) 0
  have hmem : ∀ j : Int, 0 ≤ j → j < (xs.map mask50).length → snAt (xs.map mask50) j ∈ xs.map mask50 := fun j j0 jn => by
    unfold snAt
    rw [List.getD_eq_getElem?_getD, List.getElem?_eq_getElem (by omega)]
    exact List.getElem_mem _
  have a := h2 _ (hmem i h0 hn)
  rw [he] at a
  have hp : 0 ≤ topT (xs.map mask50) := by
    rw [← he]
    obtain ⟨t, _, e⟩ := List.mem_map.1 (hmem i h0 hn)
    rw [← e]; exact (mask_time t).1
  unfold lastT
  rcases h3 with h3 | ⟨s, hs, hse⟩
  · rw [h3] at a ⊢; omega
  · obtain ⟨k, hk, rfl⟩ := List.getElem_of_mem hs
    have b := topT_ge (xs := xs.map mask50) (i := (k : Int)) (by omega) (by omega)
    rw [snAt_lt hk, hse] at b
    omega

def pTag (tag : ByteArray) : Pol := ⟨0, 0, 0, 0, tag⟩
def pNear (within : Int) : Pol := ⟨0, 0, 0, within, ⟨#[]⟩⟩
def pBoth (tag : ByteArray) (within : Int) : Pol := ⟨0, 0, 0, within, tag⟩
def nearB (last t within : Int) : Bool := decide (0 < within) && decide (last - t < within)
theorem keepB_zero (xs : List Sn) (tag : ByteArray) (within i : Int) : keepB xs (pBoth tag within) i = (aboveW (snAt xs i).time (topT xs) within || (!tag.toList.isEmpty && (snAt xs i).tag.toList == tag.toList)) := by
  unfold keepB pBoth
  simp only [daysL_zero xs 0 (by omega)]
  rw [show decide ((behindN xs i : Int) < 0) = false from decide_eq_false (by omega)]
  simp
theorem getD_true {ks : List Bool} {k : Nat} (h : k < ks.length) : ks.getD k true = ks.getD k false := by
  rw [List.getD_eq_getElem?_getD, List.getD_eq_getElem?_getD, List.getElem?_eq_getElem h]; rfl
theorem tags_at (xs : List Sn) (tag : ByteArray) (within : Int) (ht : tag.toList.isEmpty = false) (hw : 0 ≤ within ∧ within ≤ 1125899906842623) (k : Nat) (hk : k < xs.length) :
    (keepL (xs.map mask50) (pTag tag)).getD k true = ((xs.getD k default).tag.toList == tag.toList) ∧
    (keepL (xs.map mask50) (pNear within)).getD k true = nearB (lastT (xs.map mask50)) (mask50 (xs.getD k default)).time within ∧
    (keepL (xs.map mask50) (pBoth tag within)).getD k true = (((xs.getD k default).tag.toList == tag.toList) || nearB (lastT (xs.map mask50)) (mask50 (xs.getD k default)).time within) := by
  have hlen : (xs.map mask50).length = xs.length := by simp
  have hs : snAt (xs.map mask50) (k : Int) = mask50 (xs.getD k default) := by
    rw [snAt_lt (by simpa using hk), List.getElem_map, List.getD_eq_getElem?_getD, List.getElem?_eq_getElem hk]; rfl
  have g : ∀ p, (keepL (xs.map mask50) p).getD k true = keepB (xs.map mask50) p k := fun p => by
    rw [getD_true (by rw [keepL_length]; simpa using hk)]
    have := keepL_getD (xs := xs.map mask50) (p := p) (i := (k : Int)) (by omega) (by rw [hlen]; omega)
    rwa [Int.toNat_natCast] at this
  have hab : aboveW (mask50 (xs.getD k default)).time (topT (xs.map mask50)) within = nearB (lastT (xs.map mask50)) (mask50 (xs.getD k default)).time within := by
    rw [top_last xs (by omega)]
    have a := lastT_range xs
    have b := mask_time (xs.getD k default)
    have c : (mask50 (xs.getD k default)).time ≤ lastT (xs.map mask50) := by
      refine (foldMax (xs.map mask50) 0).2.1 _ ?_
      rw [← hs]
      rw [snAt_lt (by simpa using hk)]
      exact List.getElem_mem _
    unfold aboveW nearB
    rw [Int.emod_eq_of_lt (by omega) (by omega)]
    rw [Bool.eq_iff_iff]
    simp
  refine ⟨?_, ?_, ?_⟩
  · rw [g, show pTag tag = pBoth tag 0 from rfl, keepB_zero, hs, aboveW_zero, ht]
    simp [mask50]
  · rw [g, show pNear within = pBoth ⟨#[]⟩ within from rfl, keepB_zero, hs, hab, emptyB]
    simp
  · rw [g, keepB_zero, hs, hab, ht]
    simp [mask50, Bool.or_comm]

end Go.Proofs.Ytfpcgancmgeagaa
