/- In whichever order the list stands as many are kept; the kept ones as a part of the list. Plain Lean. -/
import Derived.Test.YtfpcgancmgeagaaMoreP
namespace Go.Proofs.Ytfpcgancmgeagaa

theorem lists_eq {l m : List Int} (hl : l.Pairwise (· > ·)) (hm : m.Pairwise (· > ·)) (h : ∀ d, d ∈ l ↔ d ∈ m) : l = m := by
  have hp : l.Perm m := by
    rw [List.perm_ext_iff_of_nodup]
    · exact h
    · unfold List.Nodup; exact hl.imp (fun h e => by omega)
    · unfold List.Nodup; exact hm.imp (fun h e => by omega)
  exact List.Perm.eq_of_pairwise (le := fun a b => a > b) (fun a b _ _ h1 h2 => by omega) hl hm hp

def sortedOf (xs : List Sn) : List Sn := (order xs).map (snAt xs)
theorem rng_snAt (xs : List Sn) : (rng xs.length).map (snAt xs) = xs := by
  apply List.ext_getElem
  · simp [rng_length]
  · intro i h1 h2
    simp only [rng, List.map_map, List.getElem_map, List.getElem_range, Function.comp]
    exact snAt_lt h2
theorem sortedOf_perm (xs : List Sn) : (sortedOf xs).Perm xs := by
  have := (order_sorts xs).1.map (snAt xs)
  rw [rng_snAt] at this
  exact this
theorem sortedOf_le (xs : List Sn) : (sortedOf xs).Pairwise (fun a b => snapCmp a b ≤ 0) := by
  unfold sortedOf
  rw [List.pairwise_map]
  exact (order_sorts xs).2.imp (fun h => by unfold ahead at h; omega)
theorem compareBytes_zero : ∀ (a b : List UInt8), Lib.compareBytes a b = 0 → a = b
  | [], [], _ => rfl
  | [], _ :: _, h => by unfold Lib.compareBytes at h; omega
  | _ :: _, [], h => by unfold Lib.compareBytes at h; omega
  | x :: a, y :: b, h => by
    unfold Lib.compareBytes at h
    split at h
    · omega
    · split at h
      · omega
      · rename_i h1 h2
        rw [UInt8.lt_iff_toNat_lt] at h1 h2
        rw [compareBytes_zero a b h, UInt8.toNat_inj.1 (show x.toNat = y.toNat by omega)]
theorem toList_inj {a b : ByteArray} (h : a.toList = b.toList) : a = b := by
  rw [Lib.toList_data, Lib.toList_data] at h
  exact ByteArray.ext (Array.toList_inj.1 h)
theorem cmpInt_zero {a b : Int} (h : cmpInt a b = 0) : a = b := by
  unfold cmpInt at h; split at h
  · omega
  · split at h <;> omega
theorem orInt_zero : ∀ {l : List Int}, orInt l = 0 → ∀ x ∈ l, x = 0
  | [], _, _, h => by cases h
  | y :: l, h, x, hx => by
    unfold orInt at h
    split at h
    · rename_i hy
      rcases List.mem_cons.1 hx with rfl | hx
      · exact hy
      · exact orInt_zero h x hx
    · rename_i hy; exact absurd h hy
theorem snapCmp_zero {a b : Sn} (h : snapCmp a b = 0) : a = b := by
  have hz := orInt_zero h
  obtain ⟨t, ho, tg, r, f, by'⟩ := a
  obtain ⟨t', ho', tg', r', f', by2⟩ := b
  have e1 := cmpInt_zero (hz _ (List.mem_cons_self ..))
  have e2 := hz (cmpStr ho ho') (by simp)
  have e3 := hz (cmpStr tg tg') (by simp)
  have e4 := compareBytes_zero _ _ (hz (Lib.compareBytes r r') (by simp))
  have e5 := cmpInt_zero (hz (cmpInt f f') (by simp))
  have e6 := cmpInt_zero (hz (cmpInt by' by2) (by simp))
  rw [cmpStr_eq] at e2 e3
  have e2 := toList_inj (compareBytes_zero _ _ e2)
  have e3 := toList_inj (compareBytes_zero _ _ e3)
  simp only at e1 e4 e5 e6
  subst e1 e2 e3 e4 e5 e6
  rfl
theorem sortedOf_eq {xs ys : List Sn} (h : xs.Perm ys) : sortedOf xs = sortedOf ys := by
  refine List.Perm.eq_of_pairwise (le := fun a b => snapCmp a b ≤ 0) (fun a b _ _ h1 h2 => ?_) (sortedOf_le xs) (sortedOf_le ys) ((sortedOf_perm xs).trans (h.trans (sortedOf_perm ys).symm))
  have := snap_3.anti a b
  exact snapCmp_zero (by omega)

theorem daysL_eq {xs ys : List Sn} (h : xs.Perm ys) (day : Int) : daysL xs day = daysL ys day := by
  by_cases hd : day < 1
  · rw [daysL_zero xs day hd, daysL_zero ys day hd]
  · refine lists_eq (daysL_strict xs day) (daysL_strict ys day) (fun d => ?_)
    have key : ∀ zs : List Sn, d ∈ daysL zs day ↔ ∃ s ∈ zs, s.time / day = d := fun zs => by
      rw [daysL_mem (by omega)]
      constructor
      · rintro ⟨i, h0, h1, h2⟩
        exact ⟨snAt zs i, by unfold snAt; rw [List.getD_eq_getElem?_getD, List.getElem?_eq_getElem (by omega)]; exact List.getElem_mem _, h2⟩
      · rintro ⟨s, hs, he⟩
        obtain ⟨k, hk, rfl⟩ := List.getElem_of_mem hs
        exact ⟨(k : Int), by omega, by omega, by unfold dayOf; rw [snAt_lt hk]; exact he⟩
    rw [key, key]
    exact ⟨fun ⟨s, hs, he⟩ => ⟨s, h.mem_iff.1 hs, he⟩, fun ⟨s, hs, he⟩ => ⟨s, h.mem_iff.2 hs, he⟩⟩

/-- Whether what stands at a place of the sorted list is kept. -/
def keepPos (S : List Sn) (D : List Int) (p : Pol) (k : Nat) : Bool :=
  decide (((S.length - 1 - k : Nat) : Int) < p.last) || aboveW (S.getD k default).time (S.getD (S.length - 1) default).time p.within || (!p.tag.toList.isEmpty && (S.getD k default).tag.toList == p.tag.toList)
    || (decide ((S.getD k default).time / p.day ∈ D.take (max p.days 0).toNat) && (List.range S.length).all fun j => !(decide (k < j) && decide ((S.getD j default).time / p.day = (S.getD k default).time / p.day)))
theorem sortedOf_at {xs : List Sn} {k : Nat} (hk : k < xs.length) : (sortedOf xs).getD k default = snAt xs ((order xs).getD k 0) := by
  have hl := order_length xs
  unfold sortedOf
  rw [List.getD_eq_getElem?_getD, List.getElem?_map, List.getElem?_eq_getElem (by omega), List.getD_eq_getElem?_getD, List.getElem?_eq_getElem (show k < (order xs).length by omega)]
  rfl
theorem keepB_pos {xs : List Sn} {p : Pol} {k : Nat} (hk : k < xs.length) : keepB xs p ((order xs).getD k 0) = keepPos (sortedOf xs) (daysL xs p.day) p k := by
  have hl := order_length xs
  have hs : (sortedOf xs).length = xs.length := (sortedOf_perm xs).length_eq
  unfold keepB keepPos
  rw [behindN_at hk, hs, sortedOf_at hk, sortedOf_at (show xs.length - 1 < xs.length by omega)]
  congr 2
  unfold latest
  rw [Bool.eq_iff_iff, List.all_eq_true, List.all_eq_true]
  constructor
  · intro h j hj
    have hj' := List.mem_range.1 hj
    have := h ((order xs).getD j 0) ((order_sorts xs).1.mem_iff.1 (getD_in (l := order xs) (k := j) (by omega)))
    rw [sortedOf_at hj']
    rw [← this]
    congr 2
    rw [decide_eq_decide]
    exact (order_ahead hk hj').symm
  · intro h m hm
    obtain ⟨j, hj, rfl⟩ := in_getD ((order_sorts xs).1.mem_iff.2 hm)
    have := h j (List.mem_range.2 (by omega))
    rw [sortedOf_at (show j < xs.length by omega)] at this
    rw [← this]
    congr 2
    rw [decide_eq_decide]
    exact order_ahead hk (by omega)
theorem count_keep {xs : List Sn} {p : Pol} : (rng xs.length).countP (keepB xs p) = (List.range xs.length).countP (keepPos (sortedOf xs) (daysL xs p.day) p) := by
  have hl := order_length xs
  rw [← ((order_sorts xs).1.countP_eq _)]
  have e : order xs = (List.range xs.length).map fun j => (order xs).getD j 0 := by
    apply List.ext_getElem
    · simp [hl]
    · intro j h1 h2
      simp [List.getD_eq_getElem?_getD, List.getElem?_eq_getElem h1]
  rw [e, List.countP_map]
  refine List.countP_congr fun k hk => ?_
  simp only [Function.comp]
  rw [keepB_pos (List.mem_range.1 hk)]
/-- **As many are kept of the list in whichever order.** -/
theorem count_perm {xs ys : List Sn} (h : xs.Perm ys) (p : Pol) : (rng xs.length).countP (keepB xs p) = (rng ys.length).countP (keepB ys p) := by
  rw [count_keep, count_keep, sortedOf_eq h, daysL_eq h, h.length_eq]

end Go.Proofs.Ytfpcgancmgeagaa
