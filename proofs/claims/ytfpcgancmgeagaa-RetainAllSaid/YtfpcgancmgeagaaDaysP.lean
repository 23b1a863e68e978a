/- The days of a list; how many are kept by days alone and by place alone. Plain Lean. -/
import Derived.Test.YtfpcgancmgeagaaAliveP
namespace Go.Proofs.Ytfpcgancmgeagaa

theorem compact_strict (l : List Int) (h : l.Pairwise (· ≥ ·)) : (Lib.compact l).Pairwise (· > ·) := by
  unfold Lib.compact Lib.compactUpTo
  rw [List.pairwise_map]
  have hp := List.pairwise_iff_getElem.1 h
  have hr : (List.range l.length).Pairwise (fun a b => a < b) := List.pairwise_lt_range
  have key : (List.range l.length).Pairwise (fun a b => Lib.keeps l.toArray a = true → Lib.keeps l.toArray b = true → l.toArray[a]! > l.toArray[b]!) := by
    refine (List.Pairwise.and hr (List.pairwise_of_forall_mem_list (r := fun a b => a ∈ List.range l.length ∧ b ∈ List.range l.length) (fun a ha b hb => ⟨ha, hb⟩))).imp ?_
    rintro a b ⟨hab, ha, hb⟩ _ kb
    have ha' := List.mem_range.1 ha
    have hb' := List.mem_range.1 hb
    simp only [Lib.keeps, decide_eq_true_eq] at kb
    have kb' := kb.resolve_left (by omega)
    rw [getElem!_pos l.toArray a (by simpa using ha'), getElem!_pos l.toArray b (by simpa using hb')]
    rw [getElem!_pos l.toArray b (by simpa using hb'), getElem!_pos l.toArray (b - 1) (by simp; omega)] at kb'
    simp only [List.getElem_toArray] at kb' ⊢
    have h1 := hp (b - 1) b (by omega) hb' (by omega)
    by_cases e : a = b - 1
    · subst e; omega
    · have h2 := hp a (b - 1) ha' (by omega) (by omega)
      omega
  exact (List.pairwise_filter.2 key)

theorem compact_mem (l : List Int) (d : Int) : d ∈ Lib.compact l ↔ d ∈ l := by
  unfold Lib.compact Lib.compactUpTo
  rw [List.mem_map]
  constructor
  · rintro ⟨j, hj, rfl⟩
    have := List.mem_range.1 (List.mem_filter.1 hj).1
    rw [getElem!_pos l.toArray j (by simpa using this)]
    simp
  · intro hd
    obtain ⟨i, hi, rfl⟩ := List.getElem_of_mem hd
    have key : ∀ i (hi : i < l.length), ∃ j, j ∈ (List.range l.length).filter (Lib.keeps l.toArray) ∧ l.toArray[j]! = l[i] := by
      intro i
      induction i with
      | zero => intro hi; exact ⟨0, List.mem_filter.2 ⟨List.mem_range.2 hi, by simp [Lib.keeps]⟩, by rw [getElem!_pos l.toArray 0 (by simpa using hi)]; simp⟩
      | succ i ih =>
        intro hi
        by_cases e : l[i + 1] = l[i]
        · obtain ⟨j, h1, h2⟩ := ih (by omega)
          exact ⟨j, h1, h2.trans e.symm⟩
        · refine ⟨i + 1, List.mem_filter.2 ⟨List.mem_range.2 hi, ?_⟩, by rw [getElem!_pos l.toArray (i + 1) (by simpa using hi)]; simp⟩
          simp only [Lib.keeps, decide_eq_true_eq]
          right
          rw [getElem!_pos l.toArray (i + 1) (by simpa using hi), getElem!_pos l.toArray (i + 1 - 1) (by simp; omega)]
          simpa using e
    exact key i hi

theorem daysL_strict (xs : List Sn) (day : Int) : (daysL xs day).Pairwise (· > ·) := by
  unfold daysL
  split
  · exact List.Pairwise.nil
  · refine compact_strict _ ?_
    rw [List.pairwise_reverse]
    have := List.pairwise_mergeSort (le := fun (x y : Int) => decide (x ≤ y)) (fun a b c h1 h2 => by simp at *; omega) (fun a b => by simp; omega) (dayRow xs day)
    exact this.imp (fun h => by simpa using h)
theorem daysL_nodup (xs : List Sn) (day : Int) : (daysL xs day).Nodup := by
  unfold List.Nodup
  exact (daysL_strict xs day).imp (fun h e => by omega)
theorem snAt_lt {xs : List Sn} {k : Nat} (h : k < xs.length) : snAt xs (k : Int) = xs[k] := by
  unfold snAt; rw [Int.toNat_natCast, List.getD_eq_getElem?_getD, List.getElem?_eq_getElem h]; rfl
theorem daysL_mem {xs : List Sn} {day d : Int} (h : 1 ≤ day) : d ∈ daysL xs day ↔ ∃ i : Int, 0 ≤ i ∧ i < xs.length ∧ dayOf xs day i = d := by
  unfold daysL
  rw [if_neg (by omega), compact_mem, List.mem_reverse, List.mem_mergeSort]
  unfold dayRow
  rw [List.mem_map]
  constructor
  · rintro ⟨s, hs, rfl⟩
    obtain ⟨k, hk, rfl⟩ := List.getElem_of_mem hs
    exact ⟨(k : Int), by omega, by omega, by unfold dayOf; rw [snAt_lt hk]⟩
  · rintro ⟨i, h0, hn, rfl⟩
    obtain ⟨k, rfl⟩ : ∃ k : Nat, i = k := ⟨i.toNat, by omega⟩
    have hk : k < xs.length := by omega
    exact ⟨xs[k], List.getElem_mem _, by unfold dayOf; rw [snAt_lt hk]⟩
theorem daysL_zero (xs : List Sn) (day : Int) (h : day < 1) : daysL xs day = [] := by unfold daysL; rw [if_pos h]

theorem latest_one {xs : List Sn} {day i m : Int} (hi : 0 ≤ i ∧ i < xs.length) (hm : 0 ≤ m ∧ m < xs.length) (h1 : latest xs day i = true) (h2 : latest xs day m = true) (he : dayOf xs day i = dayOf xs day m) : i = m := by
  by_cases e : i = m
  · exact e
  · rcases ahead_total (xs := xs) e with h | h
    · exact absurd he.symm (latest_iff.1 h1 m hm.1 hm.2 h)
    · exact absurd he (latest_iff.1 h2 i hi.1 hi.2 h)
theorem latest_some {xs : List Sn} {day i : Int} (hi : 0 ≤ i ∧ i < xs.length) : ∃ m : Int, 0 ≤ m ∧ m < xs.length ∧ dayOf xs day m = dayOf xs day i ∧ latest xs day m = true := by
  have hl := order_length xs
  cases h : lastOf xs (order xs) day (dayOf xs day i) with
  | some x =>
    obtain ⟨k, y⟩ := x
    have := lastOf_iff.1 ⟨k, h⟩
    exact ⟨y, this.1, this.2.1, this.2.2.1, this.2.2.2⟩
  | none =>
    exfalso
    unfold lastOf at h
    rw [List.find?_eq_none] at h
    obtain ⟨k, hk, hki⟩ := in_getD (mem_order.2 hi : i ∈ order xs)
    have hin : ∀ n k, k < n → (k, (order xs).getD k 0) ∈ backs (order xs) n := by
      intro n
      induction n with
      | zero => intro k hk; omega
      | succ n ih =>
        intro k hk
        unfold backs
        by_cases e : k = n
        · subst e; exact List.mem_cons_self ..
        · exact List.mem_cons_of_mem _ (ih k (by omega))
    have := h _ (hin xs.length k (by omega))
    rw [hki] at this
    exact this (decide_eq_true rfl)

/-- By days alone as many as there are of the first so many days. -/
theorem count_days (xs : List Sn) (day : Int) (n : Nat) (h : 1 ≤ day) : (rng xs.length).countP (fun i => decide (dayOf xs day i ∈ (daysL xs day).take n) && latest xs day i) = min n (daysL xs day).length := by
  rw [List.countP_eq_length_filter, ← List.length_take]
  have hp : (((rng xs.length).filter fun i => decide (dayOf xs day i ∈ (daysL xs day).take n) && latest xs day i).map (dayOf xs day)).Perm ((daysL xs day).take n) := by
    rw [List.perm_ext_iff_of_nodup]
    · intro d
      rw [List.mem_map]
      constructor
      · rintro ⟨i, hi, rfl⟩
        have := (List.mem_filter.1 hi).2
        rw [Bool.and_eq_true, decide_eq_true_eq] at this
        exact this.1
      · intro hd
        obtain ⟨i, h0, hn, he⟩ := (daysL_mem h).1 (List.mem_of_mem_take hd)
        obtain ⟨m, m0, mn, me, ml⟩ := latest_some (day := day) (xs := xs) ⟨h0, hn⟩
        refine ⟨m, List.mem_filter.2 ⟨(order_sorts xs).1.mem_iff.1 (mem_order.2 ⟨m0, mn⟩), ?_⟩, me.trans he⟩
        rw [Bool.and_eq_true, decide_eq_true_eq]
        exact ⟨by rw [me, he]; exact hd, ml⟩
    · unfold List.Nodup
      rw [List.pairwise_map]
      have hnd : (rng xs.length).Pairwise (fun a b => a < b) := rng_pairwise _
      have key : (rng xs.length).Pairwise (fun a b => (decide (dayOf xs day a ∈ (daysL xs day).take n) && latest xs day a) = true → (decide (dayOf xs day b ∈ (daysL xs day).take n) && latest xs day b) = true → dayOf xs day a ≠ dayOf xs day b) := by
        refine (List.Pairwise.and hnd (List.pairwise_of_forall_mem_list (r := fun a b => a ∈ rng xs.length ∧ b ∈ rng xs.length) (fun a ha b hb => ⟨ha, hb⟩))).imp ?_
        rintro a b ⟨hab, ha, hb⟩ ka kb e
        rw [Bool.and_eq_true] at ka kb
        have := latest_one (mem_rng ha) (mem_rng hb) ka.2 kb.2 e
        omega
      exact List.pairwise_filter.2 key
    · exact (daysL_nodup xs day).sublist (List.take_sublist _ _)
  rw [← hp.length_eq, List.length_map]

theorem countP_ge (n : Nat) (c : Int) (hc : 0 ≤ c) : (List.range n).countP (fun k => decide (((n - 1 - k : Nat) : Int) < c)) = min c.toNat n := by
  have key : ∀ m, m ≤ n → (List.range m).countP (fun k => decide (((n - 1 - k : Nat) : Int) < c)) = m - min m (n - min c.toNat n) := by
    intro m
    induction m with
    | zero => intro _; simp
    | succ m ih =>
      intro hm
      rw [List.range_succ, List.countP_append, List.countP_singleton, ih (by omega)]
      by_cases e : (((n - 1 - m : Nat) : Int) < c)
      · rw [if_pos (by simpa using e)]; omega
      · rw [if_neg (by simpa using e)]; omega
  rw [key n (Nat.le_refl _)]; omega
/-- By their places alone: as many as asked for. -/
theorem count_last (xs : List Sn) (c : Int) (hc : 0 ≤ c) : (rng xs.length).countP (fun i => decide ((behindN xs i : Int) < c)) = min c.toNat xs.length := by
  rw [← ((order_sorts xs).1.countP_eq _)]
  have hl := order_length xs
  have e : order xs = (List.range xs.length).map fun j => (order xs).getD j 0 := by
    apply List.ext_getElem
    · simp [hl]
    · intro j h1 h2
      simp [List.getD_eq_getElem?_getD, List.getElem?_eq_getElem h1]
  rw [e, List.countP_map, ← countP_ge _ c hc]
  refine List.countP_congr fun k hk => ?_
  have := List.mem_range.1 hk
  simp only [Function.comp, behindN_at this]

def pDays (n day : Int) : Pol := ⟨0, n, day, 0, ⟨#[]⟩⟩
def pLast (n : Int) : Pol := ⟨n, 0, 0, 0, ⟨#[]⟩⟩
theorem keepB_days (xs : List Sn) (n day i : Int) : keepB xs (pDays n day) i = (decide (dayOf xs day i ∈ (daysL xs day).take (max n 0).toNat) && latest xs day i) := by
  unfold keepB pDays
  simp only [aboveW_zero, emptyB, List.isEmpty_nil, Bool.not_true, Bool.false_and, Bool.or_false]
  rw [show decide ((behindN xs i : Int) < 0) = false from decide_eq_false (by omega), Bool.false_or]
theorem keepB_last (xs : List Sn) (n i : Int) : keepB xs (pLast n) i = decide ((behindN xs i : Int) < n) := by
  unfold keepB pLast
  simp only [aboveW_zero, emptyB, List.isEmpty_nil, Bool.not_true, Bool.false_and, Bool.or_false, daysL_zero xs 0 (by omega)]
  simp
theorem count_keep_days (xs : List Sn) (n day : Int) (hn : 0 ≤ n) (h : 1 ≤ day) : (keepL xs (pDays n day)).countP id = min n.toNat (daysL xs day).length := by
  rw [keepL_eq, List.countP_map, ← count_days xs day n.toNat h]
  refine List.countP_congr fun i _ => ?_
  simp only [Function.comp, id, keepB_days]
  rw [show (max n 0).toNat = n.toNat by omega]
theorem count_keep_last (xs : List Sn) (n : Int) (hn : 0 ≤ n) : (keepL xs (pLast n)).countP id = min n.toNat xs.length := by
  rw [keepL_eq, List.countP_map, ← count_last xs n hn]
  refine List.countP_congr fun i _ => ?_
  simp only [Function.comp, id, keepB_last]
theorem keep_none (xs : List Sn) (n : Int) : keepL xs (pDays n 0) = List.replicate xs.length false := by
  rw [keepL_eq]
  apply List.ext_getElem
  · simp [rng_length]
  · intro i h1 h2
    simp only [List.getElem_map, List.getElem_replicate, keepB_days, daysL_zero xs 0 (by omega)]
    simp

end Go.Proofs.Ytfpcgancmgeagaa
