/- What Keep hands out, place by place. Plain Lean: no program is walked. -/
import Derived.Test.YtfpcgancmgeagaaGone
namespace Go.Proofs.Ytfpcgancmgeagaa

instance (xs : List Sn) (x y : Int) : Decidable (ahead xs x y) := by unfold ahead; infer_instance

abbrev dayOf (xs : List Sn) (day : Int) (i : Int) : Int := (snAt xs i).time / day

theorem find_backs (ys : List Int) (q : Nat × Int → Bool) : ∀ (n k : Nat) (y : Int), (backs ys n).find? q = some (k, y) ↔ k < n ∧ y = ys.getD k 0 ∧ q (k, y) = true ∧ ∀ j, k < j → j < n → q (j, ys.getD j 0) = false
  | 0, k, y => by simp [backs]
  | n + 1, k, y => by
    have ih := find_backs ys q n k y
    unfold backs
    rw [List.find?_cons]
    cases hq : q (n, ys.getD n 0)
    · simp only
      rw [ih]
      constructor
      · rintro ⟨h1, h2, h3, h4⟩
        exact ⟨by omega, h2, h3, fun j hj hn => by
          by_cases e : j = n
          · subst e; exact hq
          · exact h4 j hj (by omega)⟩
      · rintro ⟨h1, h2, h3, h4⟩
        have : k ≠ n := fun e => by subst e; subst h2; rw [h3] at hq; cases hq
        exact ⟨by omega, h2, h3, fun j hj hn => h4 j hj (by omega)⟩
    · simp only
      constructor
      · intro h
        obtain ⟨rfl, rfl⟩ : n = k ∧ ys.getD n 0 = y := by simpa using h
        exact ⟨by omega, rfl, hq, fun j h1 h2 => by omega⟩
      · rintro ⟨h1, h2, h3, h4⟩
        by_cases e : k = n
        · subst e; rw [h2]
        · have := h4 n (by omega) (by omega)
          rw [hq] at this; cases this

theorem getD_in {l : List Int} {k : Nat} (h : k < l.length) : l.getD k 0 ∈ l := by
  rw [List.getD_eq_getElem?_getD, List.getElem?_eq_getElem h]; exact List.getElem_mem _
theorem in_getD {l : List Int} {y : Int} (h : y ∈ l) : ∃ k, k < l.length ∧ l.getD k 0 = y := by
  obtain ⟨k, hk, rfl⟩ := List.getElem_of_mem h
  exact ⟨k, hk, by rw [List.getD_eq_getElem?_getD, List.getElem?_eq_getElem hk]; rfl⟩

theorem order_ahead {xs : List Sn} {j k : Nat} (hj : j < xs.length) (hk : k < xs.length) : ahead xs ((order xs).getD j 0) ((order xs).getD k 0) ↔ j < k := by
  have hp := List.pairwise_iff_getElem.1 (order_sorts xs).2
  have hl := order_length xs
  have key : ∀ j k, j < k → k < xs.length → ahead xs ((order xs).getD j 0) ((order xs).getD k 0) := fun j k h1 h2 => by
    have := hp j k (by omega) (by omega) h1
    rw [List.getD_eq_getElem?_getD, List.getD_eq_getElem?_getD, List.getElem?_eq_getElem (by omega), List.getElem?_eq_getElem (by omega)]
    exact this
  constructor
  · intro h
    rcases Nat.lt_trichotomy j k with h1 | h1 | h1
    · exact h1
    · subst h1; exact absurd h ahead_irrefl
    · exact absurd (ahead_trans h (key k j h1 hj)) ahead_irrefl
  · exact fun h => key j k h hk

/-- Of all that fall on its day it is the last. -/
def latest (xs : List Sn) (day : Int) (i : Int) : Bool := (rng xs.length).all fun m => !(decide (ahead xs i m) && decide (dayOf xs day m = dayOf xs day i))
theorem latest_iff {xs : List Sn} {day i : Int} : latest xs day i = true ↔ ∀ m : Int, 0 ≤ m → m < xs.length → ahead xs i m → dayOf xs day m ≠ dayOf xs day i := by
  unfold latest
  rw [List.all_eq_true]
  constructor
  · intro h m h0 h1 h2 h3
    have := h m (mem_order.2 ⟨h0, h1⟩ |> (order_sorts xs).1.mem_iff.1)
    simp [h2, h3] at this
  · intro h m hm
    obtain ⟨h0, h1⟩ := mem_rng hm
    by_cases h2 : ahead xs i m
    · simp [h2, h m h0 h1 h2]
    · simp [h2]

theorem lastOf_iff {xs : List Sn} {day d i : Int} : (∃ k, lastOf xs (order xs) day d = some (k, i)) ↔ 0 ≤ i ∧ i < xs.length ∧ dayOf xs day i = d ∧ latest xs day i = true := by
  unfold lastOf
  have hl := order_length xs
  constructor
  · rintro ⟨k, hk⟩
    obtain ⟨h1, h2, h3, h4⟩ := (find_backs _ _ _ _ _).1 hk
    have hm := mem_order.1 (getD_in (l := order xs) (k := k) (by omega))
    rw [← h2] at hm
    have h3' : dayOf xs day i = d := of_decide_eq_true h3
    refine ⟨hm.1, hm.2, h3', latest_iff.2 fun m h0 hn ha hd => ?_⟩
    obtain ⟨j, hj, rfl⟩ := in_getD (mem_order.2 ⟨h0, hn⟩ : m ∈ order xs)
    rw [h2] at ha
    have := h4 j ((order_ahead (by omega) (by omega)).1 ha) (by omega)
    simp only [onDay, decide_eq_false_iff_not] at this
    exact this (hd.trans h3')
  · rintro ⟨h0, hn, hd, hlast⟩
    obtain ⟨k, hk, hki⟩ := in_getD (mem_order.2 ⟨h0, hn⟩ : i ∈ order xs)
    refine ⟨k, (find_backs _ _ _ _ _).2 ⟨by omega, hki.symm, decide_eq_true hd, fun j h1 h2 => ?_⟩⟩
    have hm := mem_order.1 (getD_in (l := order xs) (k := j) (by omega))
    have := latest_iff.1 hlast _ hm.1 hm.2 (by rw [← hki]; exact (order_ahead (by omega) (by omega)).2 h1)
    simp only [onDay, decide_eq_false_iff_not]
    exact fun e => this (e.trans hd.symm)

theorem mark_getD {xs : List Sn} {day d : Int} {ks : List Bool} {i : Int} (hk : ks.length = xs.length) (h0 : 0 ≤ i) (hn : i < xs.length) :
    (mark xs (order xs) day ks d).getD i.toNat false = (ks.getD i.toNat false || (decide (dayOf xs day i = d) && latest xs day i)) := by
  have hL := lastOf_iff (xs := xs) (day := day) (d := d) (i := i)
  unfold mark
  cases h : lastOf xs (order xs) day d with
  | none =>
    rw [h] at hL
    have : (decide (dayOf xs day i = d) && latest xs day i) = false := by
      rw [Bool.eq_false_iff]
      intro e
      rw [Bool.and_eq_true, decide_eq_true_eq] at e
      obtain ⟨k, hk⟩ := hL.2 ⟨h0, hn, e.1, e.2⟩
      cases hk
    simp [this]
  | some x =>
    obtain ⟨k, y⟩ := x
    rw [h] at hL
    have hY := (lastOf_iff (xs := xs) (day := day) (d := d) (i := y)).1 ⟨k, h⟩
    simp only
    by_cases e : y = i
    · subst e
      have := hL.1 ⟨k, rfl⟩
      rw [List.getD_eq_getElem?_getD, List.getElem?_set_self (by omega)]
      simp [this.2.2.1, this.2.2.2]
    · have h1 : (decide (dayOf xs day i = d) && latest xs day i) = false := by
        rw [Bool.eq_false_iff]
        intro e'
        rw [Bool.and_eq_true, decide_eq_true_eq] at e'
        obtain ⟨k', hk'⟩ := hL.2 ⟨h0, hn, e'.1, e'.2⟩
        simp at hk'
        exact e hk'.2
      rw [h1, Bool.or_false, List.getD_eq_getElem?_getD, List.getElem?_set_ne (by omega), ← List.getD_eq_getElem?_getD]

theorem markAll_getD {xs : List Sn} {day : Int} {i : Int} (h0 : 0 ≤ i) (hn : i < xs.length) : ∀ (ds : List Int) (ks : List Bool), ks.length = xs.length →
    (markAll xs (order xs) day ks ds).getD i.toNat false = (ks.getD i.toNat false || (decide (dayOf xs day i ∈ ds) && latest xs day i))
  | [], ks, _ => by simp [markAll]
  | d :: ds, ks, hk => by
    have ih := markAll_getD (day := day) h0 hn ds (mark xs (order xs) day ks d) ((mark_length _ _ _ _ _).trans hk)
    unfold markAll at ih ⊢
    rw [List.foldl_cons, ih, mark_getD hk h0 hn]
    by_cases h1 : dayOf xs day i = d
    · simp only [h1, decide_true, Bool.true_and, List.mem_cons, true_or]
      cases latest xs day i <;> simp
    · simp [h1]

/-- How many stand behind. -/
def behindN (xs : List Sn) (i : Int) : Nat := (rng xs.length).countP fun m => decide (ahead xs i m)
theorem countP_gt (n k : Nat) (p : Nat → Bool) (h : ∀ j, j < n → (p j = true ↔ k < j)) (hk : k < n) : (List.range n).countP p = n - 1 - k := by
  induction n with
  | zero => omega
  | succ n ih =>
    rw [List.range_succ, List.countP_append, List.countP_singleton]
    by_cases e : k = n
    · subst e
      have : (List.range k).countP p = 0 := by
        rw [List.countP_eq_zero]
        intro j hj hp
        have := (h j (by have := List.mem_range.1 hj; omega)).1 hp
        have := List.mem_range.1 hj
        omega
      rw [this, if_neg (fun hp => by have := (h k (by omega)).1 hp; omega)]
      omega
    · rw [ih (fun j hj => h j (by omega)) (by omega), if_pos ((h n (by omega)).2 (by omega))]
      omega
theorem behindN_at {xs : List Sn} {k : Nat} (hk : k < xs.length) : behindN xs ((order xs).getD k 0) = xs.length - 1 - k := by
  unfold behindN
  rw [← ((order_sorts xs).1.countP_eq _)]
  have hl := order_length xs
  have e : order xs = (List.range xs.length).map fun j => (order xs).getD j 0 := by
    apply List.ext_getElem
    · simp [hl]
    · intro j h1 h2
      simp [List.getD_eq_getElem?_getD, List.getElem?_eq_getElem h1]
  rw [e, List.countP_map, ← e]
  exact countP_gt _ k _ (fun j hj => by simp only [Function.comp, decide_eq_true_eq]; exact order_ahead hk hj) hk

/-- The last one's time. -/
def topT (xs : List Sn) : Int := (snAt xs ((order xs).getD (xs.length - 1) 0)).time
theorem topT_ge {xs : List Sn} {i : Int} (h0 : 0 ≤ i) (hn : i < xs.length) : (snAt xs i).time ≤ topT xs := by
  obtain ⟨k, hk, rfl⟩ := in_getD (mem_order.2 ⟨h0, hn⟩ : i ∈ order xs)
  have hl := order_length xs
  unfold topT
  by_cases e : k = xs.length - 1
  · subst e; exact Int.le_refl _
  · have := (order_ahead (xs := xs) (j := k) (k := xs.length - 1) (by omega) (by omega)).2 (by omega)
    unfold ahead at this
    exact snap_time (by omega)
theorem topT_mem {xs : List Sn} (h : 0 < xs.length) : ∃ i : Int, 0 ≤ i ∧ i < xs.length ∧ (snAt xs i).time = topT xs ∧ ∀ m : Int, 0 ≤ m → m < xs.length → ¬ ahead xs i m := by
  have hl := order_length xs
  have hm := mem_order.1 (getD_in (l := order xs) (k := xs.length - 1) (by omega))
  refine ⟨_, hm.1, hm.2, rfl, fun m h0 hn ha => ?_⟩
  obtain ⟨k, hk, rfl⟩ := in_getD (mem_order.2 ⟨h0, hn⟩ : m ∈ order xs)
  have := (order_ahead (by omega) (by omega)).1 ha
  omega

theorem firsts_getD (xs : List Sn) (p : Pol) : ∀ (n : Nat), n ≤ xs.length → ∀ k, k < n → ∀ (ks : List Bool), ks.length = xs.length →
    ((backs (order xs) n).foldl (fun ks x => ks.set x.2.toNat (keepAt xs p (order xs) x)) ks).getD ((order xs).getD k 0).toNat false = keepAt xs p (order xs) (k, (order xs).getD k 0) := by
  have hl := order_length xs
  have inj : ∀ j k, j < xs.length → k < xs.length → ((order xs).getD j 0).toNat = ((order xs).getD k 0).toNat → j = k := fun j k hj hk e => by
    have h1 := mem_order.1 (getD_in (l := order xs) (k := j) (by omega))
    have h2 := mem_order.1 (getD_in (l := order xs) (k := k) (by omega))
    have e' : (order xs).getD j 0 = (order xs).getD k 0 := by omega
    rcases Nat.lt_trichotomy j k with h | h | h
    · have := (order_ahead hj hk).2 h; rw [e'] at this; exact absurd this ahead_irrefl
    · exact h
    · have := (order_ahead hk hj).2 h; rw [e'] at this; exact absurd this ahead_irrefl
  have keepSet : ∀ (l : List (Nat × Int)) (ks : List Bool) (i : Nat), (∀ x ∈ l, x.2.toNat ≠ i) → (l.foldl (fun ks x => ks.set x.2.toNat (keepAt xs p (order xs) x)) ks).getD i false = ks.getD i false := by
    intro l
    induction l with
    | nil => intro ks i _; rfl
    | cons x l ih =>
      intro ks i h
      rw [List.foldl_cons, ih _ _ (fun y hy => h y (List.mem_cons_of_mem _ hy)), List.getD_eq_getElem?_getD, List.getElem?_set_ne (h x (List.mem_cons_self ..)), ← List.getD_eq_getElem?_getD]
  intro n
  induction n with
  | zero => intro _ k hk; omega
  | succ n ih =>
    intro hn k hk ks hks
    unfold backs
    rw [List.foldl_cons]
    by_cases e : k = n
    · subst e
      rw [keepSet _ _ _ (fun x hx e => ?_)]
      · have h1 := mem_order.1 (getD_in (l := order xs) (k := k) (by omega))
        rw [List.getD_eq_getElem?_getD, List.getElem?_set_self (by show ((order xs).getD k 0).toNat < _; omega)]
        rfl
      · have hx' := backs_mem hx
        rw [hx'.2] at e
        have := inj _ _ (by omega) (by omega) e
        omega
    · exact ih (by omega) k (by omega) _ (by simp [hks])

/-- **Which are kept.** -/
def keepB (xs : List Sn) (p : Pol) (i : Int) : Bool :=
  decide ((behindN xs i : Int) < p.last) || aboveW (snAt xs i).time (topT xs) p.within || (!p.tag.toList.isEmpty && (snAt xs i).tag.toList == p.tag.toList)
    || (decide (dayOf xs p.day i ∈ (daysL xs p.day).take (max p.days 0).toNat) && latest xs p.day i)

theorem keepL_getD {xs : List Sn} {p : Pol} {i : Int} (h0 : 0 ≤ i) (hn : i < xs.length) : (keepL xs p).getD i.toNat false = keepB xs p i := by
  unfold keepL
  rw [markAll_getD h0 hn _ _ (firsts_length _ _ _ _)]
  obtain ⟨k, hk, rfl⟩ := in_getD (mem_order.2 ⟨h0, hn⟩ : i ∈ order xs)
  have hl := order_length xs
  unfold firsts
  rw [firsts_getD xs p xs.length (Nat.le_refl _) k (by omega) _ (by simp)]
  unfold keepB keepAt
  rw [behindN_at (by omega)]
  congr 1
  rw [Bool.or_assoc]
  congr 1
  rw [decide_eq_decide]
  show (xs.length : Int) - (k : Int) ≤ _ ↔ _
  omega

end Go.Proofs.Ytfpcgancmgeagaa
