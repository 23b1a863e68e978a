/- Of which are kept: with more kept of each kind nothing goes that was kept; the kept ones alone are all kept; in whichever order the list stands as many are kept. Plain Lean. -/
import Derived.Test.YtfpcgancmgeagaaDaysP
namespace Go.Proofs.Ytfpcgancmgeagaa

/-! with more -/
theorem take_mono {D : List Int} {n m : Nat} (h : n ≤ m) {d : Int} (hd : d ∈ D.take n) : d ∈ D.take m := by
  rw [show D.take n = (D.take m).take n by rw [List.take_take, Nat.min_eq_left h]] at hd
  exact List.mem_of_mem_take hd
theorem keepB_mono (xs : List Sn) (p q : Pol) (i : Int) (h1 : p.last ≤ q.last) (h2 : p.days ≤ q.days) (h3 : p.day = q.day) (h4 : p.within = q.within) (h5 : p.tag = q.tag) (h : keepB xs p i = true) : keepB xs q i = true := by
  unfold keepB at *
  rw [← h3, ← h4, ← h5]
  simp only [Bool.or_eq_true, Bool.and_eq_true, decide_eq_true_eq] at h ⊢
  rcases h with ((h | h) | h) | h
  · exact .inl (.inl (.inl (by omega)))
  · exact .inl (.inl (.inr h))
  · exact .inl (.inr h)
  · exact .inr ⟨take_mono (by omega) h.1, h.2⟩

/-! days by their number -/
theorem mem_take_iff : ∀ {D : List Int} {d : Int} {n : Nat}, D.Pairwise (· > ·) → d ∈ D → (d ∈ D.take n ↔ D.countP (fun e => decide (e > d)) < n)
  | [], _, _, _, h => by cases h
  | a :: D, d, n, hp, h => by
    have hp' := List.pairwise_cons.1 hp
    by_cases e : a = d
    · subst e
      have h0 : (a :: D).countP (fun e => decide (e > a)) = 0 := by
        rw [List.countP_eq_zero]
        intro x hx
        rcases List.mem_cons.1 hx with rfl | hx
        · simp
        · have := hp'.1 x hx; simp; omega
      rw [h0]
      cases n with
      | zero => simp
      | succ n => simp
    · have hd : d ∈ D := (List.mem_cons.1 h).resolve_left (fun x => e x.symm)
      have hgt := hp'.1 d hd
      cases n with
      | zero => simp
      | succ n =>
        have ih := mem_take_iff (n := n) hp'.2 hd
        rw [List.take_succ_cons, List.mem_cons, List.countP_cons, if_pos (by simpa using hgt)]
        constructor
        · rintro (h | h)
          · exact absurd h.symm e
          · have := ih.1 h; omega
        · intro h
          exact .inr (ih.2 (by omega))

/-! the kept ones alone -/
/-- A part of the list, in its order: f says where each stood. -/
structure Part (xs ys : List Sn) (f : Int → Int) : Prop where
  range : ∀ j : Int, 0 ≤ j → j < ys.length → 0 ≤ f j ∧ f j < xs.length
  mono : ∀ i j : Int, 0 ≤ i → i < j → j < ys.length → f i < f j
  same : ∀ j : Int, 0 ≤ j → j < ys.length → snAt ys j = snAt xs (f j)

theorem Part.inj {xs ys : List Sn} {f : Int → Int} (h : Part xs ys f) {i j : Int} (hi : 0 ≤ i ∧ i < ys.length) (hj : 0 ≤ j ∧ j < ys.length) : (f i < f j ↔ i < j) := by
  constructor
  · intro hf
    rcases Int.lt_trichotomy i j with h1 | h1 | h1
    · exact h1
    · subst h1; omega
    · have := h.mono j i hj.1 h1 hi.2; omega
  · intro h1; exact h.mono i j hi.1 h1 hj.2
theorem Part.ahead {xs ys : List Sn} {f : Int → Int} (h : Part xs ys f) {i j : Int} (hi : 0 ≤ i ∧ i < ys.length) (hj : 0 ≤ j ∧ j < ys.length) : Go.Proofs.Ytfpcgancmgeagaa.ahead ys i j ↔ Go.Proofs.Ytfpcgancmgeagaa.ahead xs (f i) (f j) := by
  unfold Go.Proofs.Ytfpcgancmgeagaa.ahead
  rw [h.same i hi.1 hi.2, h.same j hj.1 hj.2, h.inj hi hj]

theorem nodup_le : ∀ (l m : List Int), l.Nodup → (∀ x ∈ l, x ∈ m) → l.length ≤ m.length
  | [], _, _, _ => Nat.zero_le _
  | a :: l, m, hn, h => by
    have ha := h a (List.mem_cons_self ..)
    have hn' := List.nodup_cons.1 hn
    have := nodup_le l (m.erase a) hn'.2 (fun x hx => by
      have hx' := h x (List.mem_cons_of_mem _ hx)
      exact (List.mem_erase_of_ne (fun (e : x = a) => hn'.1 (by rw [← e]; exact hx))).2 hx')
    rw [List.length_erase_of_mem ha] at this
    have := List.length_pos_of_mem ha
    rw [List.length_cons]
    omega
theorem Part.behind {xs ys : List Sn} {f : Int → Int} (h : Part xs ys f) {j : Int} (hj : 0 ≤ j ∧ j < ys.length) : behindN ys j ≤ behindN xs (f j) := by
  unfold behindN
  rw [List.countP_eq_length_filter, List.countP_eq_length_filter]
  have hs : (((rng ys.length).filter fun m => decide (Go.Proofs.Ytfpcgancmgeagaa.ahead ys j m)).map f).length ≤ ((rng xs.length).filter fun m => decide (Go.Proofs.Ytfpcgancmgeagaa.ahead xs (f j) m)).length := by
    refine nodup_le _ _ ?_ ?_
    · unfold List.Nodup
      rw [List.pairwise_map]
      have hp := (List.pairwise_filter (p := fun m => decide (Go.Proofs.Ytfpcgancmgeagaa.ahead ys j m)) (l := rng ys.length) (R := fun a b => f a ≠ f b)).2
      refine hp ?_
      refine (List.Pairwise.and (rng_pairwise ys.length) (List.pairwise_of_forall_mem_list (r := fun a b => a ∈ rng ys.length ∧ b ∈ rng ys.length) (fun a ha b hb => ⟨ha, hb⟩))).imp ?_
      rintro a b ⟨hab, ha, hb⟩ _ _ e
      have := h.mono a b (mem_rng ha).1 hab (mem_rng hb).2
      omega
    · intro x hx
      obtain ⟨m, hm, rfl⟩ := List.mem_map.1 hx
      obtain ⟨h1, h2⟩ := List.mem_filter.1 hm
      have hr := mem_rng h1
      have hf := h.range m hr.1 hr.2
      refine List.mem_filter.2 ⟨(order_sorts xs).1.mem_iff.1 (mem_order.2 hf), ?_⟩
      rw [decide_eq_true_eq] at h2 ⊢
      exact (h.ahead hj hr).1 h2
  rwa [List.length_map] at hs

theorem Part.top {xs ys : List Sn} {f : Int → Int} (h : Part xs ys f) (hn : 0 < ys.length) : topT ys ≤ topT xs := by
  obtain ⟨i, h0, h1, h2, _⟩ := topT_mem hn
  rw [← h2, h.same i h0 h1]
  exact topT_ge (h.range i h0 h1).1 (h.range i h0 h1).2

theorem Part.days {xs ys : List Sn} {f : Int → Int} (h : Part xs ys f) {day d : Int} (hd : 1 ≤ day) (he : d ∈ daysL ys day) : d ∈ daysL xs day := by
  obtain ⟨i, h0, h1, h2⟩ := (daysL_mem hd).1 he
  refine (daysL_mem hd).2 ⟨f i, (h.range i h0 h1).1, (h.range i h0 h1).2, ?_⟩
  rw [← h2]
  unfold dayOf
  rw [h.same i h0 h1]

theorem countP_sub {D E : List Int} {p : Int → Bool} (hD : D.Nodup) (h : ∀ d ∈ D, d ∈ E) : D.countP p ≤ E.countP p := by
  rw [List.countP_eq_length_filter, List.countP_eq_length_filter]
  exact nodup_le _ _ (hD.sublist List.filter_sublist) (fun x hx => List.mem_filter.2 ⟨h x (List.mem_filter.1 hx).1, (List.mem_filter.1 hx).2⟩)

/-- **What was kept is kept, when the others are gone.** -/
theorem Part.keep {xs ys : List Sn} {f : Int → Int} (h : Part xs ys f) (hok : ∀ s ∈ xs, s.ok) (p : Pol) {j : Int} (hj : 0 ≤ j ∧ j < ys.length) (hk : keepB xs p (f j) = true) : keepB ys p j = true := by
  have hf := h.range j hj.1 hj.2
  have ok : ∀ i : Int, 0 ≤ i → i < xs.length → In64 (snAt xs i).time := fun i h0 h1 => by
    refine (hok _ ?_).2.1
    unfold snAt
    rw [List.getD_eq_getElem?_getD, List.getElem?_eq_getElem (by omega)]
    exact List.getElem_mem _
  unfold keepB at *
  rw [h.same j hj.1 hj.2]
  simp only [Bool.or_eq_true, Bool.and_eq_true, decide_eq_true_eq] at hk ⊢
  rcases hk with ((hk | hk) | hk) | hk
  · have := h.behind hj
    exact .inl (.inl (.inl (by omega)))
  · refine .inl (.inl (.inr ?_))
    unfold aboveW at *
    rw [decide_eq_true_eq] at hk ⊢
    have a := h.top (by omega)
    have b := topT_ge hj.1 hj.2
    rw [h.same j hj.1 hj.2] at b
    obtain ⟨i, i0, i1, i2, _⟩ := topT_mem (xs := xs) (by omega)
    have c := ok i i0 i1
    rw [i2] at c
    have d := ok (f j) hf.1 hf.2
    obtain ⟨c1, c2⟩ := c
    obtain ⟨d1, d2⟩ := d
    rw [Int.emod_eq_of_lt (by omega) (by omega)] at hk
    rw [Int.emod_eq_of_lt (by omega) (by omega)]
    omega
  · exact .inl (.inr hk)
  · obtain ⟨h1, h2⟩ := hk
    have hd : 1 ≤ p.day := by
      by_cases hh : p.day < 1
      · rw [daysL_zero xs p.day hh] at h1; simp at h1
      · omega
    have e : dayOf ys p.day j = dayOf xs p.day (f j) := by unfold dayOf; rw [h.same j hj.1 hj.2]
    refine .inr ⟨?_, ?_⟩
    · have hm : dayOf ys p.day j ∈ daysL ys p.day := (daysL_mem hd).2 ⟨j, hj.1, hj.2, rfl⟩
      rw [mem_take_iff (daysL_strict ys p.day) hm]
      rw [mem_take_iff (daysL_strict xs p.day) (List.mem_of_mem_take h1)] at h1
      rw [e]
      exact Nat.lt_of_le_of_lt (countP_sub (daysL_nodup ys p.day) (fun d hd' => h.days hd hd')) h1
    · rw [latest_iff] at h2 ⊢
      intro m m0 m1 ha
      have hm := h.range m m0 m1
      have := h2 (f m) hm.1 hm.2 ((h.ahead hj ⟨m0, m1⟩).1 ha)
      rw [e]
      unfold dayOf at this ⊢
      rw [h.same m m0 m1]
      exact this

end Go.Proofs.Ytfpcgancmgeagaa
