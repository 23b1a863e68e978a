/- The order of snapshots is a whole one, and the sorted places stand in it. Plain Lean: no program is walked. -/
import Derived.Test.YtfpcgancmgeagaaOrder
namespace Go.Proofs.Ytfpcgancmgeagaa

/-- A comparison with three answers that leads on. -/
structure Cmp3 {α : Type} (c : α → α → Int) : Prop where
  anti : ∀ x y, c y x = - c x y
  le : ∀ x y z, c x y ≤ 0 → c y z ≤ 0 → c x z ≤ 0

theorem Cmp3.lt_le {α : Type} {c : α → α → Int} (h : Cmp3 c) {x y z : α} (h1 : c x y < 0) (h2 : c y z ≤ 0) : c x z < 0 := by
  have a := h.le x y z (by omega) h2
  by_cases h0 : c x z = 0
  · have b := h.le y z x h2 (by rw [h.anti x z]; omega)
    rw [h.anti x y] at b
    omega
  · omega
theorem Cmp3.le_lt {α : Type} {c : α → α → Int} (h : Cmp3 c) {x y z : α} (h1 : c x y ≤ 0) (h2 : c y z < 0) : c x z < 0 := by
  have a := h.le x y z h1 (by omega)
  by_cases h0 : c x z = 0
  · have b := h.le z x y (by rw [h.anti x z]; omega) h1
    rw [h.anti y z] at b
    omega
  · omega
theorem Cmp3.self {α : Type} {c : α → α → Int} (h : Cmp3 c) (x : α) : c x x = 0 := by have := h.anti x x; omega

theorem cmpInt_3 {α : Type} (f : α → Int) : Cmp3 (fun x y => cmpInt (f x) (f y)) := by
  constructor
  · intro x y; show cmpInt _ _ = - cmpInt _ _; unfold cmpInt; split <;> split <;> (try split) <;> omega
  · intro x y z; show cmpInt _ _ ≤ 0 → cmpInt _ _ ≤ 0 → cmpInt _ _ ≤ 0; unfold cmpInt
    intro h1 h2
    have a : f x ≤ f y := by split at h1 <;> (try split at h1) <;> omega
    have b : f y ≤ f z := by split at h2 <;> (try split at h2) <;> omega
    split
    · omega
    · split <;> omega

theorem compareBytes_anti : ∀ (a b : List UInt8), Lib.compareBytes b a = - Lib.compareBytes a b
  | [], [] => rfl
  | [], _ :: _ => rfl
  | _ :: _, [] => rfl
  | x :: a, y :: b => by
    unfold Lib.compareBytes
    have ih := compareBytes_anti a b
    rcases Nat.lt_trichotomy x.toNat y.toNat with h | h | h
    · rw [if_neg (show ¬ y < x from by rw [UInt8.lt_iff_toNat_lt]; omega), if_pos (show x < y from UInt8.lt_iff_toNat_lt.2 h), if_pos (show x < y from UInt8.lt_iff_toNat_lt.2 h)]; rfl
    · rw [if_neg (show ¬ y < x from by rw [UInt8.lt_iff_toNat_lt]; omega), if_neg (show ¬ x < y from by rw [UInt8.lt_iff_toNat_lt]; omega), if_neg (show ¬ x < y from by rw [UInt8.lt_iff_toNat_lt]; omega), if_neg (show ¬ y < x from by rw [UInt8.lt_iff_toNat_lt]; omega)]
      exact ih
    · rw [if_pos (show y < x from UInt8.lt_iff_toNat_lt.2 h), if_neg (show ¬ x < y from by rw [UInt8.lt_iff_toNat_lt]; omega), if_pos (show y < x from UInt8.lt_iff_toNat_lt.2 h)]

theorem compareBytes_le : ∀ (a b c : List UInt8), Lib.compareBytes a b ≤ 0 → Lib.compareBytes b c ≤ 0 → Lib.compareBytes a c ≤ 0
  | [], _, [], _, _ => by decide
  | [], _, _ :: _, _, _ => by unfold Lib.compareBytes; decide
  | x :: a, [], _, h, _ => by unfold Lib.compareBytes at h; omega
  | x :: a, y :: b, [], _, h => by unfold Lib.compareBytes at h; omega
  | x :: a, y :: b, z :: c, h1, h2 => by
    have ih := compareBytes_le a b c
    unfold Lib.compareBytes at h1 h2 ⊢
    simp only [UInt8.lt_iff_toNat_lt] at h1 h2 ⊢
    split at h1
    · split at h2
      · rw [if_pos (by omega)]; omega
      · split at h2
        · omega
        · rw [if_pos (by omega)]; omega
    · split at h1
      · omega
      · split at h2
        · rw [if_pos (by omega)]; omega
        · split at h2
          · omega
          · rw [if_neg (by omega), if_neg (by omega)]; exact ih h1 h2

theorem cmpStr_eq (a b : ByteArray) : cmpStr a b = Lib.compareBytes a.toList b.toList := by
  unfold cmpStr
  generalize a.toList = x
  generalize b.toList = y
  induction x generalizing y with
  | nil => cases y <;> simp [Op.bytesLess, Lib.compareBytes]
  | cons c x ih =>
    cases y with
    | nil => simp [Op.bytesLess, Lib.compareBytes]
    | cons d y =>
      unfold Op.bytesLess Lib.compareBytes
      by_cases h1 : c < d
      · simp [h1]
      · by_cases h2 : d < c
        · have : ¬ c = d := fun e => by subst e; exact h1 h2
          simp [h1, h2, this]
        · have e : c = d := by
            rw [UInt8.lt_iff_toNat_lt] at h1 h2
            exact UInt8.toNat_inj.1 (by omega)
          subst e
          rw [← ih y]
          simp

theorem bytes_3 {α : Type} (f : α → List UInt8) : Cmp3 (fun x y => Lib.compareBytes (f x) (f y)) := ⟨fun _ _ => compareBytes_anti _ _, fun _ _ _ => compareBytes_le _ _ _⟩
theorem cmpStr_3 {α : Type} (f : α → ByteArray) : Cmp3 (fun x y => cmpStr (f x) (f y)) := by
  have := bytes_3 (fun x : α => (f x).toList)
  simpa only [cmpStr_eq] using this

theorem lex_3 {α : Type} {c : α → α → Int} {l : α → α → List Int} (h : Cmp3 c) (hl : Cmp3 (fun x y => orInt (l x y))) : Cmp3 (fun x y => orInt (c x y :: l x y)) := by
  constructor
  · intro x y
    show orInt _ = - orInt _
    unfold orInt
    have a := h.anti x y
    have b := hl.anti x y
    split <;> split <;> first | omega | assumption
  · intro x y z
    show orInt _ ≤ 0 → orInt _ ≤ 0 → orInt _ ≤ 0
    unfold orInt
    intro h1 h2
    split at h1
    · rename_i e1
      split at h2
      · rename_i e2
        have e3 : c x z = 0 := by
          have a := h.le x y z (by omega) (by omega)
          have b := h.le z y x (by rw [h.anti y z]; omega) (by rw [h.anti x y]; omega)
          rw [h.anti x z] at b
          omega
        rw [if_pos e3]
        exact hl.le x y z h1 h2
      · have := h.le_lt (x := x) (y := y) (z := z) (by omega) (by omega)
        rw [if_neg (by omega)]; omega
    · have : c x z < 0 := by
        split at h2
        · exact h.lt_le (y := y) (by omega) (by omega)
        · exact h.lt_le (y := y) (by omega) (by omega)
      rw [if_neg (by omega)]; omega
theorem nil_3 {α : Type} : Cmp3 (fun (_ _ : α) => orInt []) := ⟨fun _ _ => rfl, fun _ _ _ _ _ => Int.le_refl _⟩

theorem snap_3 : Cmp3 snapCmp :=
  lex_3 (cmpInt_3 Sn.time) (lex_3 (cmpStr_3 Sn.host) (lex_3 (cmpStr_3 Sn.tag) (lex_3 (bytes_3 Sn.root) (lex_3 (cmpInt_3 Sn.files) (lex_3 (cmpInt_3 Sn.bytes) nil_3)))))

theorem snap_time {x y : Sn} (h : snapCmp x y ≤ 0) : x.time ≤ y.time := by
  unfold snapCmp orInt cmpInt at h
  by_cases h1 : y.time < x.time
  · rw [if_neg (by omega), if_pos h1, if_neg (by omega)] at h; omega
  · omega

/-! the places -/
abbrev snAt (xs : List Sn) (x : Int) : Sn := xs.getD x.toNat default
/-- x stands ahead of y. -/
def ahead (xs : List Sn) (x y : Int) : Prop := snapCmp (snAt xs x) (snAt xs y) < 0 ∨ (snapCmp (snAt xs x) (snAt xs y) = 0 ∧ x < y)

theorem ordCf_neg (xs : List Sn) (x y : Int) : ordCf xs x y < 0 ↔ snapCmp (snAt xs x) (snAt xs y) < 0 := by
  unfold ordCf ordCmp
  have := snap_3.anti (snAt xs x) (snAt xs y)
  show (if snapCmp (snAt xs x) (snAt xs y) < 0 then -1 else if snapCmp (snAt xs y) (snAt xs x) < 0 then 1 else 0) < (0 : Int) ↔ _
  split
  · omega
  · split <;> omega

theorem bef_ahead (xs : List Sn) (x y : Int) : bef (ordCf xs) x y ↔ ahead xs x y := by
  unfold bef ahead
  have := snap_3.anti (snAt xs x) (snAt xs y)
  split
  · rw [ordCf_neg]; omega
  · rw [ordCf_neg]; omega

theorem ahead_trans {xs : List Sn} {x y z : Int} (h1 : ahead xs x y) (h2 : ahead xs y z) : ahead xs x z := by
  unfold ahead at *
  rcases h1 with h1 | ⟨h1, h3⟩
  · exact .inl (snap_3.lt_le h1 (by omega))
  · rcases h2 with h2 | ⟨h2, h4⟩
    · exact .inl (snap_3.le_lt (y := snAt xs y) (by omega) h2)
    · have a := snap_3.le (snAt xs x) (snAt xs y) (snAt xs z) (by omega) (by omega)
      omega
theorem ahead_irrefl {xs : List Sn} {x : Int} : ¬ ahead xs x x := by
  unfold ahead
  rw [snap_3.self]; omega
theorem ahead_total {xs : List Sn} {x y : Int} (h : x ≠ y) : ahead xs x y ∨ ahead xs y x := by
  unfold ahead
  have := snap_3.anti (snAt xs x) (snAt xs y)
  omega

theorem ord_trans (xs : List Sn) : BefTrans (ordCf xs) (fun _ => True) := fun x y z _ _ _ h1 h2 => by
  rw [bef_ahead] at *
  exact ahead_trans h1 h2

theorem rng_pairwise (n : Nat) : (rng n).Pairwise (· < ·) := by
  unfold rng
  rw [List.pairwise_map]
  exact List.pairwise_lt_range.imp (by intro a b h; omega)

theorem order_sorts (xs : List Sn) : (order xs).Perm (rng xs.length) ∧ (order xs).Pairwise (ahead xs) := by
  have := stable_sorts (ord_trans xs) (rng xs.length) (rng_pairwise _) (fun _ _ => trivial)
  exact ⟨this.1, this.2.imp (fun h => (bef_ahead _ _ _).1 h)⟩

theorem mem_order {xs : List Sn} {y : Int} : y ∈ order xs ↔ 0 ≤ y ∧ y < xs.length := by
  rw [(order_sorts xs).1.mem_iff]
  constructor
  · exact mem_rng
  · intro ⟨h1, h2⟩
    unfold rng
    exact List.mem_map.2 ⟨y.toNat, List.mem_range.2 (by omega), by omega⟩
theorem order_nodup (xs : List Sn) : (order xs).Nodup := by
  unfold List.Nodup
  exact (order_sorts xs).2.imp (fun {a b} h e => by subst e; exact ahead_irrefl h)

end Go.Proofs.Ytfpcgancmgeagaa
