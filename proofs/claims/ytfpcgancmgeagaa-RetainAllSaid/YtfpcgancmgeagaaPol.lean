/- The policy as a row of cells, and the marks that ranges over functions leave among a function's deferred calls. -/
import Derived.Test.YtfpcgancmgeagaaRound
import Derived.Test.YtfpcgancmgeagaaDays
import Derived.Test.YtfpcgancmgeagaaIter
namespace Go.Proofs.Ytfpcgancmgeagaa
open Go.RowKit Go.Shelf

structure Pol where
  last : Int
  days : Int
  day : Int
  within : Int
  tag : ByteArray
def Pol.cells (p : Pol) : List Value := [.int .i64 p.last, .int .i64 p.days, .int .i64 p.day, .int .i64 p.within, .string p.tag]
def Pol.ok (p : Pol) : Prop := In64 p.last ∧ In64 p.days ∧ In64 p.day ∧ In64 p.within

def bools (ks : List Bool) : List Value := ks.map Value.bool

/-- The function's own marks: blocks that hold the rounds' deferred calls, none yet; the newest first. -/
def Marks (B : Nat) : Nat → List Deferred → World → Prop
  | _, [], _ => True
  | ub, d :: ds, W => ∃ D, d = { target := .collected D, args := #[] } ∧ B ≤ D ∧ D < ub ∧ W.heap[D]? = some (.deferred (some [])) ∧ Marks B D ds W

theorem Marks.mono {B : Nat} {W W' : World} : ∀ {ds : List Deferred} {ub ub' : Nat}, Marks B ub ds W → ub ≤ ub' → (∀ k, B ≤ k → k < ub → W.heap[k]? = some (.deferred (some [])) → W'.heap[k]? = some (.deferred (some []))) → Marks B ub' ds W'
  | [], _, _, _, _, _ => trivial
  | _ :: _, _, _, ⟨D, h1, h2, h3, h4, h5⟩, hu, hk => ⟨D, h1, h2, by omega, hk D h2 h3 h4, h5.mono (Nat.le_refl _) (fun k a b c => hk k a (by omega) c)⟩

theorem leaves_marks {F : Fence} {n : Nat} {P : Program} {fn : Func} {tmps : Array Value} {R : Ending → World → Prop} {B : Nat} : ∀ (ds : List Deferred) (ub : Nat) (W : World), Marks B ub ds W →
    (∀ W', Mod (B ≤ ·) W W' → LeavesIn F n P fn tmps R [] .returning W') → LeavesInM F n P fn tmps R ds .returning W
  | [], _, W, _, h => h W (Mod.refl _ _)
  | d :: ds, ub, W, ⟨D, h1, h2, h3, h4, h5⟩, h => by
    subst h1
    refine ⟨by simp, .inl ⟨D, _, rfl, run_takeDeferred h4, ?_⟩⟩
    have hg : Mod (B ≤ ·) W (W.putObj D (.deferred none)) := (Mod.refl _ W).grown (grownBy_putObj' W D (.deferred none)) (fun k e _ => by cases e; exact h2)
    refine leaves_marks ds D _ (h5.mono (Nat.le_refl _) (fun k a b c => ?_)) (fun W' hm => h W' (hg.then hm (fun _ _ e => e)))
    rw [(grownBy_putObj' W D (.deferred none)).block k (by have := (Array.getElem?_eq_some_iff.1 c).1; exact this) (fun e => by cases e; omega)]
    exact c

/-- Of a day: the last place in the order whose time falls on it. -/
def onDay (xs : List Sn) (day d : Int) (x : Nat × Int) : Bool := decide ((xs.getD x.2.toNat default).time / day = d)
def lastOf (xs : List Sn) (ys : List Int) (day d : Int) : Option (Nat × Int) := (backs ys xs.length).find? (onDay xs day d)
def mark (xs : List Sn) (ys : List Int) (day : Int) (ks : List Bool) (d : Int) : List Bool :=
  match lastOf xs ys day d with
  | some x => ks.set x.2.toNat true
  | none => ks
def markAll (xs : List Sn) (ys : List Int) (day : Int) (ks : List Bool) (ds : List Int) : List Bool := ds.foldl (mark xs ys day) ks
theorem mark_length (xs : List Sn) (ys : List Int) (day : Int) (ks : List Bool) (d : Int) : (mark xs ys day ks d).length = ks.length := by
  unfold mark; split <;> simp
theorem markAll_length (xs : List Sn) (ys : List Int) (day : Int) : ∀ (ds : List Int) (ks : List Bool), (markAll xs ys day ks ds).length = ks.length
  | [], _ => rfl
  | d :: ds, ks => by unfold markAll; rw [List.foldl_cons]; exact (markAll_length xs ys day ds _).trans (mark_length _ _ _ _ _)
theorem markAll_snoc (xs : List Sn) (ys : List Int) (day : Int) (ks : List Bool) (ds : List Int) (d : Int) : markAll xs ys day ks (ds ++ [d]) = mark xs ys day (markAll xs ys day ks ds) d := by
  unfold markAll; rw [List.foldl_append]; rfl

theorem find_prefix {α : Type} (p : α → Bool) (l pre : List α) (x : α) (h : pre ++ [x] <+: l) (hn : ∀ y ∈ pre, p y = false) (hx : p x = true) : l.find? p = some x := by
  obtain ⟨t, rfl⟩ := h
  rw [List.append_assoc, List.find?_append, List.find?_eq_none.2 (fun y hy => by simp [hn y hy])]
  simp [hx]

theorem days_any (xs : List Sn) (A : Option Addr) (c : Nat) (day : Int) (h2 : In64 day) (w : World) (hlen : xs.length ≤ 1073741824) (h : SnsAt w A xs) :
    Calls Try.prog 16 #[.slice A xs.length c, .int .i64 day] w fun e w' => ∃ v, e = .returned v ∧ w'.ownsRow w.heap.size 2 1 v (daysL xs day).length ((daysL xs day).map (Value.int .i64)) ∧ Below w.heap.size w w' := by
  by_cases h1 : day < 1
  · refine (days_none A xs.length c day h1 w).mono ?_
    rintro e w' ⟨rfl, rfl⟩
    have e1 : daysL xs day = [] := by unfold daysL; rw [if_pos h1]
    rw [e1]
    exact ⟨_, rfl, World.ownsRow_nil _ _ _ _, Below.refl _ _⟩
  · exact days_some xs A c day (by omega) h2.2 w hlen h

end Go.Proofs.Ytfpcgancmgeagaa
