/- Two rows of snapshots that a loop builds side by side. -/
import Derived.Test.YtfpcgancmgeagaaMoreR
import Derived.Test.YtfpcgancmgeagaaSns
import Derived.Maps.AppendAt
namespace Go.Proofs.Ytfpcgancmgeagaa
open Go.RowKit

/-- Two rows of the call's own, in blocks of their own. -/
structure Two (w4 : World) (ls bs : List Sn) (v u : Value) (W : World) : Prop where
  left : W.ownsRow w4.heap.size 42 37 v ls.length (ls.flatMap Sn.cells)
  back : W.ownsRow w4.heap.size 42 37 u bs.length (bs.flatMap Sn.cells)
  ne : v.ownBlock ≠ u.ownBlock
  below : Below w4.heap.size w4 W

theorem own_len {W : World} {base n size : Nat} {e : TypeId} {v : Value} {xs : List Value} (h : W.ownsRow base e size v n xs) : ∃ A c, v = .slice A n c := by
  rcases h.2 with ⟨rfl, rfl⟩ | ⟨g, cap, cur, rfl, _⟩
  · exact ⟨_, _, rfl⟩
  · exact ⟨_, _, rfl⟩

theorem Two.stepL {w4 W W' : World} {ls bs : List Sn} {v u v' : Value} {o : Obj} (x : Sn) (h : Two w4 ls bs v u W) {n : Nat} (hn : n = ls.length) (hown : W'.ownsRow w4.heap.size 42 37 v' (n + 1) (ls.flatMap Sn.cells ++ x.cells))
    (hg : (W.alloc o).grownBy W' v.ownBlock) (hat : v'.ownBlock = v.ownBlock ∨ v'.ownBlock = some (W.heap.size + 1)) : Two w4 (ls ++ [x]) bs v' u W' := by
  subst hn
  refine ⟨?_, ?_, ?_, ?_⟩
  · simpa [List.flatMap_append] using hown
  · exact (h.back.alloc o).kept hg (.inr (fun e => h.ne e.symm))
  · rcases hat with e | e
    · rw [e]; exact h.ne
    · rw [e]; intro e'
      have := (h.back.alloc o).lt _ e'.symm
      simp at this
  · exact (h.below.alloc h.below.size o).grown hg (by have := h.below.size; simp; omega) (fun j hj => (h.left.lt j hj).1)

theorem Two.stepB {w4 W W' : World} {ls bs : List Sn} {v u u' : Value} {o : Obj} (x : Sn) (h : Two w4 ls bs v u W) {n : Nat} (hn : n = bs.length) (hown : W'.ownsRow w4.heap.size 42 37 u' (n + 1) (bs.flatMap Sn.cells ++ x.cells))
    (hg : (W.alloc o).grownBy W' u.ownBlock) (hat : u'.ownBlock = u.ownBlock ∨ u'.ownBlock = some (W.heap.size + 1)) : Two w4 ls (bs ++ [x]) v u' W' := by
  subst hn
  refine ⟨?_, ?_, ?_, ?_⟩
  · exact (h.left.alloc o).kept hg (.inr h.ne)
  · simpa [List.flatMap_append] using hown
  · rcases hat with e | e
    · rw [e]; exact h.ne
    · rw [e]; intro e'
      have := (h.left.alloc o).lt _ e'
      simp at this
  · exact (h.below.alloc h.below.size o).grown hg (by have := h.below.size; simp; omega) (fun j hj => (h.back.lt j hj).1)

theorem rev_take (xs : List Sn) (k : Nat) (h : k < xs.length) : xs.reverse.take (k + 1) = xs.reverse.take k ++ [xs.getD (xs.length - 1 - k) default] := by
  rw [List.take_succ_eq_append_getElem (by simpa using h), List.getElem_reverse, List.getD_eq_getElem?_getD, List.getElem?_eq_getElem (by omega)]; rfl
theorem left_len_le (xs : List Sn) (ks : List Bool) (k : Nat) : (leftTo xs ks k).length ≤ k := by
  rw [left_length]; unfold keptTo; exact Nat.le_trans (List.length_filter_le _ _) (by rw [rng_length]; exact Nat.le_refl _)
theorem lefts_ok {xs : List Sn} {ks : List Bool} {k : Nat} {w : World} {A : Option Addr} (h : SnsAt w A xs) (hk : k ≤ xs.length) : ∀ s ∈ leftTo xs ks k, s.ok := fun s hs => by
  obtain ⟨i, hi, rfl⟩ := List.getElem_of_mem (left_mem hk hs)
  obtain ⟨_, _, _, _, _, ok⟩ := h i hi
  rw [List.getD_eq_getElem?_getD, List.getElem?_eq_getElem hi] at ok
  exact ok
theorem sns_ok {xs : List Sn} {w : World} {A : Option Addr} (h : SnsAt w A xs) : ∀ s ∈ xs, s.ok := fun s hs => by
  obtain ⟨i, hi, rfl⟩ := List.getElem_of_mem hs
  obtain ⟨_, _, _, _, _, ok⟩ := h i hi
  rw [List.getD_eq_getElem?_getD, List.getElem?_eq_getElem hi] at ok
  exact ok
theorem two_start (w4 : World) (n : Nat) (hn : n = w4.heap.size) : Two w4 [] [] (.slice (some ⟨n, 0, none⟩) 0 0) (.slice (some ⟨n + 1, 0, none⟩) 0 0) ((w4.alloc (.cells #[] 42)).alloc (.cells #[] 42)) := by
  subst hn
  refine ⟨⟨rfl, .inr ⟨_, 0, #[], rfl, Nat.le_refl _, ?_, Nat.le_refl _, by decide, rfl, rfl⟩⟩, ⟨rfl, .inr ⟨_, 0, #[], rfl, by omega, ?_, Nat.le_refl _, by decide, rfl, rfl⟩⟩, by simp [Value.ownBlock], ((Below.refl _ _).alloc (Nat.le_refl _) _).alloc (by simp) _⟩
  · exact heap_alloc2_old w4 _ _
  · exact heap_alloc2_new w4 _ _

end Go.Proofs.Ytfpcgancmgeagaa
