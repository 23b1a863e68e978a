/- A slice literal of one struct value: the new row holds its cells. No program in sight. -/
import Derived.Test.YtfpcgancmgeagaaBase
import Derived.Great.BuildSlice
namespace Go.Proofs.Ytfpcgancmgeagaa
open Go.RowKit

theorem fold_set : ∀ (l : List Value) (k : Nat) (cs : Array Value), k + l.length = cs.size →
    ((l.zipIdx k).foldl (fun (cs : Array Value) (x : Value × Nat) => cs.setIfInBounds (0 + x.2) x.1) cs).toList = cs.toList.take k ++ l
  | [], k, cs, h => by
    simp only [List.length_nil, Nat.add_zero] at h
    subst h
    simp [List.take_of_length_le]
  | v :: l, k, cs, h => by
    rw [List.zipIdx_cons, List.foldl_cons, fold_set l (k + 1) _ (by simp at h ⊢; omega)]
    simp only [List.length_cons] at h
    rw [Nat.zero_add, Array.toList_setIfInBounds, List.take_set, List.take_add_one]
    rw [List.getElem?_eq_getElem (by simp; omega)]
    simp only [Option.toList_some]
    rw [List.set_append_right _ _ (by simp; omega)]
    simp [show min k cs.size = k by omega]

theorem fill_one (arr base : Array Value) (size : Nat) (h1 : arr.size = size) (h2 : base.size = size) : Instr.fill (fun i => some (i * size, size)) base [(0, Value.agg arr)] = some arr := by
  unfold Instr.fill
  simp only [Nat.zero_mul, Value.cells, Nat.zero_add, h1, h2]
  rw [if_neg (by simp)]
  unfold Instr.fill
  congr 1
  apply Array.toList_inj.1
  have := fold_set arr.toList 0 base (by simp [h1, h2])
  simp only [List.take_zero, List.nil_append] at this
  rw [← this, ← Array.foldl_toList, Array.toList_zipIdx]
  simp

theorem wpList_build_one {P : Program} {ops : Array Oper} {rest : List Oper} {o : Oper} {a : Act} {w : World} {Q : Exit → Act → World → Prop} (hg : o.guard = none) (t e : TypeId) (x : Operand) (ho : o.op = .buildSlice t 1 #[(0, x)])
    (arr : Array Value) (hx : a.eval x = .agg arr) (ie : TypeInfo) (z : Value) (size : Nat) (hu : P.underlying t = some (.slice e)) (hie : P.info? e = some ie) (hz : ie.zero = some z) (hs : ie.size = size) (ha : arr.size = size) (hpos : 0 < size) (hsmall : size ≤ 16777216)
    (h : wpList P ops Q rest (a.put o.dst (.slice (some ⟨w.heap.size, 0, none⟩) 1 1)) (w.alloc (.cells arr e))) : wpList P ops Q (o :: rest) a w := by
  refine wpList_buildSlice hg t e 1 #[(0, x)] ho arr ie z hu hie hz (by rw [hs]; omega) (by rw [hs]; omega) ?_ h
  rw [hs]
  have : (#[(0, x)].map fun (p : Nat × Operand) => (p.1, a.eval p.2)).toList = [(0, Value.agg arr)] := by simp [hx]
  rw [this]
  exact fill_one arr _ size ha (by simp)

end Go.Proofs.Ytfpcgancmgeagaa
