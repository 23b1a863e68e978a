/- A policy by value, opened. -/
import Derived.Test.YtfpcgancmgeagaaOpen
import Derived.Lib.SmallJoins
namespace Go.Proofs.Ytfpcgancmgeagaa
open Go.RowKit Go.Joins Go.ChangeShapes Go.WideShapes Go.Deep

variable {H : Type} {enc : TypeId × Value → H} {w : World} {base : Nat} {spare : Nat → Bool} {held : Bool}

theorem one_val {v u : Value} (h : [v] = [u]) : v = u := by simpa using h
theorem A_cells_pol : Try.prog.cellsOf 24 = 5 := by kernel_rfl

set_option maxRecDepth 100000 in
theorem open_pol {r : Reach} {b0 : Nat} {v : Value} {d : DataW H} {p : List MemPlace} (hv : Value.okWide Try.prog w r b0 24 v) (h : DataW.Trod enc Try.prog w base spare held 24 v d p) :
    ∃ q : Pol, q.ok ∧ v = .agg q.cells.toArray := by
  obtain ⟨cs, rfl, hsz⟩ := okWide_struct Try.underlying24 hv
  obtain ⟨l⟩ := cs
  match l, hsz.trans A_cells_pol with
  | [c0, c1, c2, c3, c4], _ =>
    obtain ⟨fuel, hf⟩ := h
    obtain ⟨xs, n, _, hx, _, hlen, hg⟩ := DataW.trod_struct Try.underlying24 hf
    have hl' : xs.length = 5 := hlen
    have f0 := hg 0 _ rfl
    have f1 := hg 1 _ rfl
    have f2 := hg 2 _ rfl
    have f3 := hg 3 _ rfl
    have f4 := hg 4 _ rfl
    rw [List.getElem?_eq_getElem (by omega)] at f0 f1 f2 f3 f4
    obtain ⟨a0, e0, _, w0⟩ := DataW.trod_int Try.underlying3 f0
    obtain ⟨a1, e1, _, w1⟩ := DataW.trod_int Try.underlying3 f1
    obtain ⟨a2, e2, _, w2⟩ := DataW.trod_int Try.underlying2 f2
    obtain ⟨a3, e3, _, w3⟩ := DataW.trod_int Try.underlying2 f3
    obtain ⟨a4, e4, _, _⟩ := DataW.trod_string Try.underlying9 f4
    have g0 := slice1 e0 A_cells_int
    have g1 := slice1 e1 A_cells_int
    have g2 := slice1 e2 A_cells_i64
    have g3 := slice1 e3 A_cells_i64
    have g4 := slice1 e4 A_cells_str
    simp [Value.cells] at g0 g1 g2 g3 g4
    subst g0 g1 g2 g3 g4
    exact ⟨⟨a0, a1, a2, a3, a4⟩, ⟨in64_wf w0, in64_wf w1, in64_wf w2, in64_wf w3⟩, rfl⟩

end Go.Proofs.Ytfpcgancmgeagaa
