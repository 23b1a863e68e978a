/- Contract of the closure that retain.order sorts by. -/
import Derived.Test.YtfpcgancmgeagaaSnap
namespace Go.Proofs.Ytfpcgancmgeagaa
open Go.RowKit

instance : Inhabited Sn := ⟨⟨0, .empty, .empty, [], 0, 0⟩⟩

/-- The slice's cells are the snapshots'. -/
def SnsAt (w : World) (A : Option Addr) (xs : List Sn) : Prop :=
  ∀ i, i < xs.length → ∃ b o, A = some ⟨b, o, none⟩ ∧ b < w.heap.size ∧ w.rangeAt b (o + i * 37) (xs.getD i default).cells ∧ (xs.getD i default).ok
theorem rangeAt_below {w w' : World} {b o B : Nat} {cs : List Value} (h : w.rangeAt b o cs) (hb : Below B w w') (hB : b < B) : w'.rangeAt b o cs := fun j v hv => by
  rw [hb.cell (p := ⟨b, o + j, none⟩) hB]; exact h j v hv
theorem SnsAt.below {w w' : World} {A : Option Addr} {xs : List Sn} (h : SnsAt w A xs) (hb : Below w.heap.size w w') : SnsAt w' A xs := fun i hi => by
  obtain ⟨b, o, e, hlt, hr, hok⟩ := h i hi
  exact ⟨b, o, e, Nat.lt_of_lt_of_le hlt hb.size, rangeAt_below hr hb hlt, hok⟩

theorem wpStill_load_mid {P : Program} {ops : Array Oper} {Q : Act → Prop} {a : Act} {w : World} {o : Oper} {rest : List Oper} (hgd : o.guard = none) (ty : TypeId) (x : Operand) (ho : o.op = .load ty x)
    (b off : Nat) (hx : a.eval x = .pointer (some ⟨b, off, none⟩)) (cs : List Value) (d : TypeDesc) (hc : w.rangeAt b off cs)
    (hu : P.underlying ty = some d) (hd : d.isRow = true) (hi : (P.info? ty).map (·.size) = some cs.length)
    (h : wpStill P ops w Q rest (a.put o.dst (.agg cs.toArray))) : wpStill P ops w Q (o :: rest) a := by
  refine wpStill_step fun K hK => ?_
  simp only [Region.wanted, hgd, if_true]
  unfold Oper.still execOp
  simp only [ho, hx, Instr.loadAt, Instr.sureAddr, Sem.run_bind, Sem.run_pure, Result.andThen_ok, run_loadVar_mid w b off ty cs d hc hu hd hi]
  exact ⟨rfl, hK _ h⟩

def ordCmp (xs : List Sn) (i j : Nat) : Int :=
  if snapCmp (xs.getD i default) (xs.getD j default) < 0 then -1 else if snapCmp (xs.getD j default) (xs.getD i default) < 0 then 1 else 0

theorem snap_cells' (a : Sn) (h : a.ok) : (Try.prog.info? 42).map (·.size) = some a.cells.length := by
  rw [snap_cells a h]; simp [Sn.arr]

set_option maxHeartbeats 1000000 in
set_option maxRecDepth 100000 in
theorem order_cmp (xs : List Sn) (A : Option Addr) (c Bs : Nat) (w : World) (hBs : w.cell? ⟨Bs, 0, none⟩ = some (.slice A xs.length c)) (hlen : xs.length ≤ 1073741824) (h : SnsAt w A xs) (i j : Nat) (hi : i < xs.length) (hj : j < xs.length) :
    Calls Try.prog 69 #[.int .i64 i, .int .i64 j, .pointer (some ⟨Bs, 0, none⟩)] w fun e w' => e = .returned (.int .i64 (ordCmp xs i j)) ∧ Below w.heap.size w w' := by
  obtain ⟨b, o, rfl, hlt, hri, oki⟩ := h i hi
  obtain ⟨b', o', e, _, hrj, okj⟩ := h j hj
  obtain ⟨rfl, rfl⟩ : b = b' ∧ o = o' := by simpa using e
  clear e h
  unfold ordCmp
  generalize xs.getD i default = x at *
  generalize xs.getD j default = y at *
  have HI := Lib.hid hri
  have HJ := Lib.hid hrj
  clear hri hrj
  go_enter Try.func69, Try.ntmps69
  go_wp2_with fail
  refine wp_region_still_tail 8 (by kernel_rfl) (by kernel_rfl) ?_
  simp only [List.take_succ_cons, List.take_zero, List.drop_succ_cons, List.drop_zero]
  change wpStill _ _ w.drew (fun a' => wpList _ _ _ _ _ w.drew) _ _
  have hd : Below w.heap.size w w.drew := (Below.refl _ _).drew
  iterate 3 still_step
  refine wpStill_load_mid rfl 42 (.tmp 9) rfl b (o + i * 37) rfl x.cells _ (rangeAt_below HI.out hd hlt) Try.underlying42 rfl (snap_cells' x oki) ?_
  simp only [Act.put, List.setIfInBounds_toArray, List.set_cons_zero, List.set_cons_succ]
  iterate 3 still_step
  refine wpStill_load_mid rfl 42 (.tmp 13) rfl b (o + j * 37) rfl y.cells _ (rangeAt_below HJ.out hd hlt) Try.underlying42 rfl (snap_cells' y okj) ?_
  simp only [Act.put, List.setIfInBounds_toArray, List.set_cons_zero, List.set_cons_succ]
  refine wpStill_nil ?_
  go_wp2_with fail
  refine (snap_less x y oki okj _).mono ?_
  rintro e w1 ⟨rfl, hb1⟩
  by_cases hlt1 : snapCmp x y < 0
  · simp only [hlt1, decide_true]
    go_wp2
    go_ret
    exact ⟨by simp, hd.trans hb1⟩
  · simp only [hlt1, decide_false]
    have hbs1 : w1.cell? ⟨Bs, 0, none⟩ = some (.slice (some ⟨b, o, none⟩) xs.length c) := by
      rw [(hd.trans hb1).cell (p := ⟨Bs, 0, none⟩) (World.block_lt_of_cell? w _ hBs)]; exact hBs
    have hb2 : Below w.heap.size w w1 := hd.trans hb1
    clear hd hb1 hBs
    go_wp2_with fail
    have hd1 : Below w.heap.size w w1.drew := hb2.drew
    refine wp_region_still_tail 8 (by kernel_rfl) (by kernel_rfl) ?_
    simp only [List.take_succ_cons, List.take_zero, List.drop_succ_cons, List.drop_zero]
    change wpStill _ _ w1.drew (fun a' => wpList _ _ _ _ _ w1.drew) _ _
    iterate 3 still_step
    refine wpStill_load_mid rfl 42 (.tmp 19) rfl b (o + j * 37) rfl y.cells _ (rangeAt_below HJ.out hd1 hlt) Try.underlying42 rfl (snap_cells' y okj) ?_
    simp only [Act.put, List.setIfInBounds_toArray, List.set_cons_zero, List.set_cons_succ]
    iterate 3 still_step
    refine wpStill_load_mid rfl 42 (.tmp 23) rfl b (o + i * 37) rfl x.cells _ (rangeAt_below HI.out hd1 hlt) Try.underlying42 rfl (snap_cells' x oki) ?_
    simp only [Act.put, List.setIfInBounds_toArray, List.set_cons_zero, List.set_cons_succ]
    refine wpStill_nil ?_
    go_wp2_with fail
    refine (snap_less y x okj oki _).mono ?_
    rintro e w2 ⟨rfl, hb3⟩
    have hb4 : Below w.heap.size w w2 := hd1.trans (hb3.mono hd1.size)
    by_cases hlt2 : snapCmp y x < 0
    · simp only [hlt2, decide_true]
      go_wp2
      go_ret
      exact ⟨by simp [hlt1], hb4⟩
    · simp only [hlt2, decide_false]
      go_wp2
      go_ret
      exact ⟨by simp [hlt1], hb4⟩

end Go.Proofs.Ytfpcgancmgeagaa
