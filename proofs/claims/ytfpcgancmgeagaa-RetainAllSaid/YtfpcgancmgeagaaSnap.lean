/- Contracts of snap.compare and snap.Less over this translation; the snapshots are read from their cells. -/
import Derived.Test.YtfpcgancmgeagaaCmp
namespace Go.Proofs.Ytfpcgancmgeagaa
open Go.RowKit

structure Sn where
  time : Int
  host : ByteArray
  tag : ByteArray
  root : List UInt8
  files : Int
  bytes : Int

def Sn.cells (s : Sn) : List Value := [.int .i64 s.time, .string s.host, .string s.tag] ++ u8s s.root ++ [.int .i64 s.files, .int .i64 s.bytes]
def Sn.arr (s : Sn) : Array Value := s.cells.toArray
def In64 (x : Int) : Prop := -9223372036854775808 ≤ x ∧ x ≤ 9223372036854775807
def Sn.ok (s : Sn) : Prop := s.root.length = 32 ∧ In64 s.time ∧ In64 s.files ∧ In64 s.bytes

theorem Sn.arr0 (s : Sn) : s.arr[0]? = some (.int .i64 s.time) := by simp [Sn.arr, Sn.cells]
theorem Sn.arr1 (s : Sn) : s.arr[1]? = some (.string s.host) := by simp [Sn.arr, Sn.cells]
theorem Sn.arr2 (s : Sn) : s.arr[2]? = some (.string s.tag) := by simp [Sn.arr, Sn.cells]
theorem Sn.arr35 (s : Sn) (h : s.ok) : s.arr[35]? = some (.int .i64 s.files) := by
  simp [Sn.arr, Sn.cells, List.getElem?_append, h.1]
theorem Sn.arr36 (s : Sn) (h : s.ok) : s.arr[36]? = some (.int .i64 s.bytes) := by
  simp [Sn.arr, Sn.cells, List.getElem?_append, h.1]
theorem Sn.size (s : Sn) (h : s.ok) : s.arr.size = 37 := by simp [Sn.arr, Sn.cells, h.1]

def snapCmp (a b : Sn) : Int := orInt [cmpInt a.time b.time, cmpStr a.host b.host, cmpStr a.tag b.tag, Lib.compareBytes a.root b.root, cmpInt a.files b.files, cmpInt a.bytes b.bytes]

theorem _root_.Go.Calls.flip {P : Program} {f : FuncId} {args : Array Value} {w : World} {v : Value} (h : Calls P f args w fun e w' => e = .returned v ∧ w = w') : Calls P f args w fun e w' => e = .returned v ∧ w' = w :=
  h.mono fun _ _ h => ⟨h.1, h.2.symm⟩

/-- The two boxed snapshots as compare's region meets them. -/
def SnAt (w : World) (g : Nat) (a : Sn) : Prop := ∃ t, w.heap[g]? = some (.cells a.arr t (0, 0))
theorem SnAt.cell {w : World} {g : Nat} {a : Sn} (h : SnAt w g a) (i : Nat) : w.cell? ⟨g, i, none⟩ = a.arr[i]? := by
  obtain ⟨t, h⟩ := h
  simp [World.cell?, h]
theorem SnAt.root {w : World} {g : Nat} {a : Sn} (h : SnAt w g a) : BytesAt w g 3 a.root := fun j v hv => by
  rw [h.cell]
  have hj : j < (u8s a.root).length := (List.getElem?_eq_some_iff.1 hv).1
  simp only [Sn.arr, Sn.cells, List.getElem?_toArray]
  rw [List.append_assoc, List.getElem?_append_right (by simp), List.getElem?_append_left (by simpa using hj)]
  simpa using hv
theorem SnAt.below {w w' : World} {g B : Nat} {a : Sn} (h : SnAt w g a) (hb : Below B w w') (hg : g < B) : SnAt w' g a := by
  obtain ⟨t, h⟩ := h
  exact ⟨t, (hb.block g hg).trans h⟩

set_option maxHeartbeats 1000000 in
set_option maxRecDepth 100000 in
theorem snap_compare (a b : Sn) (ha : a.ok) (hb : b.ok) (w : World) :
    Calls Try.prog 49 #[.agg a.arr, .agg b.arr] w fun e w' => e = .returned (.int .i64 (snapCmp a b)) ∧ Below w.heap.size w w' := by
  go_enter Try.func49, Try.ntmps49
  go_wp2
  have hba : Below w.heap.size w ((w.alloc (Obj.cells a.arr 42)).alloc (Obj.cells b.arr 42)).drew := (((Below.refl _ _).alloc (Nat.le_refl _) _).alloc (by simp) _).drew
  have hA : SnAt ((w.alloc (Obj.cells a.arr 42)).alloc (Obj.cells b.arr 42)).drew w.heap.size a := ⟨_, heap_alloc2_old w _ _⟩
  have hB : SnAt ((w.alloc (Obj.cells a.arr 42)).alloc (Obj.cells b.arr 42)).drew (w.heap.size + 1) b := ⟨_, heap_alloc2_new w _ _⟩
  refine wp_region_still_tail 30 (by kernel_rfl) (by kernel_rfl) ?_
  simp only [List.take_succ_cons, List.take_zero, List.drop_succ_cons, List.drop_zero]
  change wpStill _ _ ((w.alloc (Obj.cells a.arr 42)).alloc (Obj.cells b.arr 42)).drew (fun a' => wpList _ _ _ _ _ ((w.alloc (Obj.cells a.arr 42)).alloc (Obj.cells b.arr 42)).drew) _ _
  generalize ((w.alloc (Obj.cells a.arr 42)).alloc (Obj.cells b.arr 42)).drew = W at *
  have ca0 := (hA.cell 0).trans a.arr0
  have ca1 := (hA.cell 1).trans a.arr1
  have ca2 := (hA.cell 2).trans a.arr2
  have ca5 := (hA.cell 35).trans (a.arr35 ha)
  have ca6 := (hA.cell 36).trans (a.arr36 ha)
  have cb0 := (hB.cell 0).trans b.arr0
  have cb1 := (hB.cell 1).trans b.arr1
  have cb2 := (hB.cell 2).trans b.arr2
  have cb5 := (hB.cell 35).trans (b.arr35 hb)
  have cb6 := (hB.cell 36).trans (b.arr36 hb)
  iterate 4 still_step
  still_call (compare_i64 _ _ _).flip
  iterate 4 still_step
  still_call (compare_string _ _ _).flip
  iterate 4 still_step
  still_call (compare_string _ _ _).flip
  iterate 4 still_step
  still_call (bytes_compare_n _ _ _ _ _ _ _ a.root b.root 32 32 ha.1 hb.1 hA.root hB.root).flip
  iterate 4 still_step
  still_call (compare_int _ _ _).flip
  iterate 4 still_step
  still_call (compare_i64 _ _ _).flip
  refine wpStill_nil ?_
  clear ca0 ca1 ca2 ca5 ca6 cb0 cb1 cb2 cb5 cb6
  go_wp2_with fail
  refine (cmp_or_n _ _ 0 6 [cmpInt a.time b.time, cmpStr a.host b.host, cmpStr a.tag b.tag, Lib.compareBytes a.root b.root, cmpInt a.files b.files, cmpInt a.bytes b.bytes] 6 rfl (by simp) (rangeAt_new _ _ _)).mono ?_
  rintro e w' ⟨rfl, rfl⟩
  go_wp2
  go_ret
  exact ⟨rfl, hba.alloc hba.size _⟩

theorem snap_cells (a : Sn) (h : a.ok) : (Try.prog.info? 42).map (·.size) = some a.arr.size := by rw [a.size h]; kernel_rfl

set_option maxHeartbeats 1000000 in
theorem snap_less (a b : Sn) (ha : a.ok) (hb : b.ok) (w : World) :
    Calls Try.prog 70 #[.agg a.arr, .agg b.arr] w fun e w' => e = .returned (.bool (decide (snapCmp a b < 0))) ∧ Below w.heap.size w w' := by
  have hA := heap_alloc2_old w (Obj.cells a.arr 42) (Obj.cells b.arr 42)
  have hB := heap_alloc2_new w (Obj.cells a.arr 42) (Obj.cells b.arr 42)
  have hba : Below w.heap.size w ((w.alloc (Obj.cells a.arr 42)).alloc (Obj.cells b.arr 42)) := ((Below.refl _ _).alloc (Nat.le_refl _) _).alloc (by simp) _
  have HA := Lib.hid hA
  have HB := Lib.hid hB
  clear hA hB
  go_enter Try.func70, Try.ntmps70
  go_wp2_with (first | (refine wpList_load_row rfl 42 (.tmp 2) rfl _ rfl _ _ _ _ HA.out Try.underlying42 rfl (snap_cells a ha) ?_) | (refine wpList_load_row rfl 42 (.tmp 3) rfl _ rfl _ _ _ _ HB.out Try.underlying42 rfl (snap_cells b hb) ?_) | fail)
  refine (snap_compare a b ha hb _).mono ?_
  rintro e w' ⟨rfl, hb'⟩
  go_wp2
  go_ret
  exact ⟨rfl, hba.trans (hb'.mono (by simp; omega))⟩

end Go.Proofs.Ytfpcgancmgeagaa
