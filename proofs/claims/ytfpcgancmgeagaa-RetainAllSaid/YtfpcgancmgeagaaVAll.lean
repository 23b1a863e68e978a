/- snap.Sort, as far as its last one; two snapshots held against each other by ==; which one is the last. -/
import Derived.Test.YtfpcgancmgeagaaVSortE
namespace Go.Proofs.Ytfpcgancmgeagaa
open Go.RowKit

/-- Whether two snapshots are one. -/
def eqSn (a b : Sn) : Bool := if a.time == b.time then if a.host.toList == b.host.toList then if a.tag.toList == b.tag.toList then if decide (a.root = b.root) then if a.files == b.files then a.bytes == b.bytes else false else false else false else false else false
theorem eqSn_self (a : Sn) : eqSn a a = true := by simp [eqSn]

theorem run_root (w : World) (d : Nat) (a b : List UInt8) (ha : a.length = 32) (hb : b.length = 32) :
    (Op.equalIn (d + 2) 40 (.agg (u8s a).toArray) (.agg (u8s b).toArray)).run Try.prog w = .ok (decide (a = b)) w := by
  obtain ⟨i, hi⟩ := info_u8
  have h := run_equalIn_array (P := Try.prog) w (d + 1) (u8s a).toArray (u8s b).toArray Try.underlying40 hi
  rw [show d + 2 = (d + 1) + 1 from rfl, h, A_cells_u8, List.range_eq_range', run_items w d a b 32 0 (by omega) (by omega)]
  simp
theorem plain_i64 : Try.prog.plainKey 2 = true := by kernel_rfl
theorem plain_int : Try.prog.plainKey 3 = true := by kernel_rfl
theorem plain_str : Try.prog.plainKey 9 = true := by kernel_rfl
theorem size_id : ∃ i, Try.prog.info? 40 = some i ∧ i.size = 32 := by
  have h : (Try.prog.info? 40).map (·.size) = some 32 := by kernel_rfl
  cases hq : Try.prog.info? 40 with
  | none => rw [hq] at h; cases h
  | some i => exact ⟨i, rfl, by rw [hq] at h; simpa using h⟩
set_option maxRecDepth 100000 in
theorem part_root (w : World) (a : Sn) (ha : a.ok) : (part 40 a.arr 3).run Try.prog w = .ok (.agg (u8s a.root).toArray) w := by
  obtain ⟨i, hi, hs⟩ := size_id
  have hagg : (isAgg 40).run Try.prog w = .ok true w := by
    unfold isAgg
    rw [Sem.run_bind, run_underlying Try.underlying40 w]
    rfl
  simp only [part, Sem.run_bind, hagg, Result.andThen_ok, if_true, run_sizeOf w hi, A_cells_root, Sem.run_pure]
  congr 2
  apply Array.toList_inj.1
  rw [Array.toList_extract]
  simp only [Sn.arr, Sn.cells, List.extract_eq_take_drop, Nat.add_sub_cancel_left]
  rw [List.append_assoc]
  exact List.take_left' (by rw [u8s_length, ha.1])

theorem eqF_step {P : Program} {w : World} {d : Nat} {xs ys : Array Value} {f : Field} {fs : List Field} {a b : Value} {r : Bool} (hn : f.name ≠ "_") (h1 : (part f.type xs f.offset).run P w = .ok a w) (h2 : (part f.type ys f.offset).run P w = .ok b w)
    (h3 : (Op.equalIn d f.type a b).run P w = .ok r w) : (Op.eqFields d xs ys (f :: fs)).run P w = if r then (Op.eqFields d xs ys fs).run P w else .ok false w := by
  rw [Op.eqFields, if_pos hn]
  simp only [Sem.run_bind, h1, h2, h3, Result.andThen_ok]
  cases r <;> simp

set_option maxRecDepth 100000 in
theorem run_equal_snap (w : World) (d : Nat) (a b : Sn) (ha : a.ok) (hb : b.ok) : (Op.equalIn (d + 3) 42 (.agg a.arr) (.agg b.arr)).run Try.prog w = .ok (eqSn a b) w := by
  have hf := Try.underlying42
  rw [show d + 3 = (d + 2) + 1 from rfl, run_equalIn_struct w (d + 2) 42 a.arr b.arr (by unfold Program.fieldsOf; rw [hf]) (by kernel_rfl)]
  unfold Program.fieldsOf
  rw [hf]
  have P0 := run_part_plain w plain_i64 a.arr0
  have P0' := run_part_plain w plain_i64 b.arr0
  have P1 := run_part_plain w plain_str a.arr1
  have P1' := run_part_plain w plain_str b.arr1
  have P2 := run_part_plain w plain_str a.arr2
  have P2' := run_part_plain w plain_str b.arr2
  have P3 := part_root w a ha
  have P3' := part_root w b hb
  have P4 := run_part_plain w plain_int (a.arr35 ha)
  have P4' := run_part_plain w plain_int (b.arr35 hb)
  have P5 := run_part_plain w plain_i64 (a.arr36 ha)
  have P5' := run_part_plain w plain_i64 (b.arr36 hb)
  have E0 := run_equalIn_int w (d + 1) 2 .i64 .i64 a.time b.time Try.underlying2
  have E1 := run_equalIn_string w (d + 1) 9 a.host b.host Try.underlying9
  have E2 := run_equalIn_string w (d + 1) 9 a.tag b.tag Try.underlying9
  have E3 := run_root w d a.root b.root ha.1 hb.1
  have E4 := run_equalIn_int w (d + 1) 3 .i64 .i64 a.files b.files Try.underlying3
  have E5 := run_equalIn_int w (d + 1) 2 .i64 .i64 a.bytes b.bytes Try.underlying2
  show (Op.eqFields (d + 2) a.arr b.arr [_, _, _, _, _, _]).run Try.prog w = _
  have S0 := fun fs => eqF_step (P := Try.prog) (w := w) (d := d + 2) (xs := a.arr) (ys := b.arr) (f := ⟨"Time", 2, 0, false, "", "", 0⟩) (fs := fs) (by decide) P0 P0' E0
  have S1 := fun fs => eqF_step (P := Try.prog) (w := w) (d := d + 2) (xs := a.arr) (ys := b.arr) (f := ⟨"Host", 9, 1, false, "", "", 8⟩) (fs := fs) (by decide) P1 P1' E1
  have S2 := fun fs => eqF_step (P := Try.prog) (w := w) (d := d + 2) (xs := a.arr) (ys := b.arr) (f := ⟨"Tag", 9, 2, false, "", "", 24⟩) (fs := fs) (by decide) P2 P2' E2
  have S3 := fun fs => eqF_step (P := Try.prog) (w := w) (d := d + 2) (xs := a.arr) (ys := b.arr) (f := ⟨"Root", 40, 3, false, "", "", 40⟩) (fs := fs) (by decide) P3 P3' E3
  have S4 := fun fs => eqF_step (P := Try.prog) (w := w) (d := d + 2) (xs := a.arr) (ys := b.arr) (f := ⟨"Files", 3, 35, false, "", "", 72⟩) (fs := fs) (by decide) P4 P4' E4
  have S5 := fun fs => eqF_step (P := Try.prog) (w := w) (d := d + 2) (xs := a.arr) (ys := b.arr) (f := ⟨"Bytes", 2, 36, false, "", "", 80⟩) (fs := fs) (by decide) P5 P5' E5
  rw [S0, S1, S2, S3, S4, S5]
  unfold eqSn Op.eqFields
  rw [Sem.run_pure]
  cases (a.time == b.time) <;> cases (a.host.toList == b.host.toList) <;> cases (a.tag.toList == b.tag.toList) <;> cases decide (a.root = b.root) <;> cases (a.files == b.files) <;> cases (a.bytes == b.bytes) <;> rfl
theorem run_eq_snap (w : World) (a b : Sn) (ha : a.ok) (hb : b.ok) : (binOp .eql 42 (.agg a.arr) (.agg b.arr)).run Try.prog w = .ok (.bool (eqSn a b)) w := by
  have h := run_equal_snap w 9997 a b ha hb
  rw [run_eql_struct]
  generalize hk : (9997 + 3 : Nat) = k at h
  have hk' : k = 10000 := hk.symm
  subst hk'
  rw [h, Result.andThen_ok]

end Go.Proofs.Ytfpcgancmgeagaa
