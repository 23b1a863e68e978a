/- Contract of the document's Less of two snapshots. -/
import Derived.Test.YtfpcgancmgeagaaRefB
namespace Go.Proofs.Ytfpcgancmgeagaa
open Go.RowKit

theorem cmpB_zero0 : ∀ {a b : List UInt8}, Lib.compareBytes a b = 0 → a = b
  | [], [], _ => rfl
  | [], _ :: _, h => by unfold Lib.compareBytes at h; omega
  | _ :: _, [], h => by unfold Lib.compareBytes at h; omega
  | x :: a, y :: b, h => by
    unfold Lib.compareBytes at h
    simp only [UInt8.lt_iff_toNat_lt] at h
    split at h
    · omega
    · split at h
      · omega
      · have e : x = y := UInt8.toNat_inj.1 (by omega)
        rw [e, cmpB_zero0 h]
theorem cmpB_same0 (a : List UInt8) : Lib.compareBytes a a = 0 := by have := compareBytes_anti a a; omega
theorem cmpInt_zero {a b : Int} : cmpInt a b = 0 ↔ a = b := by unfold cmpInt; split <;> (try split) <;> omega
theorem cmpInt_neg {a b : Int} : cmpInt a b < 0 ↔ a < b := by unfold cmpInt; split <;> (try split) <;> omega
theorem cmpStr_neg {a b : ByteArray} : cmpStr a b < 0 ↔ Op.bytesLess a.toList b.toList = true := by
  unfold cmpStr
  cases Op.bytesLess a.toList b.toList <;> simp <;> split <;> omega
theorem cmpStr_zero {a b : ByteArray} : cmpStr a b = 0 ↔ a.toList = b.toList := by
  rw [cmpStr_eq]
  exact ⟨cmpB_zero0, fun h => by rw [h]; exact cmpB_same0 _⟩
theorem orInt_z {x : Int} {l : List Int} (h : x = 0) : orInt (x :: l) = orInt l := by simp [orInt, h]
theorem orInt_n {x : Int} {l : List Int} (h : x ≠ 0) : orInt (x :: l) = x := by simp [orInt, h]

theorem sn_time {a b : Sn} (h : a.time ≠ b.time) : decide (snapCmp a b < 0) = decide (a.time < b.time) := by
  unfold snapCmp
  rw [orInt_n (fun e => h (cmpInt_zero.1 e)), decide_eq_decide]
  exact cmpInt_neg
theorem sn_host {a b : Sn} (h : a.time = b.time) (h1 : (a.host.toList == b.host.toList) = false) : decide (snapCmp a b < 0) = Op.bytesLess a.host.toList b.host.toList := by
  unfold snapCmp
  rw [orInt_z (cmpInt_zero.2 h), orInt_n (fun e => by rw [cmpStr_zero.1 e] at h1; simp at h1), Bool.eq_iff_iff, decide_eq_true_eq]
  exact cmpStr_neg
theorem sn_tag {a b : Sn} (h : a.time = b.time) (h1 : (a.host.toList == b.host.toList) = true) (h2 : (a.tag.toList == b.tag.toList) = false) : decide (snapCmp a b < 0) = Op.bytesLess a.tag.toList b.tag.toList := by
  unfold snapCmp
  rw [orInt_z (cmpInt_zero.2 h), orInt_z (cmpStr_zero.2 (beq_iff_eq.1 h1)), orInt_n (fun e => by rw [cmpStr_zero.1 e] at h2; simp at h2), Bool.eq_iff_iff, decide_eq_true_eq]
  exact cmpStr_neg
theorem sn_root {a b : Sn} (h : a.time = b.time) (h1 : (a.host.toList == b.host.toList) = true) (h2 : (a.tag.toList == b.tag.toList) = true) (h3 : a.root ≠ b.root) : decide (snapCmp a b < 0) = decide (Lib.compareBytes a.root b.root < 0) := by
  unfold snapCmp
  rw [orInt_z (cmpInt_zero.2 h), orInt_z (cmpStr_zero.2 (beq_iff_eq.1 h1)), orInt_z (cmpStr_zero.2 (beq_iff_eq.1 h2)), orInt_n (fun e => h3 (cmpB_zero0 e))]
theorem sn_files {a b : Sn} (h : a.time = b.time) (h1 : (a.host.toList == b.host.toList) = true) (h2 : (a.tag.toList == b.tag.toList) = true) (h3 : a.root = b.root) (h4 : a.files ≠ b.files) : decide (snapCmp a b < 0) = decide (a.files < b.files) := by
  unfold snapCmp
  rw [orInt_z (cmpInt_zero.2 h), orInt_z (cmpStr_zero.2 (beq_iff_eq.1 h1)), orInt_z (cmpStr_zero.2 (beq_iff_eq.1 h2)), orInt_z (by rw [h3]; exact cmpB_same0 _), orInt_n (fun e => h4 (cmpInt_zero.1 e)), decide_eq_decide]
  exact cmpInt_neg
theorem sn_bytes {a b : Sn} (h : a.time = b.time) (h1 : (a.host.toList == b.host.toList) = true) (h2 : (a.tag.toList == b.tag.toList) = true) (h3 : a.root = b.root) (h4 : a.files = b.files) : decide (snapCmp a b < 0) = decide (a.bytes < b.bytes) := by
  unfold snapCmp
  rw [orInt_z (cmpInt_zero.2 h), orInt_z (cmpStr_zero.2 (beq_iff_eq.1 h1)), orInt_z (cmpStr_zero.2 (beq_iff_eq.1 h2)), orInt_z (by rw [h3]; exact cmpB_same0 _), orInt_z (cmpInt_zero.2 h4), decide_eq_decide]
  unfold orInt
  split
  · rename_i e; have := cmpInt_zero.1 e; unfold orInt; omega
  · exact cmpInt_neg

theorem root_range {w : World} {g : Nat} {t : TypeId} {a : Sn} (h : Blk w g t a.cells) : w.rangeAt g 3 (u8s a.root) := by
  intro j v hv
  rw [h.cell]
  have hj : j < (u8s a.root).length := (List.getElem?_eq_some_iff.1 hv).1
  simp only [Sn.cells]
  rw [List.append_assoc, List.getElem?_append_right (by simp), List.getElem?_append_left (by simpa using hj)]
  simpa using hv
theorem id_size (a : Sn) (h : a.ok) : (Try.prog.info? 40).map (·.size) = some (u8s a.root).length := by rw [u8s_length, h.1]; kernel_rfl

set_option maxHeartbeats 2000000 in
set_option maxRecDepth 100000 in
theorem less_ref (a b : Sn) (ha : a.ok) (hb : b.ok) (w : World) :
    Calls Try.prog 100 #[.agg a.arr, .agg b.arr] w fun e w' => e = .returned (.bool (decide (snapCmp a b < 0))) ∧ Below w.heap.size w w' := by
  obtain ⟨w2, hw2⟩ : ∃ w2, (w.alloc (.cells a.arr 85)).alloc (.cells b.arr 85) = w2 := ⟨_, rfl⟩
  have hb2 : Below w.heap.size w w2 := by rw [← hw2]; exact ((Below.refl _ _).alloc (Nat.le_refl _) _).alloc (by simp) _
  have kA : Blk w2 w.heap.size 85 a.cells := by rw [← hw2]; exact (Blk.new w _ a.cells).alloc _
  have kB : Blk w2 (w.heap.size + 1) 85 b.cells := by rw [← hw2]; have := Blk.new (w.alloc (.cells a.arr 85)) 85 b.cells; rw [World.size_alloc] at this; exact this
  have ca0 : w2.cell? ⟨w.heap.size, 0, none⟩ = some (.int .i64 a.time) := (kA.cell 0).trans (by simp [Sn.cells])
  have ca1 : w2.cell? ⟨w.heap.size, 1, none⟩ = some (.string a.host) := (kA.cell 1).trans (by simp [Sn.cells])
  have ca2 : w2.cell? ⟨w.heap.size, 2, none⟩ = some (.string a.tag) := (kA.cell 2).trans (by simp [Sn.cells])
  have ca5 : w2.cell? ⟨w.heap.size, 35, none⟩ = some (.int .i64 a.files) := (kA.cell 35).trans (by rw [← List.getElem?_toArray]; exact a.arr35 ha)
  have ca6 : w2.cell? ⟨w.heap.size, 36, none⟩ = some (.int .i64 a.bytes) := (kA.cell 36).trans (by rw [← List.getElem?_toArray]; exact a.arr36 ha)
  have cb0 : w2.cell? ⟨w.heap.size + 1, 0, none⟩ = some (.int .i64 b.time) := (kB.cell 0).trans (by simp [Sn.cells])
  have cb1 : w2.cell? ⟨w.heap.size + 1, 1, none⟩ = some (.string b.host) := (kB.cell 1).trans (by simp [Sn.cells])
  have cb2 : w2.cell? ⟨w.heap.size + 1, 2, none⟩ = some (.string b.tag) := (kB.cell 2).trans (by simp [Sn.cells])
  have cb5 : w2.cell? ⟨w.heap.size + 1, 35, none⟩ = some (.int .i64 b.files) := (kB.cell 35).trans (by rw [← List.getElem?_toArray]; exact b.arr35 hb)
  have cb6 : w2.cell? ⟨w.heap.size + 1, 36, none⟩ = some (.int .i64 b.bytes) := (kB.cell 36).trans (by rw [← List.getElem?_toArray]; exact b.arr36 hb)
  have RA := Lib.hid (root_range kA)
  have RB := Lib.hid (root_range kB)
  have HB2 := Lib.hid hb2
  clear kA kB hb2
  subst hw2
  by_cases h0 : a.time = b.time
  · have n0 : (a.time != b.time) = false := by rw [h0]; simp
    cases h1 : (a.host.toList == b.host.toList)
    · have HF := Lib.hid (sn_host h0 h1)
      clear h0
      go_enter Try.func100, Try.ntmps100
      go_wp2
      go_ret
      exact ⟨by rw [HF.out]; rfl, HB2.out⟩
    · cases h2 : (a.tag.toList == b.tag.toList)
      · have HF := Lib.hid (sn_tag h0 h1 h2)
        clear h0
        go_enter Try.func100, Try.ntmps100
        go_wp2
        go_ret
        exact ⟨by rw [HF.out]; rfl, HB2.out⟩
      · have hneq : ∀ W, (binOp .neq 40 (.agg (u8s a.root).toArray) (.agg (u8s b.root).toArray)).run Try.prog W = .ok (.bool (!decide (a.root = b.root))) W := fun W => run_neq_root W a.root b.root ha.1 hb.1
        have hgu : Try.prog.eqGuardType Try.prog.depth 40 = false := by kernel_rfl
        by_cases h3 : a.root = b.root
        · have hd3 : decide (a.root = b.root) = true := decide_eq_true h3
          by_cases h4 : a.files = b.files
          · have n4 : (a.files != b.files) = false := by rw [h4]; simp
            have HF := Lib.hid (sn_bytes h0 h1 h2 h3 h4)
            clear h0 h3 h4
            go_enter Try.func100, Try.ntmps100
            go_wp2_with (first | (refine wpList_load_mid rfl 40 (.tmp 35) rfl w.heap.size 3 rfl (u8s a.root) _ RA.out Try.underlying40 rfl (id_size a ha) ?_) | (refine wpList_load_mid rfl 40 (.tmp 37) rfl (w.heap.size + 1) 3 rfl (u8s b.root) _ RB.out Try.underlying40 rfl (id_size b hb) ?_) | fail)
            go_ret
            exact ⟨by rw [HF.out]; rfl, HB2.out⟩
          · have n4 : (a.files != b.files) = true := by simpa using h4
            have HF := Lib.hid (sn_files h0 h1 h2 h3 h4)
            clear h0 h3 h4
            go_enter Try.func100, Try.ntmps100
            go_wp2_with (first | (refine wpList_load_mid rfl 40 (.tmp 35) rfl w.heap.size 3 rfl (u8s a.root) _ RA.out Try.underlying40 rfl (id_size a ha) ?_) | (refine wpList_load_mid rfl 40 (.tmp 37) rfl (w.heap.size + 1) 3 rfl (u8s b.root) _ RB.out Try.underlying40 rfl (id_size b hb) ?_) | fail)
            go_ret
            exact ⟨by rw [HF.out]; rfl, HB2.out⟩
        · have hd3 : decide (a.root = b.root) = false := decide_eq_false h3
          have HF := Lib.hid (sn_root h0 h1 h2 h3)
          clear h0 h3
          go_enter Try.func100, Try.ntmps100
          go_wp2_with (first | (refine wpList_load_mid rfl 40 (.tmp 35) rfl w.heap.size 3 rfl (u8s a.root) _ RA.out Try.underlying40 rfl (id_size a ha) ?_) | (refine wpList_load_mid rfl 40 (.tmp 37) rfl (w.heap.size + 1) 3 rfl (u8s b.root) _ RB.out Try.underlying40 rfl (id_size b hb) ?_) | (refine wpList_load_mid rfl 40 (.tmp 40) rfl w.heap.size 3 rfl (u8s a.root) _ RA.out Try.underlying40 rfl (id_size a ha) ?_) | (refine wpList_load_mid rfl 40 (.tmp 42) rfl (w.heap.size + 1) 3 rfl (u8s b.root) _ RB.out Try.underlying40 rfl (id_size b hb) ?_) | fail)
          refine (less_root a.root b.root ha.1 hb.1 _).mono ?_
          rintro e w3 ⟨rfl, hb3⟩
          go_wp2
          go_ret
          exact ⟨by rw [HF.out]; rfl, HB2.out.trans (hb3.mono HB2.out.size)⟩
  · have n0 : (a.time != b.time) = true := by simpa using h0
    have HF := Lib.hid (sn_time h0)
    clear h0
    go_enter Try.func100, Try.ntmps100
    go_wp2
    go_ret
    exact ⟨by rw [HF.out]; rfl, HB2.out⟩

end Go.Proofs.Ytfpcgancmgeagaa
