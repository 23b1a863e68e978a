/- Slices of snapshots that the call builds itself: rows of 37 cells an element. -/
import Derived.Test.YtfpcgancmgeagaaOpen
import Derived.Test.YtfpcgancmgeagaaBuild
namespace Go.Proofs.Ytfpcgancmgeagaa
open Go.RowKit

theorem Sn.len (s : Sn) (h : s.ok) : s.cells.length = 37 := by have := s.size h; simpa [Sn.arr] using this
theorem flat_len : ∀ (xs : List Sn), (∀ s ∈ xs, s.ok) → (xs.flatMap Sn.cells).length = xs.length * 37
  | [], _ => rfl
  | s :: xs, h => by
    rw [List.flatMap_cons, List.length_append, s.len (h s (List.mem_cons_self ..)), flat_len xs (fun t ht => h t (List.mem_cons_of_mem _ ht)), List.length_cons]
    omega
theorem flat_cell : ∀ (xs : List Sn), (∀ s ∈ xs, s.ok) → ∀ i j, i < xs.length → j < 37 → (xs.flatMap Sn.cells)[i * 37 + j]? = (xs.getD i default).cells[j]?
  | [], _, i, _, hi, _ => by simp at hi
  | s :: xs, h, 0, j, _, hj => by
    rw [List.flatMap_cons, Nat.zero_mul, Nat.zero_add, List.getElem?_append_left (by rw [s.len (h s (List.mem_cons_self ..))]; exact hj)]
    rfl
  | s :: xs, h, i + 1, j, hi, hj => by
    rw [List.flatMap_cons, List.getElem?_append_right (by rw [s.len (h s (List.mem_cons_self ..))]; omega), s.len (h s (List.mem_cons_self ..)), show (i + 1) * 37 + j - 37 = i * 37 + j by omega,
      flat_cell xs (fun t ht => h t (List.mem_cons_of_mem _ ht)) i j (by simpa using hi) hj]
    rfl

/-- **What the call has built reads as a slice of snapshots.** -/
theorem own_sns {w : World} {base : Nat} {v : Value} {xs : List Sn} (hok : ∀ s ∈ xs, s.ok) (h : w.ownsRow base 42 37 v xs.length (xs.flatMap Sn.cells)) :
    ∃ A c, v = .slice A xs.length c ∧ SnsAt w A xs := by
  rcases h.2 with ⟨rfl, h0⟩ | ⟨g, cap, cur, rfl, hb, hg, hn, hc, hs, ht⟩
  · exact ⟨none, 0, by rw [h0], fun i hi => by omega⟩
  · refine ⟨_, _, rfl, fun i hi => ⟨g, 0, rfl, (Array.getElem?_eq_some_iff.1 hg).1, fun j u hj => ?_, hok _ (by rw [List.getD_eq_getElem?_getD, List.getElem?_eq_getElem hi]; exact List.getElem_mem _)⟩⟩
    have hso := hok (xs.getD i default) (by rw [List.getD_eq_getElem?_getD, List.getElem?_eq_getElem hi]; exact List.getElem_mem _)
    have hj37 : j < 37 := by have := (List.getElem?_eq_some_iff.1 hj).1; rw [Sn.len _ hso] at this; exact this
    show w.cell? ⟨g, 0 + i * 37 + j, none⟩ = some u
    have h1 := flat_cell xs hok i j hi hj37
    rw [hj, ← ht, List.getElem?_take] at h1
    have h2 : w.cell? ⟨g, 0 + i * 37 + j, none⟩ = cur[i * 37 + j]? := by simp [World.cell?, hg]
    rw [h2]
    split at h1
    · simpa using h1
    · cases h1

theorem A_info_snap : ∃ z, (Try.prog.info? 42).map (fun i => (i.zero, i.size, i.bytes)) = some (some z, 37, 88) ∧ z.cells.size = 37 := ⟨.agg (Sn.arr ⟨0, ⟨#[]⟩, ⟨#[]⟩, List.replicate 32 0, 0, 0⟩), by kernel_rfl, by kernel_rfl⟩

theorem A_info_rsnap : ∃ z, (Try.prog.info? 85).map (fun i => (i.zero, i.size, i.bytes)) = some (some z, 37, 88) ∧ z.cells.size = 37 := ⟨.agg (Sn.arr ⟨0, ⟨#[]⟩, ⟨#[]⟩, List.replicate 32 0, 0, 0⟩), by kernel_rfl, by kernel_rfl⟩
theorem cells_new (w : World) (x : Sn) (t : TypeId) : ∀ j u, x.cells[j]? = some u → (w.alloc (.cells x.arr t)).cell? ((⟨w.heap.size, 0, none⟩ : Addr).add j) = some u := by
  intro j u hj
  rw [Addr.add_mid, Nat.zero_add]
  have := (Blk.new w t x.cells).cell j
  exact this.trans hj
theorem cells_ok (x : Sn) : ∀ u ∈ x.cells, u.oneCell' = true := by
  intro u hu
  have := cells_one x
  rw [Array.all_eq_true_iff_forall_mem] at this
  exact this u (by simpa [Sn.arr] using hu)
theorem own_round {w wr w2 : World} {e : TypeId} {size k : Nat} {v : Value} {cs : List Value} {o : Obj} (h : wr.ownsRow w.heap.size e size v k cs) (hb : Below w.heap.size w wr) (hm : Mod (· = wr.heap.size) (wr.alloc o) w2) : Below w.heap.size w w2 ∧ w2.ownsRow w.heap.size e size v k cs := by
  have hb1 : Below wr.heap.size wr w2 := ((Below.refl _ _).alloc (Nat.le_refl _) _).trans (hm.belowB (by simp) (fun j hj e => by omega))
  exact ⟨hb.trans (hb1.mono hb.size), own_below h hb1 (Nat.le_refl _)⟩
theorem take_flat (xs : List Sn) (k : Nat) (h : k < xs.length) : (xs.take (k + 1)).flatMap Sn.cells = (xs.take k).flatMap Sn.cells ++ (xs.getD k default).cells := by
  rw [List.take_succ_eq_append_getElem h, List.flatMap_append]
  simp [List.getD_eq_getElem?_getD, List.getElem?_eq_getElem h]

set_option maxHeartbeats 1000000 in
set_option maxRecDepth 100000 in
/-- The law's as: the same rows under the document's own type. -/
theorem as_any (xs : List Sn) (A : Option Addr) (c : Nat) (w : World) (hlen : xs.length ≤ 1073741824) (h : SnsAt w A xs) :
    Calls Try.prog 15 #[.slice A xs.length c] w fun e w' => ∃ v, e = .returned v ∧ w'.ownsRow w.heap.size 85 37 v xs.length (xs.flatMap Sn.cells) ∧ Below w.heap.size w w' := by
  obtain ⟨z, hinfo, hz⟩ := A_info_rsnap
  obtain ⟨i0, hi, hz0, hz1, hz2⟩ := info_parts hinfo
  have HS := Lib.hid h
  clear h hinfo
  go_enter Try.func15, Try.ntmps15
  go_wp2_with fail
  go_loopw [3, 9] (fun v i wr => ∃ k : Nat, k ≤ xs.length ∧ i = .int .i64 k ∧ Hid (wr.ownsRow w.heap.size 85 37 v k ((xs.take k).flatMap Sn.cells) ∧ Below w.heap.size w wr)) (fun _ i _ => xs.length - (intOf i).toNat)
  case atStart =>
    refine ⟨0, Nat.zero_le _, by go_num, ?_, (Below.refl _ _).alloc (Nat.le_refl _) _⟩
    exact ⟨rfl, .inr ⟨w.heap.size, 0, #[], rfl, Nat.le_refl _, World.alloc_heap_new w _, Nat.le_refl _, by decide, rfl, rfl⟩⟩
  case round =>
    obtain ⟨k, hk, rfl, HK⟩ := hrel
    by_cases hlt : k < xs.length
    · have hltz : (k : Int) < (xs.length : Int) := by omega
      obtain ⟨b, o, rfl, hblt, hr, hok⟩ := HS.out k hlt
      have HR : Hid (wr.rangeAt b (o + k * 37) (xs.getD k default).cells) := rangeAt_below hr HK.out.2 hblt
      have HT := Lib.hid (take_flat xs k hlt)
      clear hr
      generalize xs.getD k default = x at *
      have hcl := x.len hok
      go_wp2_with (first | (refine wpList_load_mid rfl 42 (.tmp 11) rfl b (o + k * 37) rfl x.cells _ HR.out Try.underlying42 rfl (snap_cells' x hok) ?_) | (refine wpList_store_row rfl 42 (.tmp 5) (.tmp 12) rfl wr.heap.size x.arr rfl rfl 42 _ (Blk.new _ _ _) (snap_cells x hok) (by rw [x.size hok]; rfl) (cells_one x) ?_; intro w2 hm2 hb2; have HM2 := Lib.hid hm2; have HB2 := Lib.hid hb2; clear hm2 hb2) | (refine wpList_load_row rfl 42 (.tmp 5) rfl _ rfl _ _ _ _ HB2.out Try.underlying42 rfl (snap_cells x hok) ?_) | (refine wpList_build_one rfl 29 85 (.tmp 14) rfl x.arr rfl i0 z 37 Try.underlying29 hi hz0 hz1 (x.size hok) (by decide) (by decide) ?_; have HW : Hid (Below w.heap.size w w2 ∧ w2.ownsRow w.heap.size 85 37 u3 k ((xs.take k).flatMap Sn.cells)) := (own_round HK.out.1 HK.out.2 HM2.out)) | (at_builtin; refine wpList_append_own _ rfl _ _ 29 rfl w.heap.size 85 i0 z 37 88 Try.underlying29 hi hz0 hz1 hz2 hz (by decide) _ _ _ rfl (HW.out.2.alloc _) ⟨w2.heap.size, 0, none⟩ 1 1 x.cells rfl (by rw [hcl]) (cells_new _ _ _) (cells_ok x) (by unfold maxLen; omega) (by omega) (by have := HW.out.1.size; simp; omega) ?_) | fail)
      intro v' w4 hown' hgrow _
      have HN : Hid (w4.ownsRow w.heap.size 85 37 v' (k + 1) ((xs.take (k + 1)).flatMap Sn.cells) ∧ Below w.heap.size w w4) := by
        refine ⟨by rw [HT.out]; exact hown', ?_⟩
        exact (HW.out.1.alloc HW.out.1.size _).grown hgrow (by have := HW.out.1.size; simp; omega) (fun j hj => (HW.out.2.lt j hj).1)
      clear hown' hgrow HW HT HK HM2 HB2 HR
      go_wp2
      go_roundw
      case rel => exact ⟨k + 1, by omega, by go_num, HN⟩
      case measure => simp [intOf]; omega
    · obtain rfl : k = xs.length := by omega
      have hltz : ¬ (xs.length : Int) < (xs.length : Int) := by omega
      rw [List.take_length] at HK
      go_wp2
      go_ret
      exact ⟨_, rfl, HK.out⟩

end Go.Proofs.Ytfpcgancmgeagaa
