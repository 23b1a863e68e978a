/- Contracts of retain.floor, retain.above and retain.Days. -/
import Derived.Test.YtfpcgancmgeagaaOrder
import Derived.Test.YtfpcgancmgeagaaShelf
import Derived.Sort.OwnSortedInts
namespace Go.Proofs.Ytfpcgancmgeagaa
open Go.RowKit

theorem ediv_of_tdiv_neg (t d : Int) (hd : 0 < d) (h : t.tmod d < 0) : t.tdiv d - 1 = t / d := by
  rw [Int.tdiv_eq_ediv]
  have h1 := Int.tmod_eq_emod (a := t) (b := d)
  have h2 := Int.emod_nonneg t (by omega : d ≠ 0)
  by_cases hc : 0 ≤ t ∨ d ∣ t
  · rw [if_pos hc] at h1; omega
  · rw [if_neg hc]; have : d.sign = 1 := Int.sign_eq_one_of_pos hd; omega
theorem ediv_of_tdiv (t d : Int) (hd : 0 < d) (h : ¬ t.tmod d < 0) : t.tdiv d = t / d := by
  rw [Int.tdiv_eq_ediv]
  have h1 := Int.tmod_eq_emod (a := t) (b := d)
  have h2 := Int.emod_lt_of_pos t hd
  by_cases hc : 0 ≤ t ∨ d ∣ t
  · rw [if_pos hc]; omega
  · rw [if_neg hc] at h1
    have h3 : ((d.natAbs : Nat) : Int) = d := by omega
    omega

theorem ediv_in64 (t d : Int) (ht : In64 t) (h1 : 1 ≤ d) : In64 (t / d) := by
  obtain ⟨a, b⟩ := ht
  constructor
  · by_cases h : 0 ≤ t
    · have := Int.ediv_nonneg h (by omega : 0 ≤ d); omega
    · have h2 : t ≤ t / d := by
        rw [Int.le_ediv_iff_mul_le (by omega)]
        have : t * d ≤ t * 1 := Int.mul_le_mul_of_nonpos_left (by omega) h1
        omega
      omega
  · by_cases h : 0 ≤ t
    · have := Int.ediv_le_self d h; omega
    · have := Int.ediv_neg_of_neg_of_pos (by omega : t < 0) (by omega : 0 < d); omega

set_option maxRecDepth 100000 in
theorem floor_any (t day : Int) (ht : In64 t) (h1 : 1 ≤ day) (h2 : day ≤ 9223372036854775807) (w : World) :
    Calls Try.prog 41 #[.int .i64 t, .int .i64 day] w fun e w' => e = .returned (.int .i64 (t / day)) ∧ w = w' := by
  have hq := ediv_in64 t day ht h1
  obtain ⟨ht1, ht2⟩ := ht
  by_cases h : t.tmod day < 0
  · have HE := Lib.hid (ediv_of_tdiv_neg t day (by omega) h)
    have HW : Hid (wrap64 (t.tdiv day - 1) = t / day) := by
      rw [HE.out]; exact IntWalk.wrap64_in _ hq
    clear hq
    go_enter Try.func41, Try.ntmps41
    go_wp2
    go_ret
    exact ⟨by rw [← HW.out]; rfl, rfl⟩
  · have HE := Lib.hid (ediv_of_tdiv t day (by omega) h)
    clear hq
    go_enter Try.func41, Try.ntmps41
    go_wp2
    go_ret
    exact ⟨by rw [← HE.out]; rfl, rfl⟩

theorem wrap_u64' (x : Int) : IntKind.u64.wrap x = x % 18446744073709551616 := by simp [IntKind.wrap, IntKind.bits, IntKind.signed]
def aboveB (t last less : Int) : Bool := decide (0 < less ∧ last - t < less)
set_option maxRecDepth 100000 in
theorem above_any (t last less : Int) (ht : In64 t) (hl : In64 last) (hs : In64 less) (hle : t ≤ last) (w : World) :
    Calls Try.prog 34 #[.int .i64 t, .int .i64 last, .int .i64 less] w fun e w' => e = .returned (.bool (aboveB t last less)) ∧ w = w' := by
  obtain ⟨ht1, ht2⟩ := ht
  obtain ⟨hl1, hl2⟩ := hl
  obtain ⟨hs1, hs2⟩ := hs
  by_cases h : 0 < less
  · have hd : decide (less > 0) = true := decide_eq_true h
    have HW : Hid (IntKind.u64.wrap (IntKind.u64.wrap last - IntKind.u64.wrap t) = last - t ∧ IntKind.u64.wrap less = less) := by
      rw [wrap_u64' (IntKind.u64.wrap last - IntKind.u64.wrap t), wrap_u64' last, wrap_u64' t, wrap_u64' less, ← Int.sub_emod]
      exact ⟨Int.emod_eq_of_lt (by omega) (by omega), Int.emod_eq_of_lt (by omega) (by omega)⟩
    go_enter Try.func34, Try.ntmps34
    go_wp2
    go_ret
    exact ⟨by simp only [aboveB, h, true_and]; rw [← HW.out.1]; rfl, rfl⟩
  · have hd : decide (less > 0) = false := decide_eq_false (by omega)
    go_enter Try.func34, Try.ntmps34
    go_wp2
    go_ret
    exact ⟨by rw [show aboveB t last less = false from decide_eq_false (fun x => by omega)]; rfl, rfl⟩

/-! the library's sort, reverse and compact over a row of the call's own -/
open Go.Sort in
theorem dat_holds {w : World} {g : Nat} {t : TypeId} {rest : List Value} {xs : List Int} (h : Dat w g t rest xs) : Holds (Value.int .i64) w g 0 xs.toArray := fun j hj => by
  have hj' : j < xs.length := by simpa using hj
  rw [Nat.zero_add, h.cell j hj']
  refine ⟨?_, Blk.frozen h j⟩
  rw [getElem!_pos xs.toArray j hj]
  simp [List.getD_eq_getElem?_getD, List.getElem?_eq_getElem hj']
open Go.Sort in
theorem dat_put {w : World} {g : Nat} {t : TypeId} {rest : List Value} {xs ys : List Int} (h : Dat w g t rest xs) (hl : ys.length = xs.length) (n : Nat) (os : Array Obj) :
    Dat (grow (putRow (Value.int .i64) (Sort.ahead w n) g 0 ys.toArray) os) g t rest ys ∧ Mod (· = g) w (grow (putRow (Value.int .i64) (Sort.ahead w n) g 0 ys.toArray) os) := by
  constructor
  · have := heap_sortedI (n := n) (os := os) ys.toArray h
    unfold Dat Blk
    rw [this]
    congr 2
    apply Array.ext_getElem?
    intro j
    simp only [putCells, Array.getElem?_mapIdx, List.getElem?_toArray]
    by_cases hj : j < ys.length
    · rw [List.getElem?_append_left (by simp; omega), List.getElem?_append_left (by simp; omega)]
      simp [hj, show j < xs.length by omega, getElem!_pos ys.toArray j (by simpa using hj)]
    · rw [List.getElem?_append_right (by simp; omega), List.getElem?_append_right (by simp; omega)]
      simp [hj, hl, show ¬ j < xs.length by omega]
  · have hg := grownBy_sortedI (w := w) (g := g) (n := n) (os := os) ys.toArray
    exact ⟨hg.os, hg.tape, hg.output, hg.size, fun k hk hn => hg.block k hk (fun e => hn (by injection e))⟩
theorem compact_length (zs : List Int) : (Lib.compact zs).length ≤ zs.length := by
  unfold Lib.compact Lib.compactUpTo
  rw [List.length_map]
  exact Nat.le_trans (List.length_filter_le _ _) (by simp)

theorem sort_i64 (g cap : Nat) (t : TypeId) (rest : List Value) (xs : List Int) (w : World) (hn : xs.length ≤ 1073741824) (h : Dat w g t rest xs) :
    Calls Try.prog 42 #[.slice (some ⟨g, 0, none⟩) xs.length cap] w fun e w' => e = .returned (.tuple #[]) ∧ Dat w' g t rest (xs.mergeSort fun x y => decide (x ≤ y)) ∧ Mod (· = g) w w' := by
  have := AnyG.slices_Sort_int Try.sortI64 g 0 cap xs w (dat_holds h) (Blk.lt h) (by omega)
  change Calls Try.prog 42 _ _ _ at this
  refine this.mono ?_
  rintro e w' ⟨rfl, n, os, rfl⟩
  exact ⟨rfl, dat_put h (by simp) n os⟩
theorem reverse_i64 (g cap : Nat) (t : TypeId) (rest : List Value) (xs : List Int) (w : World) (hn : xs.length ≤ 1073741824) (h : Dat w g t rest xs) :
    Calls Try.prog 43 #[.slice (some ⟨g, 0, none⟩) xs.length cap] w fun e w' => e = .returned (.tuple #[]) ∧ Dat w' g t rest xs.reverse ∧ Mod (· = g) w w' := by
  have := AnyG.slices_Reverse_int Try.revI64 g 0 cap xs w (dat_holds h) (by omega)
  change Calls Try.prog 43 _ _ _ at this
  refine this.mono ?_
  rintro e w' ⟨rfl, n, rfl⟩
  have := dat_put h (ys := xs.reverse) (by simp) n #[]
  rw [Go.Sort.grow_empty] at this
  exact ⟨rfl, this⟩
theorem compact_i64 (g cap : Nat) (t : TypeId) (rest : List Value) (xs : List Int) (w : World) (hn : xs.length ≤ 1073741824) (hc : xs.length ≤ cap) (h : Dat w g t rest xs) :
    Calls Try.prog 44 #[.slice (some ⟨g, 0, none⟩) xs.length cap] w fun e w' => e = .returned (.slice (some ⟨g, 0, none⟩) (Lib.compact xs).length cap) ∧
      (∃ rest', rest'.length + (Lib.compact xs).length = rest.length + xs.length ∧ Dat w' g t rest' (Lib.compact xs)) ∧ Mod (· = g) w w' := by
  have := AnyG.slices_Compact_int Try.compactI64 g 0 cap xs w (dat_holds h) (by omega) hc
  change Calls Try.prog 44 _ _ _ at this
  refine this.mono ?_
  rintro e w' ⟨rfl, n, rfl⟩
  have hl := compact_length xs
  have := dat_put h (ys := Lib.compact xs ++ List.replicate (xs.length - (Lib.compact xs).length) 0) (by simp; omega) n #[]
  rw [Go.Sort.grow_empty] at this
  refine ⟨rfl, ⟨(List.replicate (xs.length - (Lib.compact xs).length) (0 : Int)).map (Value.int .i64) ++ rest, by simp; omega, ?_⟩, this.2⟩
  have h1 := this.1
  unfold Dat at h1 ⊢
  rw [List.map_append, List.append_assoc] at h1
  exact h1

theorem cells_one (a : Sn) : a.arr.all (·.oneCell') = true := by
  rw [Array.all_eq_true_iff_forall_mem]
  intro v hv
  simp only [Sn.arr, Sn.cells, List.mem_toArray, List.mem_append, u8s, List.mem_map] at hv
  rcases hv with (h | ⟨b, _, rfl⟩) | h
  · simp at h; rcases h with rfl | rfl | rfl <;> rfl
  · rfl
  · simp at h; rcases h with rfl | rfl <;> rfl

/-- The days that have a snapshot, falling, each once. -/
def dayRow (xs : List Sn) (day : Int) : List Int := xs.map fun s => s.time / day
def daysL (xs : List Sn) (day : Int) : List Int := if day < 1 then [] else Lib.compact ((dayRow xs day).mergeSort fun x y => decide (x ≤ y)).reverse

theorem dayRow_succ (xs : List Sn) (day : Int) (k : Nat) (h : k < xs.length) : dayRow (xs.take (k + 1)) day = dayRow (xs.take k) day ++ [(xs.getD k default).time / day] := by
  unfold dayRow
  rw [List.take_succ_eq_append_getElem h, List.map_append]
  simp [List.getD_eq_getElem?_getD, List.getElem?_eq_getElem h]
theorem dayRow_length (xs : List Sn) (day : Int) : (dayRow xs day).length = xs.length := by simp [dayRow]

theorem A_info_i64 : (Try.prog.info? 2).map (fun i => (i.zero, i.size, i.bytes)) = some (some (.int .i64 0), 1, 8) := by kernel_rfl

theorem days_none (A : Option Addr) (n c : Nat) (day : Int) (h : day < 1) (w : World) :
    Calls Try.prog 16 #[.slice A n c, .int .i64 day] w fun e w' => e = .returned (.slice none 0 0) ∧ w = w' := by
  go_enter Try.func16, Try.ntmps16
  go_wp2
  go_ret
  exact ⟨rfl, rfl⟩

/-- A row of the call's own whose block is known. -/
structure IRow (w : World) (base : Nat) (e : TypeId) (v : Value) (xs : List Int) : Prop where
  own : w.ownsRow base e 1 v xs.length (xs.map (Value.int .i64))

set_option maxHeartbeats 1000000 in
set_option maxRecDepth 100000 in
theorem days_some (xs : List Sn) (A : Option Addr) (c : Nat) (day : Int) (h1 : 1 ≤ day) (h2 : day ≤ 9223372036854775807) (w : World) (hlen : xs.length ≤ 1073741824) (h : SnsAt w A xs) :
    Calls Try.prog 16 #[.slice A xs.length c, .int .i64 day] w fun e w' => ∃ v, e = .returned v ∧ w'.ownsRow w.heap.size 2 1 v (daysL xs day).length ((daysL xs day).map (Value.int .i64)) ∧ Below w.heap.size w w' := by
  obtain ⟨i0, hi, hz0, hz1, hz2⟩ := info_parts A_info_i64
  have HS := Lib.hid h
  clear h
  go_enter Try.func16, Try.ntmps16
  go_wp2_with fail
  go_loopw [5, 7, 12] (fun v _ i wr => ∃ k : Nat, k ≤ xs.length ∧ i = .int .i64 k ∧ Hid (wr.ownsRow w.heap.size 2 1 v k ((dayRow (xs.take k) day).map (Value.int .i64)) ∧ Below w.heap.size w wr)) (fun _ _ i _ => xs.length - (intOf i).toNat)
  case atStart => exact ⟨0, Nat.zero_le _, by go_num, ⟨World.ownsRow_nil _ _ _ _, Below.refl _ _⟩⟩
  case round =>
    obtain ⟨k, hk, rfl, HK⟩ := hrel
    by_cases hlt : k < xs.length
    · have hltz : (k : Int) < (xs.length : Int) := by omega
      obtain ⟨b, o, rfl, hblt, hr, hok⟩ := HS.out k hlt
      have HR : Hid (wr.rangeAt b (o + k * 37) (xs.getD k default).cells) := rangeAt_below hr HK.out.2 hblt
      have HT : Hid (dayRow (xs.take (k + 1)) day = dayRow (xs.take k) day ++ [(xs.getD k default).time / day]) := dayRow_succ xs day k hlt
      clear hr
      generalize xs.getD k default = x at *
      have HK2 := HK
      go_wp2_with (first | (refine wpList_load_mid rfl 42 (.tmp 14) rfl b (o + k * 37) rfl x.cells _ HR.out Try.underlying42 rfl (snap_cells' x hok) ?_) | (refine wpList_store_row rfl 42 (.tmp 7) (.tmp 15) rfl wr.heap.size x.arr rfl rfl 42 _ (Blk.new _ _ _) (snap_cells x hok) (by rw [x.size hok]; rfl) (cells_one x) ?_; intro w2 hm2 hb2; have hc0 : w2.cell? ⟨wr.heap.size, 0, none⟩ = some (.int .i64 x.time) := (hb2.cell 0).trans (by simpa using x.arr0); have HM2 := Lib.hid hm2; have HB2 := Lib.hid hb2; clear hm2 hb2) | fail)
      refine (floor_any x.time day hok.2.1 h1 h2 _).mono ?_
      rintro e w3 ⟨rfl, rfl⟩
      have HW : Hid (Below w.heap.size w w2 ∧ w2.ownsRow w.heap.size 2 1 u5 k ((dayRow (xs.take k) day).map (Value.int .i64))) := by
        have hb1 : Below wr.heap.size wr w2 := ((Below.refl _ _).alloc (Nat.le_refl _) _).trans (HM2.out.belowB (by simp) (fun j hj e => by omega))
        exact ⟨HK2.out.2.trans (hb1.mono HK2.out.2.size), own_below HK2.out.1 hb1 (Nat.le_refl _)⟩
      clear hc0 HM2 HB2 HK HK2
      go_wp2_with (at_builtin; refine wpList_append_own _ rfl _ _ 33 rfl w.heap.size 2 i0 (.int .i64 0) 1 8 Try.underlying33 hi hz0 hz1 hz2 rfl (by decide) _ _ _ rfl (HW.out.2.alloc _) ⟨w2.heap.size, 0, none⟩ 1 1 [.int .i64 (x.time / day)] rfl rfl ?c1 ?c2 ?c3 ?c4 ?c5 ?_)
      case c1 => exact cell_one_new _ _ _
      case c2 => simp [Value.oneCell']
      case c3 => unfold maxLen; omega
      case c4 => omega
      case c5 => have := HW.out.1.size; simp; omega
      intro v' w4 hown' hgrow _
      have HN : Hid (w4.ownsRow w.heap.size 2 1 v' (k + 1) ((dayRow (xs.take (k + 1)) day).map (Value.int .i64)) ∧ Below w.heap.size w w4) := by
        refine ⟨by rw [HT.out, List.map_append]; exact hown', ?_⟩
        exact (HW.out.1.alloc HW.out.1.size _).grown hgrow (by have := HW.out.1.size; simp; omega) (fun j hj => (HW.out.2.lt j hj).1)
      clear hown' hgrow HW HT
      go_wp2
      go_roundw
      case rel => exact ⟨k + 1, by omega, by go_num, HN⟩
      case measure => simp [intOf]; omega
    · obtain rfl : k = xs.length := by omega
      have hltz : ¬ (xs.length : Int) < (xs.length : Int) := by omega
      have hk2 := HK.out
      rw [List.take_length] at hk2
      obtain ⟨hown, hbel⟩ := hk2
      have hlr := dayRow_length xs day
      rcases Nat.eq_zero_or_pos xs.length with h0 | h0
      · obtain ⟨A', c', hv⟩ := own_zero hown h0
        have HO : Hid (wr.ownsRow w.heap.size 2 1 (.slice A' 0 c') (daysL xs day).length ((daysL xs day).map (Value.int .i64)) ∧ Below w.heap.size w wr) := by
          have e0 : dayRow xs day = [] := List.eq_nil_of_length_eq_zero (by omega)
          have e1 : daysL xs day = [] := by unfold daysL; rw [if_neg (by omega), e0]; simp [Lib.compact, Lib.compactUpTo]
          rw [e0, hv, h0] at hown
          rw [e1]
          exact ⟨hown, hbel⟩
        have HZ := Lib.hid h0
        clear hown hbel HK h0 hlr
        subst hv
        rw [HZ.out] at *
        go_wp2_with fail
        refine (AnyG.slices_Sort_int_none Try.sortI64 _ _ _ : Calls Try.prog 42 _ _ _).mono ?_
        rintro _ w1 ⟨rfl, hw1⟩
        obtain rfl := hw1
        go_wp2_with fail
        refine (AnyG.slices_Reverse_int_empty Try.revI64 _ _ _ : Calls Try.prog 43 _ _ _).mono ?_
        rintro _ w2 ⟨rfl, hw2⟩
        obtain rfl := hw2
        go_wp2_with fail
        refine (AnyG.slices_Compact_int_empty Try.compactI64 _ _ _ : Calls Try.prog 44 _ _ _).mono ?_
        rintro _ w3 ⟨rfl, hw3⟩
        obtain rfl := hw3
        go_wp2
        go_ret
        exact ⟨_, rfl, HO.out⟩
      · obtain ⟨g, cap, rest, hv, hg, hnc, hcm, hrest, hdat⟩ := own_dat hown h0
        have HD := Lib.hid hdat
        have HB := Lib.hid hbel
        have HL := Lib.hid hlr
        clear hown hbel HK hdat hlr
        subst hv
        have hs := sort_i64 g cap 2 rest (dayRow xs day) wr (by rw [HL.out]; exact hlen) HD.out
        rw [HL.out] at hs
        have HS1 := Lib.hid hs
        clear hs
        go_wp2_with fail
        refine HS1.out.mono ?_
        rintro _ w1 ⟨rfl, hd1, hm1⟩
        have hs := reverse_i64 g cap 2 rest ((dayRow xs day).mergeSort fun x y => decide (x ≤ y)) w1 (by rw [List.length_mergeSort, HL.out]; exact hlen) hd1
        rw [List.length_mergeSort, HL.out] at hs
        have HS2 := Lib.hid hs
        have HM1 := Lib.hid hm1
        clear hs hd1 hm1 HS1
        go_wp2_with fail
        refine HS2.out.mono ?_
        rintro _ w2 ⟨rfl, hd2, hm2⟩
        have hs := compact_i64 g cap 2 rest ((dayRow xs day).mergeSort fun x y => decide (x ≤ y)).reverse w2 (by rw [List.length_reverse, List.length_mergeSort, HL.out]; exact hlen) (by rw [List.length_reverse, List.length_mergeSort, HL.out]; exact hnc) hd2
        rw [List.length_reverse, List.length_mergeSort, HL.out] at hs
        have hE : Lib.compact ((dayRow xs day).mergeSort fun x y => decide (x ≤ y)).reverse = daysL xs day := by unfold daysL; rw [if_neg (by omega)]
        rw [hE] at hs
        have HS3 := Lib.hid hs
        have HM2 := Lib.hid (HM1.out.trans hm2)
        clear hs hd2 hm2 HS2 HM1 hE
        go_wp2_with fail
        refine HS3.out.mono ?_
        rintro _ w3 ⟨rfl, ⟨rest', hr1, hd3⟩, hm3⟩
        have HF : Hid (w3.ownsRow w.heap.size 2 1 (.slice (some ⟨g, 0, none⟩) (daysL xs day).length cap) (daysL xs day).length ((daysL xs day).map (Value.int .i64)) ∧ Below w.heap.size w w3) :=
          ⟨dat_own hd3 hg rfl (by omega) hcm, HB.out.trans ((HM2.out.trans hm3).belowB HB.out.size (fun j hj e => by omega))⟩
        clear hr1 hd3 hm3 HS3 HM2
        go_wp2
        go_ret
        exact ⟨_, rfl, HF.out⟩

end Go.Proofs.Ytfpcgancmgeagaa
