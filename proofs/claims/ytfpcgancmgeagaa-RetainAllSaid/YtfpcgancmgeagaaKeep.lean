/- Contract of retain.Keep: a row of its own that tells of each snapshot whether it is kept. -/
import Derived.Test.YtfpcgancmgeagaaByDays
import Derived.Test.YtfpcgancmgeagaaPre
namespace Go.Proofs.Ytfpcgancmgeagaa
open Go.RowKit Go.Shelf
attribute [local go_sem] Oper.semAt_some

def aboveW (t last less : Int) : Bool := decide (0 < less ∧ (last - t) % 18446744073709551616 < less)
set_option maxRecDepth 100000 in
theorem above_wrap (t last less : Int) (hs : In64 less) (w : World) :
    Calls Try.prog 34 #[.int .i64 t, .int .i64 last, .int .i64 less] w fun e w' => e = .returned (.bool (aboveW t last less)) ∧ w = w' := by
  obtain ⟨hs1, hs2⟩ := hs
  by_cases h : 0 < less
  · have hd : decide (less > 0) = true := decide_eq_true h
    have HW : Hid (IntKind.u64.wrap (IntKind.u64.wrap last - IntKind.u64.wrap t) = (last - t) % 18446744073709551616 ∧ IntKind.u64.wrap less = less) := by
      rw [wrap_u64' (IntKind.u64.wrap last - IntKind.u64.wrap t), wrap_u64' last, wrap_u64' t, wrap_u64' less, ← Int.sub_emod]
      exact ⟨rfl, Int.emod_eq_of_lt (by omega) (by omega)⟩
    go_enter Try.func34, Try.ntmps34
    go_wp2
    go_ret
    refine ⟨?_, rfl⟩
    simp only [aboveW, h, true_and]
    rw [← HW.out.1]
    rfl
  · have hd : decide (less > 0) = false := decide_eq_false (by omega)
    go_enter Try.func34, Try.ntmps34
    go_wp2
    go_ret
    exact ⟨by rw [show aboveW t last less = false from decide_eq_false (fun x => by omega)]; rfl, rfl⟩

theorem A_info_bool : (Try.prog.info? 4).map (fun i => (i.zero, i.size, i.bytes)) = some (some (.bool false), 1, 1) := by kernel_rfl

theorem one_cell {w : World} {p : Addr} {v : Value} (h : w.cell? p = some v) (q : In (fun W' => W' = w.drew)) : q.world.cell? p = some v := by rw [q.ok]; exact h

theorem made_bools (n : Nat) : madeCells (Value.bool false).cells n = (bools (List.replicate n false)).toArray := by
  apply Array.ext_getElem?
  intro j
  by_cases hj : j < n
  · simp [madeCells, bools, Value.cells, hj, Nat.mod_one]
  · simp [madeCells, bools, Value.cells, hj]

theorem make_bools (n : Nat) (hn : n ≤ 1073741824) (W : World) : (Instr.makeSlice 26 (.int .i64 n) (.int .i64 n)).run Try.prog W = .ok (.slice (some ⟨W.heap.size, 0, none⟩) n n) (W.alloc (.cells (bools (List.replicate n false)).toArray 4)) := by
  obtain ⟨i0, hi, hz0, hz1, hz2⟩ := info_parts A_info_bool
  have h := run_make (P := Try.prog) W 26 4 i0 (.bool false) Try.underlying26 hi hz0 .i64 .i64 n n (by omega) (Int.le_refl _) (by rw [hz2]; omega) (by omega)
  rw [hz1, Int.toNat_natCast, Nat.mul_one, made_bools] at h
  exact h

/-- Whether a snapshot is kept by its place, its nearness or its tag. -/
def keepAt (xs : List Sn) (p : Pol) (ys : List Int) (x : Nat × Int) : Bool :=
  decide ((xs.length : Int) - x.1 ≤ max p.last 0) || (aboveW (xs.getD x.2.toNat default).time (xs.getD (ys.getD (xs.length - 1) 0).toNat default).time p.within || (!p.tag.toList.isEmpty && (xs.getD x.2.toNat default).tag.toList == p.tag.toList))
def firsts (xs : List Sn) (p : Pol) (ys : List Int) (pre : List (Nat × Int)) : List Bool := pre.foldl (fun ks x => ks.set x.2.toNat (keepAt xs p ys x)) (List.replicate xs.length false)
theorem firsts_snoc (xs : List Sn) (p : Pol) (ys : List Int) (pre : List (Nat × Int)) (x : Nat × Int) : firsts xs p ys (pre ++ [x]) = (firsts xs p ys pre).set x.2.toNat (keepAt xs p ys x) := by
  unfold firsts; rw [List.foldl_append]; rfl
theorem firsts_length (xs : List Sn) (p : Pol) (ys : List Int) (pre : List (Nat × Int)) : (firsts xs p ys pre).length = xs.length := by
  unfold firsts
  have : ∀ (pre : List (Nat × Int)) (ks : List Bool), (pre.foldl (fun ks x => ks.set x.2.toNat (keepAt xs p ys x)) ks).length = ks.length := by
    intro pre
    induction pre with
    | nil => intro ks; rfl
    | cons x pre ih => intro ks; rw [List.foldl_cons, ih]; simp
  rw [this]; simp
def keepL (xs : List Sn) (p : Pol) : List Bool := markAll xs (order xs) p.day (firsts xs p (order xs) (backs (order xs) xs.length)) ((daysL xs p.day).take (max p.days 0).toNat)
theorem keepL_length (xs : List Sn) (p : Pol) : (keepL xs p).length = xs.length := by unfold keepL; rw [markAll_length, firsts_length]

set_option maxHeartbeats 1000000 in
set_option maxRecDepth 100000 in
theorem keep_any (xs : List Sn) (A : Option Addr) (c : Nat) (p : Pol) (hp : p.ok) (w : World) (hlen : xs.length ≤ 1073741824) (h : SnsAt w A xs) :
    CallsIn Fence.wide 101 Try.prog 13 #[.slice A xs.length c, .agg p.cells.toArray] w fun e w' =>
      e = .returned (.slice (some ⟨w.heap.size + 2, 0, none⟩) xs.length xs.length) ∧ Below w.heap.size w w' ∧ Blk w' (w.heap.size + 2) 4 (bools (keepL xs p)) := by
  have HS := Lib.hid h
  have HP := Lib.hid hp
  have hmake := make_bools xs.length hlen
  obtain ⟨w4, hw4⟩ : ∃ w4, (((w.alloc (.cells #[.slice A xs.length c] 22)).alloc (.cells #[.int .i64 p.last, .int .i64 p.days, .int .i64 p.day, .int .i64 p.within, .string p.tag] 24)).alloc (.cells (bools (List.replicate xs.length false)).toArray 4)).alloc (.cells #[.slice (some ⟨w.heap.size + 1 + 1, 0, none⟩) xs.length xs.length] 26) = w4 := ⟨_, rfl⟩
  have hsz4 : w4.heap.size = w.heap.size + 4 := by rw [← hw4]; simp
  have hb4 : Below w.heap.size w w4 := by rw [← hw4]; exact ((((Below.refl _ w).alloc (Nat.le_refl _) _).alloc (by simp) _).alloc (by simp; omega) _).alloc (by simp; omega) _
  have k0 : Blk w4 w.heap.size 22 [.slice A xs.length c] := by rw [← hw4]; exact (((Blk.new w _ _).alloc _).alloc _).alloc _
  have k1 : Blk w4 (w.heap.size + 1) 24 [.int .i64 p.last, .int .i64 p.days, .int .i64 p.day, .int .i64 p.within, .string p.tag] := by
    rw [← hw4]; have := ((Blk.new (w.alloc (.cells #[.slice A xs.length c] 22)) 24 [.int .i64 p.last, .int .i64 p.days, .int .i64 p.day, .int .i64 p.within, .string p.tag]).alloc (.cells (bools (List.replicate xs.length false)).toArray 4)).alloc (.cells #[.slice (some ⟨w.heap.size + 1 + 1, 0, none⟩) xs.length xs.length] 26); rw [World.size_alloc] at this; exact this
  have k2 : Blk w4 (w.heap.size + 1 + 1) 4 (bools (List.replicate xs.length false)) := by
    rw [← hw4]; have := (Blk.new ((w.alloc (.cells #[.slice A xs.length c] 22)).alloc (.cells #[.int .i64 p.last, .int .i64 p.days, .int .i64 p.day, .int .i64 p.within, .string p.tag] 24)) 4 (bools (List.replicate xs.length false))).alloc (.cells #[.slice (some ⟨w.heap.size + 1 + 1, 0, none⟩) xs.length xs.length] 26); rw [World.size_alloc, World.size_alloc] at this; exact this
  have k3 : Blk w4 (w.heap.size + 1 + 1 + 1) 26 [.slice (some ⟨w.heap.size + 1 + 1, 0, none⟩) xs.length xs.length] := by
    rw [← hw4]; have := Blk.new (((w.alloc (.cells #[.slice A xs.length c] 22)).alloc (.cells #[.int .i64 p.last, .int .i64 p.days, .int .i64 p.day, .int .i64 p.within, .string p.tag] 24)).alloc (.cells (bools (List.replicate xs.length false)).toArray 4)) 26 [.slice (some ⟨w.heap.size + 1 + 1, 0, none⟩) xs.length xs.length]; rw [World.size_alloc, World.size_alloc, World.size_alloc] at this; exact this
  have H4 := Lib.hid (And.intro hsz4 (And.intro hb4 (And.intro k0 (And.intro k1 (And.intro k2 k3)))))
  have HORD := Lib.hid (order_any xs A c w4 hlen (h.below hb4))
  have HW4 := Lib.hid hw4
  clear h hp k0 k1 k2 k3 hb4 hsz4 hw4
  simp only [Pol.cells]
  refine callsIn_of_wp_marks Try.func13 rfl trivial ?_ rfl
  simp only [Try.ntmps13, List.size_toArray, List.length_cons, List.length_nil, Nat.reduceAdd, Nat.reduceSub, Array.replicate_succ, Array.replicate_zero, List.push_toArray, List.append_toArray, List.nil_append, List.cons_append]
  gi_wp2_with fail
  rw [HW4.out]
  refine ⟨trivial, (callsIn_wide.2 HORD.out).mono ?_⟩
  rintro e w5 ⟨v, rfl, hown, hbel⟩
  obtain ⟨GA, ca, rfl, hGA⟩ := own_any hown
  clear hmake HW4 HORD
  have horl := order_length xs
  generalize hys : order xs = ys at *
  obtain ⟨ga, hgalt, hgane, hga⟩ : ∃ ga, ga < w5.heap.size ∧ ga ≠ w.heap.size + 1 + 1 ∧ (0 < xs.length → GA = some ⟨ga, 0, none⟩ ∧ ∃ rest, Dat w5 ga 3 rest ys) := by
    rcases Nat.eq_zero_or_pos xs.length with h0 | h0
    · exact ⟨w.heap.size, by have := hbel.size; have := H4.out.1; omega, by omega, fun h => by omega⟩
    · obtain ⟨g, rest, h1, h2, h3⟩ := hGA h0
      exact ⟨g, (h3 : Blk _ _ _ _).lt, by have := H4.out.1; omega, fun _ => ⟨h1, rest, h3⟩⟩
  clear hown hGA
  gi_wp2_with fail
  refine ⟨trivial, (callsIn_wide.2 (backward_val _ _ _ _)).mono ?_⟩
  rintro e W1 ⟨rfl, hW1⟩
  have hsz : W1.heap.size = w5.heap.size + 2 := by rw [hW1]; simp
  have hal : Below w5.heap.size w5 W1 := by rw [hW1]; exact ((Below.refl _ w5).alloc (Nat.le_refl _) _).alloc (by simp) _
  have hbox : Blk W1 w5.heap.size 32 [.slice GA xs.length ca] := by rw [hW1]; exact (Blk.new w5 _ _).alloc _
  have hbk : Blk W1 (w5.heap.size + 1) 32 [.slice GA xs.length ca] := by rw [hW1]; have := Blk.new (w5.alloc (.cells #[.slice GA xs.length ca] 32)) 32 [.slice GA xs.length ca]; rwa [World.size_alloc] at this
  have hbs : (w5.alloc (.cells #[.slice GA xs.length ca] 32)).heap.size = w5.heap.size + 1 := by simp
  rw [hbs]
  have h41 : Below w4.heap.size w4 W1 := hbel.trans (hal.mono hbel.size)
  have hga1 : 0 < xs.length → GA = some ⟨ga, 0, none⟩ ∧ ∃ rest, Dat W1 ga 3 rest ys := fun h => ⟨(hga h).1, (hga h).2.choose, ((hga h).2.choose_spec : Blk _ _ _ _).below hal hgalt⟩
  have hw4 := H4.out.1
  have hkc : Blk W1 (w.heap.size + 1 + 1) 4 (bools (List.replicate xs.length false)) := H4.out.2.2.2.2.1.below h41 (by omega)
  have HX := Lib.hid (And.intro hsz (And.intro hbox (And.intro hbk (And.intro h41 (And.intro hga1 hkc)))))
  have h51 := hbel.size
  clear hsz hal hbox hbk hbs hW1 hbel h41 hga hga1 hkc
  gi_wp2_with fail
  refine wpIn_rangeFunc_ownG (n := 101) (S := fun zs => zs.map Subtype.val = backs ys xs.length) (Sp := fun pre => pre.map Subtype.val <+: backs ys xs.length) rfl (by decide) (gf := 71) (lb := #[.pointer (some ⟨w5.heap.size + 1, 0, none⟩)]) rfl trivial (enters_of Try.func71 (by kernel_rfl) rfl)
    (backward_stops (w5.heap.size + 1) GA ga xs.length ca ys hlen W1 (by rw [HX.out.1]; omega) (fun _ => by rw [HX.out.1]; omega) (HX.out.2.2.1.cell 0) (fun h => (HX.out.2.2.2.2.1 h).1) (fun j hj => dat_cell (HX.out.2.2.2.2.1 (by omega)).2.choose_spec (by omega))) keepTwo_t (keepTwo_b (by rw [HX.out.1]; omega) (by rw [HX.out.1]; omega)) (Below.refl _ _) (fun _ => rfl)
    (fun pre W => Mod (· = w.heap.size + 1 + 1) W1 W ∧ Blk W (w.heap.size + 1 + 1) 4 (bools (firsts xs p ys (pre.map Subtype.val))))
    (fun _ _ _ => False)
    (fun s A B row hs hg hr => ⟨hs.1.grown hg (fun k e hk => by have := (hr k e).1; omega), (hg.block _ hs.2.lt (fun e => by have := (hr _ e.symm).1; have := HX.out.1; omega)).trans hs.2⟩)
    (fun _ _ _ _ _ hs _ _ => hs)
    ⟨Mod.refl _ _, HX.out.2.2.2.2.2⟩
    (fun x => { tmps := #[Value.slice A xs.length c, Value.agg #[.int .i64 p.last, .int .i64 p.days, .int .i64 p.day, .int .i64 p.within, .string p.tag], Value.pointer (some ⟨w.heap.size, 0, none⟩), Value.pointer (some ⟨w.heap.size + 1, 0, none⟩), Value.slice none 0 0, Value.pointer (some ⟨w.heap.size + 1 + 1 + 1, 0, none⟩), Value.pointer (some ⟨w5.heap.size, 0, none⟩), .int .i64 x.1.1, .int .i64 x.1.2, undef, Value.slice A xs.length c, Value.int .i64 ↑xs.length, Value.slice (some ⟨w.heap.size + 1 + 1, 0, none⟩) xs.length xs.length, Value.slice A xs.length c, Value.slice GA xs.length ca, Value.slice GA xs.length ca, .func (.func 71) #[] #[.pointer (some ⟨w5.heap.size + 1, 0, none⟩)], .int .i64 x.1.1, .int .i64 x.1.2, undef, undef, undef, undef, undef, undef, undef, undef, undef, undef, undef, undef, undef, undef, undef, undef, undef, undef, undef, undef, undef, undef, undef, undef, undef, undef, undef, undef, undef, undef, undef, undef, undef, undef, undef, undef, undef, undef, undef, undef, undef, undef, undef, undef, undef, undef, undef, undef, undef, undef], defers := [] }) ?assign ?body ?done ?stop
  case assign =>
    intro l x W K hK
    gi_wp2
    exact hK
  case body =>
    rintro l pre x W ⟨hmW, hkW⟩ _
    have hx := x.2
    obtain ⟨hx1, hx2⟩ := hx
    have hpos : 0 < xs.length := by omega
    obtain ⟨rfl, rest, hdat1⟩ := HX.out.2.2.2.2.1 hpos
    have hy := (mem_order (xs := xs) (y := x.1.2)).1 (by rw [hys, hx2, List.getD_eq_getElem?_getD, List.getElem?_eq_getElem (by omega)]; exact List.getElem_mem _)
    obtain ⟨hy0, hyn⟩ := hy
    have hyn' : x.1.2.toNat < xs.length := by omega
    obtain ⟨z, hz⟩ : ∃ z, ys.getD (xs.length - 1) 0 = z := ⟨_, rfl⟩
    have hzz := (mem_order (xs := xs) (y := z)).1 (by rw [hys, ← hz, List.getD_eq_getElem?_getD, List.getElem?_eq_getElem (by omega)]; exact List.getElem_mem _)
    obtain ⟨hz0, hzn⟩ := hzz
    have hzn' : z.toNat < xs.length := by omega
    have hsz := HX.out.1
    have hWs := hmW.size
    have h4W : Mod (· = w.heap.size + 1 + 1) w4 W := (Mod.of_below HX.out.2.2.2.1 _).trans hmW
    have hbW : Below w.heap.size w W := H4.out.2.1.trans (h4W.belowB (by omega) (fun j hj e => by omega))
    obtain ⟨b, o, rfl, hblt, hr, hok⟩ := HS.out x.1.2.toNat hyn'
    obtain ⟨b', o', he, _, hr', hok'⟩ := HS.out z.toNat hzn'
    obtain ⟨rfl, rfl⟩ : b = b' ∧ o = o' := by simpa using he
    have kb : Blk W w.heap.size 22 _ := H4.out.2.2.1.mod h4W (by omega)
    have HR : Hid (W.rangeAt b (o + x.1.2.toNat * 37) (xs.getD x.1.2.toNat default).cells) := rangeAt_below hr hbW hblt
    have c1 := kb.cell 0
    simp only [List.getElem?_cons_zero] at c1
    have HK1 := Lib.hid (And.intro hx1 (And.intro hx2 (And.intro hmW (And.intro hkW (And.intro hbW (And.intro hr' h4W))))))
    have hKA : Hid (keepAt xs p ys x.1 = (decide ((xs.length : Int) - x.1.1 ≤ max p.last 0) || (aboveW (xs.getD x.1.2.toNat default).time (xs.getD z.toNat default).time p.within || (!p.tag.toList.isEmpty && (xs.getD x.1.2.toNat default).tag.toList == p.tag.toList)))) := by
      show _ = _; rw [← hz]; rfl
    have HZ := Lib.hid hz
    generalize hsx : xs.getD x.1.2.toNat default = sx at *
    generalize hsz' : xs.getD z.toNat default = sz at *
    clear he kb hr hr' hmW hkW hbW h4W hx1 hx2 hz hsx hsz'
    refine wpIn_block (wpIn_seq ?_)
    refine wpIn_region_seq' (by kernel_rfl) (by rintro ⟨a, w, h⟩; exact h) ?_
    go_wp2_with (first | (refine wpList_load_mid rfl 42 (.tmp 21) rfl b (o + x.1.2.toNat * 37) rfl sx.cells _ HR.out Try.underlying42 rfl (snap_cells' sx hok) ?_) | (refine wpList_store_row rfl 42 (.tmp 9) (.tmp 22) rfl W.heap.size sx.arr rfl rfl 42 _ (Blk.new _ _ _) (snap_cells sx hok) (by rw [sx.size hok]; rfl) (cells_one sx) ?_; intro w2 hm2 hb2; have HM2 := Lib.hid hm2; have HB2 := Lib.hid hb2; clear hm2 hb2) | fail)
    obtain ⟨hx1, hx2, hmW, hkW, hbW, hr', h4W⟩ := HK1.out
    have hWW : Below W.heap.size W w2 := ((Below.refl _ W).alloc (Nat.le_refl _) _).trans (HM2.out.belowB (by simp) (fun j hj e => by omega))
    have hb2 : Below w.heap.size w w2 := hbW.trans (hWW.mono hbW.size)
    have h42 : Mod (· = w.heap.size + 1 + 1) w4 w2 := h4W.trans (Mod.of_below hWW _)
    have h12 : Mod (· = w.heap.size + 1 + 1) W1 w2 := hmW.trans (Mod.of_below hWW _)
    have kb : Blk w2 w.heap.size 22 _ := H4.out.2.2.1.mod h42 (by omega)
    have kp : Blk w2 (w.heap.size + 1) 24 _ := H4.out.2.2.2.1.mod h42 (by omega)
    have kk : Blk w2 (w.heap.size + 1 + 1 + 1) 26 _ := H4.out.2.2.2.2.2.mod h42 (by omega)
    have ka : Blk w2 w5.heap.size 32 _ := HX.out.2.1.mod h12 (by omega)
    have kg : Blk w2 (w.heap.size + 1 + 1) 4 _ := hkW.below hWW hkW.lt
    have kd : Dat w2 ga 3 rest ys := (hdat1 : Blk _ _ _ _).mod h12 hgane
    have c1 := kb.cell 0
    have c2 := kp.cell 0
    have c3 := kp.cell 3
    have c4 := kp.cell 4
    have c5 := kk.cell 0
    have c6 := ka.cell 0
    have c7 := dat_cell kd (j := xs.length - 1) (by omega)
    have c8 : w2.cell? ⟨b, o + z.toNat * 37, none⟩ = some (.int .i64 sz.time) := (rangeAt_below hr' hb2 hblt) 0 _ rfl
    have c9 : w2.cell? ⟨W.heap.size, 0, none⟩ = some (.int .i64 sx.time) := (HB2.out.cell 0).trans (by simpa using sx.arr0)
    have c10 : w2.cell? ⟨W.heap.size, 2, none⟩ = some (.string sx.tag) := (HB2.out.cell 2).trans (by simpa using sx.arr2)
    have c11 : ∃ u, w2.cell? ⟨w.heap.size + 1 + 1, x.1.2.toNat, none⟩ = some u := ⟨_, by rw [kg.cell, List.getElem?_eq_getElem (by unfold bools; rw [List.length_map, firsts_length]; exact hyn')]⟩
    obtain ⟨u, c11⟩ := c11
    have f11 := kg.frozen x.1.2.toNat
    simp only [List.getElem?_cons_zero, List.getElem?_cons_succ] at c1 c2 c3 c4 c5 c6
    rw [HZ.out] at c7
    have HM : Hid (Mod (· = w.heap.size + 1 + 1) W1 w2 ∧ Blk w2 (w.heap.size + 1 + 1) 4 (bools (firsts xs p ys (pre.map Subtype.val))) ∧ Below W.heap.size W w2) := ⟨h12, kg, hWW⟩
    have hs1 : IntKind.i64.wrap ((xs.length : Int) - (x.1.1 : Int)) = (xs.length : Int) - x.1.1 := by rw [IntKind.wrap_i64]; omega
    have hs2 : IntKind.i64.wrap ((xs.length : Int) - 1) = (xs.length : Int) - 1 := by rw [IntKind.wrap_i64]; omega
    have hs3 : ((xs.length : Int) - 1).toNat = xs.length - 1 := by omega
    have hs4 : (0 : Int) ≤ (xs.length : Int) - 1 := by omega
    have hs5 : (xs.length : Int) - 1 < (xs.length : Int) := by omega
    have HAB : Hid (∀ q : In (fun W' => W' = w2.drew), Calls Try.prog 34 #[.int .i64 sx.time, .int .i64 sz.time, .int .i64 p.within] q.world fun e w'' => e = .returned (.bool (aboveW sx.time sz.time p.within)) ∧ ∃ q' : In (fun W' => W' = w2.drew), w'' = q'.world) := fun q =>
      Calls.into (above_wrap sx.time sz.time p.within HP.out.2.2.2 q.world) fun e w' h => ⟨h.1, h.2 ▸ q.ok⟩
    have hkc : ∀ j, W.heap[j]? ≠ none → j = w.heap.size + 1 + 1 → ∃ cs t fr, W.heap[j]? = some (.cells cs t fr) := fun j _ e => ⟨_, _, _, e ▸ hkW⟩
    have HFIN : Hid (∀ (a : Act) (vb : Bool), keepAt xs p ys x.1 = vb → ownPostG (w5.heap.size + 2) (KeepTwo (w5.heap.size + 1) ga) (fun (pre : List (At ys xs.length)) W => Mod (· = w.heap.size + 1 + 1) W1 W ∧ Blk W (w.heap.size + 1 + 1) 4 (bools (firsts xs p ys (pre.map Subtype.val)))) (fun _ _ _ => False) (pre ++ [x]) W .normal a (w2.setCell ⟨w.heap.size + 1 + 1, x.1.2.toNat, none⟩ (.bool vb)).drew) := by
      intro a vb hvb
      refine ⟨(keepsFrom_below hWW).trans (((KeepsOthers.setCell _ _ _).trans (KeepsOthers.drew _)).from _), ?_, (h12.setCell (p := ⟨w.heap.size + 1 + 1, _, none⟩) (fun _ => rfl) _).drew, ?_⟩
      · have hk2 := keepTwo_below (B := w5.heap.size + 1) (g := ga) (by omega) (by omega) hWW
        exact ⟨(Below.heap_setCell _ ⟨w.heap.size + 1 + 1, _, none⟩ _ _ (by show _ ≠ _; dsimp only; omega)).trans hk2.1, (Below.heap_setCell _ ⟨w.heap.size + 1 + 1, _, none⟩ _ _ (by show _ ≠ _; dsimp only; exact hgane)).trans hk2.2⟩
      · have := (kg.set_ x.1.2.toNat (.bool vb)).drew
        rw [List.map_append, List.map_singleton, firsts_snoc, hvb]
        unfold bools at this ⊢
        rwa [← List.map_set] at this
    have q1 := one_cell c1
    have q2 := one_cell c2
    have q3 := one_cell c3
    have q4 := one_cell c4
    have q5 := one_cell c5
    have q6 := one_cell c6
    have q7 := one_cell c7
    have q8 := one_cell c8
    have q9 := one_cell c9
    have q10 := one_cell c10
    clear kb kp kk ka kg kd hb2 h42 h12 hWW hx1 hx2 hmW hkW hbW hr' h4W HK1 HM2 HB2 HR HM hsz c1 c2 c3 c4 c5 c6 c7 c8 c9 c10 hkc
    gi_wp2_with fail
    refine wpIn_region_quiet_tail 40 (by kernel_rfl) (by rintro ⟨a, w, h⟩; exact h) (by kernel_rfl) (by kernel_rfl) ?_
    simp only [List.take_succ_cons, List.take_zero, List.drop_succ_cons, List.drop_zero]
    by_cases g1 : (xs.length : Int) - (x.1.1 : Int) ≤ max p.last 0
    · have d1 := decide_eq_true g1
      repeat (go_big_quiet_step (exact HAB.out _))
      refine wpQuiet_nil ?_
      clear q1 q2 q3 q4 q5 q6 q7 q8 q9 q10
      go_wp2_with fail
      exact HFIN.out _ true (by rw [hKA.out, d1]; rfl)
    · have d1 := decide_eq_false g1
      by_cases g2 : aboveW sx.time sz.time p.within = true
      · rw [g2] at HAB hKA
        repeat (go_big_quiet_step (exact HAB.out _))
        refine wpQuiet_nil ?_
        clear q1 q2 q3 q4 q5 q6 q7 q8 q9 q10
        go_wp2_with fail
        exact HFIN.out _ true (by rw [hKA.out, d1]; rfl)
      · rw [Bool.not_eq_true] at g2
        rw [g2] at HAB hKA
        cases g3 : p.tag.toList.isEmpty
        · repeat (go_big_quiet_step (exact HAB.out _))
          refine wpQuiet_nil ?_
          clear q1 q2 q3 q4 q5 q6 q7 q8 q9 q10
          go_wp2_with fail
          exact HFIN.out _ (sx.tag.toList == p.tag.toList) (by rw [hKA.out, d1, g3]; simp)
        · repeat (go_big_quiet_step (exact HAB.out _))
          refine wpQuiet_nil ?_
          clear q1 q2 q3 q4 q5 q6 q7 q8 q9 q10
          go_wp2_with fail
          exact HFIN.out _ false (by rw [hKA.out, d1, g3]; rfl)
  case done => 
    rintro D0 zs W hD0 hzs ⟨hm, hblk⟩ hK
    have hsz := HX.out.1
    have hWs := hm.size
    have h4W : Mod (· = w.heap.size + 1 + 1) w4 W := (Mod.of_below HX.out.2.2.2.1 _).trans hm
    have kb : Blk W w.heap.size 22 _ := H4.out.2.2.1.mod h4W (by omega)
    have kp : Blk W (w.heap.size + 1) 24 _ := H4.out.2.2.2.1.mod h4W (by omega)
    have kk : Blk W (w.heap.size + 1 + 1 + 1) 26 _ := H4.out.2.2.2.2.2.mod h4W (by omega)
    have ka : Blk W w5.heap.size 32 _ := HX.out.2.1.mod hm (by omega)
    have hbW : Below w.heap.size w W := H4.out.2.1.trans (h4W.belowB (by omega) (fun j hj e => by omega))
    have hcall := Lib.hid (callsIn_wide.1 (byDays_any xs A c p HP.out w W hlen HS.out hbW (w.heap.size + 1 + 1) ca GA (by omega) ys horl (by rw [← hys]; exact fun y hy => mem_order.1 hy)
      (fun h => ⟨ga, (HX.out.2.2.2.2.1 h).2.choose, (HX.out.2.2.2.2.1 h).1, hgane, ((HX.out.2.2.2.2.1 h).2.choose_spec : Blk _ _ _ _).mod hm hgane⟩)
      (firsts xs p ys (zs.map Subtype.val)) (firsts_length _ _ _ _) hblk))
    have HP2 := Lib.hid kp
    have HK2 := Lib.hid kk
    have c1 := kb.cell 0
    have c2 := kk.cell 0
    have c3 := ka.cell 0
    simp only [List.getElem?_cons_zero] at c1 c2 c3
    clear kb kp kk ka
    have HHK := Lib.hid hK
    have HBW := Lib.hid hbW
    clear hK hbW h4W hm hblk
    simp only [Pol.cells] at hcall
    simp only [Exit.inBlock, Exit.then, ↓reduceIte, Nat.reduceEqDiff]
    gi_step
    refine wpIn_wide.2 ?_
    go_wp2_with (first | (refine wpList_load_row rfl 24 (.tmp 3) rfl _ rfl _ _ _ _ HP2.out Try.underlying24 rfl (by kernel_rfl) ?_) | fail)
    refine hcall.out.mono ?_
    rintro e w6 ⟨rfl, hm6, hk6⟩
    have HM6 := Lib.hid hm6
    have c4 : w6.cell? ⟨w.heap.size + 1 + 1 + 1, 0, none⟩ = some (.slice (some ⟨w.heap.size + 1 + 1, 0, none⟩) xs.length xs.length) := (HK2.out.mod hm6 (by omega)).cell 0
    clear hm6
    go_wp2_with fail
    refine leaves_marks (B := w4.heap.size) _ w6.heap.size _ ⟨D0, rfl, by have := HX.out.1; omega, ?_, ?_, trivial⟩ (fun W' hm' => ?_)
    · exact Nat.lt_of_lt_of_le (Array.getElem?_eq_some_iff.1 HHK.out).1 HM6.out.size
    · rw [HM6.out.block D0 (Array.getElem?_eq_some_iff.1 HHK.out).1 (by have := HX.out.1; omega)]; exact HHK.out
    · refine ⟨_, results_tmp rfl _ _ _, rfl, ?_, ?_⟩
      · refine (HBW.out.trans (HM6.out.belowB HBW.out.size (fun j hj e => by omega))).trans (hm'.belowB ?_ (fun j hj e => by omega))
        exact Nat.le_trans HBW.out.size HM6.out.size
      · have := hk6.mod hm' (by omega)
        rw [hzs] at this
        unfold keepL
        rw [hys]
        exact this
  case stop =>
    rintro D c pre W _ _ h _
    exact h.elim

end Go.Proofs.Ytfpcgancmgeagaa
