/- retain.Gone: an iterator over the places that are not kept, as a range over a function takes it; and the law's own gone. -/
import Derived.Test.YtfpcgancmgeagaaKeep
namespace Go.Proofs.Ytfpcgancmgeagaa
open Go.RowKit Go.Shelf
attribute [local go_sem] Oper.semAt_some

/-- Rows of truth values lie as they lay. -/
def KeepBools (W W' : World) : Prop := ∀ j cs, Blk W j 4 cs → Blk W' j 4 cs
def gonesTo (ks : List Bool) (k : Nat) : List Int := (rng k).filter fun i => !(ks.getD i.toNat true)
theorem gonesTo_succ (ks : List Bool) (k : Nat) : gonesTo ks (k + 1) = gonesTo ks k ++ (if ks.getD k true then [] else [(k : Int)]) := by
  unfold gonesTo
  rw [rng_succ, List.filter_append]
  congr 1
  cases h : ks.getD k true
  · rw [List.getD_eq_getElem?_getD] at h; simp [h]
  · rw [List.getD_eq_getElem?_getD] at h; simp [h]
theorem gonesTo_length (ks : List Bool) (k : Nat) : (gonesTo ks k).length ≤ k := by
  unfold gonesTo
  exact Nat.le_trans (List.length_filter_le _ _) (by rw [rng_length]; exact Nat.le_refl _)
theorem gonesTo_prefix (ks : List Bool) (k : Nat) : ∀ n, k ≤ n → gonesTo ks k <+: gonesTo ks n
  | 0, h => by obtain rfl : k = 0 := by omega
               exact List.prefix_refl _
  | n + 1, h => by
    by_cases e : k = n + 1
    · subst e; exact List.prefix_refl _
    · rw [gonesTo_succ]
      exact (gonesTo_prefix ks k n (by omega)).trans (List.prefix_append _ _)
def gonesL (xs : List Sn) (p : Pol) : List Int := gonesTo (keepL xs p) xs.length

def GonePost (xs : List Sn) (p : Pol) (J Jx : List Int → World → Prop) (e : Ending) (W' : World) : Prop :=
  (∃ v, e = .returned v) ∧ ((∃ zs, zs = gonesL xs p ∧ J zs W') ∨ (∃ pre, pre <+: gonesL xs p ∧ Jx pre W'))

set_option maxRecDepth 100000 in
set_option maxHeartbeats 2000000 in
theorem gone1 (xs : List Sn) (A : Option Addr) (c : Nat) (p : Pol) (hp : p.ok) (hlen : xs.length ≤ 1073741824) (l B : Nat) (J Jx : List Int → World → Prop) (W : World) (h : SnsAt W A xs) (hB : Blk W B 22 [.slice A xs.length c]) (hP : Blk W (B + 1) 24 p.cells)
    (hJ : AbidesFrom W.heap.size J)
    (hY : ∀ pre x W1, J pre W1 → pre.length < xs.length → YieldAt Fence.wide (101 - 1) Try.prog l #[.int .i64 x] W1 fun e W' =>
      (e = .returned (.bool true) ∧ J (pre ++ [x]) W' ∧ KeepBools W1 W') ∨ (e = .returned (.bool false) ∧ Jx (pre ++ [x]) W')) (h0 : J [] W) :
    CallsIn Fence.wide 101 Try.prog 75 #[.func (.yield l) #[] #[], .pointer (some ⟨B, 0, none⟩), .pointer (some ⟨B + 1, 0, none⟩)] W (GonePost xs p J Jx) := by
  have hcall := Lib.hid (callsIn_wide.1 (keep_any xs A c p hp W hlen h))
  have HP := Lib.hid hP
  have c1 := hB.cell 0
  simp only [List.getElem?_cons_zero] at c1
  clear h hB hP hp
  simp only [Pol.cells] at HP hcall
  refine callsIn_of_wp Try.func75 rfl trivial ?_ rfl
  simp only [Try.ntmps75, List.size_toArray, List.length_cons, List.length_nil, Nat.reduceAdd, Nat.reduceSub, Array.replicate_succ, Array.replicate_zero, List.push_toArray, List.append_toArray, List.nil_append, List.cons_append]
  refine wpIn_seq (wpIn_wide.2 ?_)
  go_wp2_with (first | (refine wpList_load_row rfl 24 (.tmp 2) rfl _ rfl _ _ _ _ HP.out Try.underlying24 rfl (by kernel_rfl) ?_) | fail)
  refine hcall.out.mono ?_
  rintro e W2 ⟨rfl, hb2, hk2⟩
  have HK2 : Hid (J [] W2 ∧ Blk W2 (W.heap.size + 2) 4 (bools (keepL xs p))) := ⟨hJ [] W W2 none h0 ⟨hb2.os, hb2.tape, hb2.output, hb2.size, fun k hk _ => hb2.block k hk⟩ (fun r e => by cases e), hk2⟩
  clear hb2 hk2 h0 hcall HP c1
  go_wp2_with fail
  have hkl := keepL_length xs p
  unfold GonePost gonesL
  generalize hks : keepL xs p = ks at *
  gi_wp2_with fail
  gi_loopw [10] (fun i wr => ∃ k : Nat, k ≤ xs.length ∧ i = .int .i64 k ∧ Hid (J (gonesTo ks k) wr ∧ Blk wr (W.heap.size + 2) 4 (bools ks))) (fun i _ => xs.length - (intOf i).toNat)
  case atStart => exact ⟨0, Nat.zero_le _, by go_num, HK2⟩
  case round =>
    obtain ⟨k, hk, rfl, HJ⟩ := hrel
    clear HK2
    by_cases hlt : k < xs.length
    · have hltz : (k : Int) < (xs.length : Int) := by omega
      have hk1 : IntKind.i64.wrap ((k : Int) + 1) = (k : Int) + 1 := by rw [IntKind.wrap_i64]; omega
      have c1 : wr.cell? ⟨W.heap.size + 2, k, none⟩ = some (.bool (ks.getD k true)) := by
        rw [HJ.out.2.cell]; unfold bools; rw [List.getElem?_map, List.getD_eq_getElem?_getD, List.getElem?_eq_getElem (by omega)]; rfl
      have HS := Lib.hid (gonesTo_succ ks k)
      cases hb : ks.getD k true
      · rw [hb] at HS c1
        obtain ⟨fn, tmps, assign, body, hy, hR⟩ := hY _ (k : Int) wr HJ.out.1 (by have := gonesTo_length ks k; omega)
        have HR := Lib.hid hR
        clear hR hb hJ
        gi_wp2
        refine HR.out.mono ?_
        rintro e W3 (⟨rfl, hJ3, hk3⟩ | ⟨rfl, hJx3⟩)
        · have HN : Hid (J (gonesTo ks (k + 1)) W3 ∧ Blk W3 (W.heap.size + 2) 4 (bools ks)) := ⟨by rw [HS.out]; exact hJ3, hk3 _ _ HJ.out.2⟩
          clear hJ3 hk3 HR hy HJ c1 HS
          gi_wp2
          go_roundw
          case rel => exact ⟨k + 1, by omega, by go_num, HN⟩
          case measure => simp [intOf]; omega
        · have HN : Hid (∃ pre, pre <+: gonesTo ks xs.length ∧ Jx pre W3) := ⟨gonesTo ks (k + 1), gonesTo_prefix ks _ _ (by omega), by rw [HS.out]; exact hJx3⟩
          clear hJx3 HR hy HJ c1 HS
          gi_wp2
          refine bodyPost_ret (results_none rfl _ _ _) rfl ?_
          exact ⟨⟨_, rfl⟩, .inr HN.out⟩
      · rw [hb] at HS c1
        have HN : Hid (J (gonesTo ks (k + 1)) wr ∧ Blk wr (W.heap.size + 2) 4 (bools ks)) := ⟨by rw [HS.out]; simpa using HJ.out.1, HJ.out.2⟩
        clear hY HJ HS hb hJ
        gi_wp2
        refine ⟨fun _ h => (by cases h), ?_⟩
        gi_wp2
        go_roundw
        case rel => exact ⟨k + 1, by omega, by go_num, HN⟩
        case measure => simp [intOf]; omega
    · obtain rfl : k = xs.length := by omega
      have hltz : ¬ (xs.length : Int) < (xs.length : Int) := by omega
      clear hY hJ
      gi_wp2
      go_end0
      exact ⟨⟨_, rfl⟩, .inl HJ.out.1⟩

/-- **Gone's function value as a range over a function takes it.** -/
theorem gone_stops (xs : List Sn) (A : Option Addr) (c : Nat) (p : Pol) (hp : p.ok) (hlen : xs.length ≤ 1073741824) (B : Nat) (w : World) (h : SnsAt w A xs) (hB : Blk w B 22 [.slice A xs.length c]) (hP : Blk w (B + 1) 24 p.cells) :
    SeqStopsK Fence.wide 101 Try.prog 75 #[.pointer (some ⟨B, 0, none⟩), .pointer (some ⟨B + 1, 0, none⟩)] (fun x : Int => #[Value.int .i64 x]) KeepBools (fun zs => zs = gonesL xs p) (fun pre => pre <+: gonesL xs p) xs.length w :=
  fun l J Jx W hW hJ _ hY h0 => gone1 xs A c p hp hlen l B J Jx W (h.below hW) (hB.below hW hB.lt) (hP.below hW hP.lt) hJ hY h0

/-- Gone itself: the two arguments are boxed; the function value captures the boxes. -/
theorem gone_val (xs : List Sn) (A : Option Addr) (n c : Nat) (p : Pol) (w : World) : Calls Try.prog 46 #[.slice A n c, .agg p.cells.toArray] w fun e w' => e = .returned (.func (.func 75) #[] #[.pointer (some ⟨w.heap.size, 0, none⟩), .pointer (some ⟨w.heap.size + 1, 0, none⟩)]) ∧ w' = (w.alloc (.cells #[.slice A n c] 22)).alloc (.cells p.cells.toArray 24) := by
  simp only [Pol.cells]
  go_enter Try.func46, Try.ntmps46
  go_wp2
  go_ret
  exact ⟨rfl, rfl⟩

theorem ownsRow_slice {W : World} {base n size : Nat} {e : TypeId} {v : Value} {xs : List Value} (h : W.ownsRow base e size v n xs) : ∃ A k c, v = .slice A k c := by
  rcases h.2 with ⟨rfl, _⟩ | ⟨g, cap, cur, rfl, _⟩
  · exact ⟨_, _, _, rfl⟩
  · exact ⟨_, _, _, rfl⟩
theorem box_below {W W' : World} {B n : Nat} {t : TypeId} {v : Value} (h : Boxed W B t v) (hb : Below n W W') (hl : B < n) : Boxed W' B t v := (hb.block B hl).trans h
/-- A slice's own row is no row of another type. -/
theorem blk_not_row {W : World} {B : Nat} {t e : TypeId} {cs : List Value} (h : Blk W B t cs) (hte : t ≠ e) {base size k : Nat} {v : Value} {xs : List Value} (hr : W.ownsRow base e size v k xs) : some B ≠ v.ownBlock := by
  rcases hr.2 with ⟨rfl, _⟩ | ⟨g, cap, cur, rfl, _, hgb, _⟩
  · simp [Value.ownBlock]
  · intro e'
    obtain rfl : B = g := by simpa [Value.ownBlock] using e'
    have := (show W.heap[B]? = _ from h).symm.trans hgb
    simp at this
    exact hte this.2
theorem keepBools_t {X Y Z : World} (h : KeepBools X Y) (k : KeepBools Y Z) : KeepBools X Z := fun j cs hj => k j cs (h j cs hj)
theorem keepBools_b {w : World} (W : World) (l : Nat) (o o' : Obj) (_ : w.heap.size ≤ l) (ho : W.heap[l]? = some o) (hc : o.isCells = false) (_ : o.isWalk = false) : KeepBools W (W.putObj l o') := fun j cs hj => by
  refine ((grownBy_putObj' W l o').block j hj.lt (fun e => ?_)).trans hj
  cases e
  rw [show W.heap[l]? = _ from hj] at ho
  cases ho
  cases hc
theorem keepBools_below {W W' : World} (h : Below W.heap.size W W') : KeepBools W W' := fun _ _ hj => hj.below h hj.lt

/-- The law's gone: up to so many of them. -/
def goneMost (xs : List Sn) (p : Pol) (most : Int) : List Int := (gonesL xs p).take most.toNat
theorem goneMost_length (xs : List Sn) (p : Pol) (most : Int) : (goneMost xs p most).length ≤ xs.length := by
  unfold goneMost gonesL
  exact Nat.le_trans (by rw [List.length_take]; exact Nat.min_le_right _ _) (gonesTo_length (keepL xs p) xs.length)

/-- What the loop of gone holds between two rounds. -/
def GoneI (n₀ : Nat) (most : Int) (W1 : World) (pre : List Int) (W : World) : Prop :=
  (∃ v, Boxed W (n₀ + 1) 32 v ∧ W.ownsRow n₀ 3 1 v pre.length (pre.map (Value.int .i64))) ∧ (pre.length : Int) < most ∧ Below n₀ W1 W
def GoneX (n₀ : Nat) (most : Int) (W1 : World) (c : Code) (pre : List Int) (W : World) : Prop :=
  c = .ret ∧ (pre.length : Int) = most ∧ (∃ v, Boxed W (n₀ - 1) 32 v ∧ W.ownsRow n₀ 3 1 v pre.length (pre.map (Value.int .i64))) ∧ Below (n₀ - 1) W1 W
theorem row_kept {W W' : World} {row : Option Nat} {n₀ : Nat} {e : TypeId} {v : Value} {k : Nat} {xs : List Value} (hr : W.ownsRow n₀ e 1 v k xs) (hg : W.grownBy W' row) (hrow : ∀ r, row = some r → ∃ o : Obj, W.heap[r]? = some o ∧ o.isCells = false) : W'.ownsRow n₀ e 1 v k xs := by
  refine hr.kept hg ?_
  rcases hr.2 with ⟨rfl, _⟩ | ⟨g, cap, cur, rfl, _, hgb, _⟩
  · exact .inl rfl
  · refine .inr fun e' => ?_
    obtain ⟨o, ho, hc⟩ := hrow g (by simpa [Value.ownBlock] using e'.symm)
    rw [hgb] at ho; cases ho; cases hc
theorem box_kept {W W' : World} {row : Option Nat} {B : Nat} {t : TypeId} {v : Value} (h : Boxed W B t v) (hg : W.grownBy W' row) (hrow : ∀ r, row = some r → ∃ o : Obj, W.heap[r]? = some o ∧ o.isCells = false) : Boxed W' B t v :=
  h.kept hg (fun e' => by
    obtain ⟨o, ho, hc⟩ := hrow B e'.symm
    rw [show W.heap[B]? = _ from h] at ho; cases ho; cases hc)
theorem goneI_own {n₀ B : Nat} {most : Int} {W1 : World} (hn : n₀ ≤ W1.heap.size) (hB : n₀ ≤ B) : OwnFrom B (GoneI n₀ most W1) := by
  rintro s X Y row ⟨⟨v, hv, hr⟩, hm, hb⟩ hg hrow
  exact ⟨⟨v, box_kept hv hg (fun r e => (hrow r e).2), row_kept hr hg (fun r e => (hrow r e).2)⟩, hm, hb.grown hg (Nat.le_trans hn hb.size) (fun k e => Nat.le_trans hB (hrow k e).1)⟩
theorem goneX_own {n₀ B : Nat} {most : Int} {W1 : World} (hn : n₀ ≤ W1.heap.size) (hB : n₀ ≤ B) (c : Code) : OwnFrom B (GoneX n₀ most W1 c) := by
  rintro s X Y row ⟨hc, hm, ⟨v, hv, hr⟩, hb⟩ hg hrow
  exact ⟨hc, hm, ⟨v, box_kept hv hg (fun r e => (hrow r e).2), row_kept hr hg (fun r e => (hrow r e).2)⟩, hb.grown hg (by have := hb.size; omega) (fun k e => by have := (hrow k e).1; omega)⟩

set_option maxRecDepth 100000 in
set_option maxHeartbeats 2000000 in
theorem gone_none (A : Option Addr) (n c : Nat) (p : Pol) (most : Int) (hm : most ≤ 0) (w : World) :
    CallsIn Fence.wide 102 Try.prog 19 #[.slice A n c, .agg p.cells.toArray, .int .i64 most] w fun e w' =>
      ∃ v, e = .returned v ∧ w'.ownsRow w.heap.size 3 1 v 0 [] ∧ Below w.heap.size w w' := by
  have hpc : p.cells.toArray = #[.int .i64 p.last, .int .i64 p.days, .int .i64 p.day, .int .i64 p.within, .string p.tag] := rfl
  rw [hpc]
  clear hpc
  refine callsIn_of_wp_marks Try.func19 rfl trivial ?_ rfl
  simp only [Try.ntmps19, List.size_toArray, List.length_cons, List.length_nil, Nat.reduceAdd, Nat.reduceSub, Array.replicate_succ, Array.replicate_zero, List.push_toArray, List.append_toArray, List.nil_append, List.cons_append]
  gi_wp2_with fail
  refine ⟨.slice (some ⟨w.heap.size + 1 + 1 + 1, 0, none⟩) 0 0, ?_, _, rfl, ?_, ?_⟩
  · simp [results, Try.f19, go_sem]
  · refine dat_own (xs := []) (rest := []) (g := w.heap.size + 1 + 1 + 1) (cap := 0) ?_ (by omega) rfl rfl (by decide)
    have := (Blk.new (((w.alloc (.cells #[.int .i64 p.last, .int .i64 p.days, .int .i64 p.day, .int .i64 p.within, .string p.tag] 24)).alloc (.cells #[.int .i64 most] 3)).alloc (.cells #[.slice (some ⟨w.heap.size + 1 + 1 + 1, 0, none⟩) 0 0] 32)) 3 []).alloc (.cells #[.slice (some ⟨w.heap.size + 1 + 1 + 1, 0, none⟩) 0 0] 32)
    rw [World.size_alloc, World.size_alloc, World.size_alloc] at this
    exact this
  · exact (((((Below.refl _ w).alloc (Nat.le_refl _) _).alloc (by simp) _).alloc (by simp; omega) _).alloc (by simp; omega) _).alloc (by simp; omega) _

set_option maxRecDepth 100000 in
set_option maxHeartbeats 2000000 in
theorem gone_some (xs : List Sn) (A : Option Addr) (c : Nat) (p : Pol) (most : Int) (hp : p.ok) (hlen : xs.length ≤ 1073741824) (hm : 0 < most) (w : World) (h : SnsAt w A xs) :
    CallsIn Fence.wide 102 Try.prog 19 #[.slice A xs.length c, .agg p.cells.toArray, .int .i64 most] w fun e w' =>
      ∃ v, e = .returned v ∧ w'.ownsRow w.heap.size 3 1 v (goneMost xs p most).length ((goneMost xs p most).map (Value.int .i64)) ∧ Below w.heap.size w w' := by
  obtain ⟨w5, hw5⟩ : ∃ w5, (((((w.alloc (.cells #[.int .i64 p.last, .int .i64 p.days, .int .i64 p.day, .int .i64 p.within, .string p.tag] 24)).alloc (.cells #[.int .i64 most] 3)).alloc (.cells #[.slice none 0 0] 32)).alloc (.cells #[] 3)).alloc (.cells #[.slice (some ⟨w.heap.size + 1 + 1 + 1, 0, none⟩) 0 0] 32)) = w5 := ⟨_, rfl⟩
  have hsz5 : w5.heap.size = w.heap.size + 5 := by rw [← hw5]; simp
  have hb5 : Below w.heap.size w w5 := by rw [← hw5]; exact (((((Below.refl _ w).alloc (Nat.le_refl _) _).alloc (by simp) _).alloc (by simp; omega) _).alloc (by simp; omega) _).alloc (by simp; omega) _
  have k1 : Boxed w5 (w.heap.size + 1) 3 (.int .i64 most) := by
    rw [← hw5]; have := (((Boxed.new (w.alloc (.cells #[.int .i64 p.last, .int .i64 p.days, .int .i64 p.day, .int .i64 p.within, .string p.tag] 24)) 3 (.int .i64 most)).alloc (.cells #[.slice none 0 0] 32)).alloc (.cells #[] 3)).alloc (.cells #[.slice (some ⟨w.heap.size + 1 + 1 + 1, 0, none⟩) 0 0] 32); rw [World.size_alloc] at this; exact this
  have k2 : Boxed w5 (w.heap.size + 1 + 1) 32 (.slice none 0 0) := by
    rw [← hw5]; have := ((Boxed.new ((w.alloc (.cells #[.int .i64 p.last, .int .i64 p.days, .int .i64 p.day, .int .i64 p.within, .string p.tag] 24)).alloc (.cells #[.int .i64 most] 3)) 32 (.slice none 0 0)).alloc (.cells #[] 3)).alloc (.cells #[.slice (some ⟨w.heap.size + 1 + 1 + 1, 0, none⟩) 0 0] 32); rw [World.size_alloc, World.size_alloc] at this; exact this
  have k3 : Blk w5 (w.heap.size + 1 + 1 + 1) 3 [] := by
    rw [← hw5]; have := (Blk.new (((w.alloc (.cells #[.int .i64 p.last, .int .i64 p.days, .int .i64 p.day, .int .i64 p.within, .string p.tag] 24)).alloc (.cells #[.int .i64 most] 3)).alloc (.cells #[.slice none 0 0] 32)) 3 []).alloc (.cells #[.slice (some ⟨w.heap.size + 1 + 1 + 1, 0, none⟩) 0 0] 32); rw [World.size_alloc, World.size_alloc, World.size_alloc] at this; exact this
  have k4 : Boxed w5 (w.heap.size + 1 + 1 + 1 + 1) 32 (.slice (some ⟨w.heap.size + 1 + 1 + 1, 0, none⟩) 0 0) := by
    rw [← hw5]; have := Boxed.new ((((w.alloc (.cells #[.int .i64 p.last, .int .i64 p.days, .int .i64 p.day, .int .i64 p.within, .string p.tag] 24)).alloc (.cells #[.int .i64 most] 3)).alloc (.cells #[.slice none 0 0] 32)).alloc (.cells #[] 3)) 32 (.slice (some ⟨w.heap.size + 1 + 1 + 1, 0, none⟩) 0 0); rw [World.size_alloc, World.size_alloc, World.size_alloc, World.size_alloc] at this; exact this
  have H5 := Lib.hid (And.intro hsz5 (And.intro hb5 (And.intro k1 (And.intro k2 (And.intro k3 k4)))))
  have HW5 := Lib.hid hw5
  have HS := Lib.hid h
  have HP := Lib.hid hp
  clear h hp k1 k2 k3 k4 hb5 hsz5 hw5
  have hpc : p.cells.toArray = #[.int .i64 p.last, .int .i64 p.days, .int .i64 p.day, .int .i64 p.within, .string p.tag] := rfl
  rw [hpc]
  clear hpc
  obtain ⟨i0, hi, hz0, hz1, hz2⟩ := info_parts A_info_int
  refine callsIn_of_wp_marks Try.func19 rfl trivial ?_ rfl
  simp only [Try.ntmps19, List.size_toArray, List.length_cons, List.length_nil, Nat.reduceAdd, Nat.reduceSub, Array.replicate_succ, Array.replicate_zero, List.push_toArray, List.append_toArray, List.nil_append, List.cons_append]
  gi_wp2_with fail
  rw [HW5.out]
  refine ⟨trivial, (callsIn_wide.2 (gone_val xs A xs.length c p _)).mono ?_⟩
  rintro e W1 ⟨rfl, hW1⟩
  clear HW5
  have hsz : W1.heap.size = w5.heap.size + 2 := by rw [hW1]; simp
  have hal : Below w5.heap.size w5 W1 := by rw [hW1]; exact ((Below.refl _ w5).alloc (Nat.le_refl _) _).alloc (by simp) _
  have hbl : Blk W1 w5.heap.size 22 [.slice A xs.length c] := by rw [hW1]; exact (Blk.new w5 _ _).alloc _
  have hbp : Blk W1 (w5.heap.size + 1) 24 p.cells := by rw [hW1]; have := Blk.new (w5.alloc (.cells #[.slice A xs.length c] 22)) 24 p.cells; rwa [World.size_alloc] at this
  have HX := Lib.hid (And.intro hsz (And.intro hal (And.intro hbl hbp)))
  clear hsz hal hbl hbp hW1
  gi_wp2_with fail
  have HN5 : Hid (w5.heap.size = w.heap.size + 5) := H5.out.1
  refine wpIn_rangeFunc_ownG (n := 102) (S := fun zs => zs = gonesL xs p) (Sp := fun pre => pre <+: gonesL xs p) rfl (by decide) (gf := 75) (lb := #[.pointer (some ⟨w5.heap.size, 0, none⟩), .pointer (some ⟨w5.heap.size + 1, 0, none⟩)]) rfl trivial (enters_of Try.func75 (by kernel_rfl) rfl)
    (gone_stops xs A c p HP.out hlen w5.heap.size W1 (HS.out.below (H5.out.2.1.trans (HX.out.2.1.mono H5.out.2.1.size))) HX.out.2.2.1 HX.out.2.2.2) keepBools_t keepBools_b (Below.refl _ _) (fun _ => rfl)
    (GoneI (w.heap.size + 1 + 1 + 1) most W1) (GoneX (w.heap.size + 1 + 1 + 1) most W1) (goneI_own (by have := HX.out.1; have := HN5.out; omega) (by have := HX.out.1; have := HN5.out; omega)) (goneX_own (by have := HX.out.1; have := HN5.out; omega) (by have := HX.out.1; have := HN5.out; omega))
    ⟨⟨_, box_below H5.out.2.2.2.2.2 HX.out.2.1 (by have := HN5.out; omega), dat_own (xs := []) (rest := []) (cap := 0) ((H5.out.2.2.2.2.1).below HX.out.2.1 (by have := HN5.out; omega)) (Nat.le_refl _) rfl rfl (by decide)⟩, by simpa using hm, Below.refl _ _⟩
    (fun x => { tmps := #[Value.slice A xs.length c, Value.agg #[.int .i64 p.last, .int .i64 p.days, .int .i64 p.day, .int .i64 p.within, .string p.tag], Value.int .i64 most, undef, Value.pointer (some ⟨w.heap.size, 0, none⟩), Value.pointer (some ⟨w.heap.size + 1, 0, none⟩), Value.pointer (some ⟨w.heap.size + 1 + 1, 0, none⟩), Value.pointer (some ⟨w.heap.size + 1 + 1 + 1 + 1, 0, none⟩), .int .i64 x, Value.slice (some ⟨w.heap.size + 1 + 1 + 1, 0, none⟩) 0 0, Value.int .i64 most, Value.bool (decide (most ≤ 0)), undef, Value.slice A xs.length c, Value.agg #[.int .i64 p.last, .int .i64 p.days, .int .i64 p.day, .int .i64 p.within, .string p.tag], .func (.func 75) #[] #[.pointer (some ⟨w5.heap.size, 0, none⟩), .pointer (some ⟨w5.heap.size + 1, 0, none⟩)], .int .i64 x, undef, undef, undef, undef, undef, undef, undef, undef, undef, undef], defers := [] }) ?assign ?body ?done ?stop
  case assign =>
    intro l x W K hK
    gi_wp2
    exact hK
  case body =>
    rintro l pre x W ⟨⟨v, hv, hrow⟩, hlm, hB⟩ hle
    have hc0 := hv.cell
    have HSZ : Hid (w.heap.size + 7 ≤ W.heap.size) := by show _ ≤ _; have := HX.out.1; have := HN5.out; have := hB.size; omega
    have km : Boxed W (w.heap.size + 1) 3 (.int .i64 most) := box_below (box_below H5.out.2.2.1 HX.out.2.1 (by have := HN5.out; omega)) hB (by omega)
    have kr : Boxed W (w.heap.size + 1 + 1) 32 (.slice none 0 0) := box_below (box_below H5.out.2.2.2.1 HX.out.2.1 (by have := HN5.out; omega)) hB (by omega)
    have KMR := Lib.hid (And.intro km kr)
    clear km kr
    gi_wp2_with (gi_at_builtin; refine wpListIn_append_own _ rfl _ _ 32 rfl (w.heap.size + 1 + 1 + 1) 3 i0 (.int .i64 0) 1 8 Try.underlying32 hi hz0 hz1 hz2 rfl (by decide) _ _ _ rfl (hrow.alloc _) ⟨W.heap.size, 0, none⟩ 1 1 [.int .i64 x] rfl rfl (cell_one_new _ _ _) (by simp [Value.oneCell']) (by unfold maxLen; omega) (by omega) (by have := HSZ.out; simp; omega) ?_; intro v' w1 hown' hgrow _; obtain ⟨g', cap', rfl⟩ := ownsRow_succ hown'; obtain ⟨hv1, hv2, hr2, hk2, hb2⟩ := hv.appended (by decide) hrow (by have := HSZ.out; omega) (by omega) hown' hgrow; have hc1 := hv1.cell; have hf1 := hv1.frozen; have hc2 := hv2.cell; have hcm := (box_below KMR.out.1 hb2 (by omega)).cell; have hcr := (box_below KMR.out.2 hb2 (by omega)).cell; have hfr := (box_below KMR.out.2 hb2 (by omega)).frozen)
    · rename_i hx
      have hx' : (pre.length : Int) + 1 = most := by simpa using hx
      have hbr := (box_below KMR.out.2 hb2 (by omega)).set (.slice (some ⟨g', 0, none⟩) (pre.length + 1) cap')
      refine ⟨(hk2.trans (KeepsOthers.setCell _ _ _)).from _, rfl, by simpa using hx', ⟨_, hbr, ?_⟩, ?_⟩
      · have := hr2.kept (grownBy_setCell' _ (w.heap.size + 1 + 1) (.slice (some ⟨g', 0, none⟩) (pre.length + 1) cap')) (.inr ((box_below KMR.out.2 hb2 (by omega)).not_row (by decide) hr2).symm)
        simpa using this
      · exact ((hB.trans hb2).mono (by omega)).setCell (p := ⟨w.heap.size + 1 + 1, 0, none⟩) (by show _ ≤ _; simp) _
    · rename_i hx
      have hx' : ¬ (pre.length : Int) + 1 = most := by simpa using hx
      refine ⟨hk2.from _, fun j cs hj => ?_, ⟨⟨_, hv2, by simpa using hr2⟩, ?_, hB.trans hb2⟩⟩
      · have h1 : Blk w1 j 4 cs := (hgrow.block j (by have := hj.lt; simp; omega) (blk_not_row (hj.alloc (.cells #[.int .i64 x] 3)) (by decide) (hrow.alloc (.cells #[.int .i64 x] 3)))).trans (hj.alloc _)
        exact h1.far (p := ⟨w.heap.size + 1 + 1 + 1 + 1, 0, none⟩) (hj.ne_ (show Blk W _ 32 [v] from hv) (by decide)) _
      · rw [List.length_append]; simp; omega
  case done =>
    rintro D zs W hD rfl ⟨⟨v, hv, hrow⟩, hlm, hB⟩ hK
    obtain ⟨A', k', c', rfl⟩ := ownsRow_slice hrow
    have hgm : goneMost xs p most = gonesL xs p := by unfold goneMost; rw [List.take_of_length_le (by omega)]
    have hc1 := hv.cell
    have kr : Boxed W (w.heap.size + 1 + 1) 32 (.slice none 0 0) := box_below (box_below H5.out.2.2.2.1 HX.out.2.1 (by have := HN5.out; omega)) hB (by omega)
    have hc2 := kr.cell
    have hf2 := kr.frozen
    have hbw : Below w.heap.size w W := (H5.out.2.1.trans (HX.out.2.1.mono (by have := HN5.out; omega))).trans (hB.mono (by omega))
    have HGM := Lib.hid hgm
    have HF := Lib.hid (And.intro hv (And.intro hrow (And.intro kr (And.intro hbw hK))))
    clear hv hrow hB hK kr hgm hbw
    gi_wp2_with fail
    obtain ⟨hv, hrow, kr, hbw, hK⟩ := HF.out
    have hK2 := (KeepsOthers.setCell W ⟨w.heap.size + 1 + 1, 0, none⟩ (.slice A' k' c')).same D _ hK rfl
    refine ⟨by simp, .inl ⟨_, _, rfl, run_takeDeferred hK2, ?_⟩⟩
    have hc5 := cell_kept (kr.set (.slice A' k' c')).cell (grownBy_putObj' _ D (.deferred none)) (fun r e => by cases e; exact ⟨_, hK2, rfl⟩)
    refine ⟨.slice A' k' c', ?_, _, rfl, ?_, ?_⟩
    · simp [results, Try.f19, go_sem, hc5]
    · rw [HGM.out]
      exact own_mono (ownsRow_putObj (hrow.kept (grownBy_setCell' _ (w.heap.size + 1 + 1) (.slice A' k' c')) (.inr (kr.not_row (by decide) hrow).symm)) _ hK2 rfl) (by omega)
    · exact (hbw.setCell (p := ⟨w.heap.size + 1 + 1, 0, none⟩) (by show _ ≤ _; simp; omega) _).trans (belowK_b (w := w) (Nat.le_refl _) _ D _ _ (by have := HX.out.1; have := HN5.out; omega) hK2 rfl rfl)
  case stop =>
    rintro D c pre W hD hpre ⟨rfl, hlm, ⟨v, hv, hrow⟩, hB⟩ hK
    have hgm : goneMost xs p most = pre := by
      unfold goneMost
      have := List.prefix_iff_eq_take.1 hpre
      rw [show most.toNat = pre.length by omega]; exact this.symm
    have HGM := Lib.hid hgm
    have hbw : Below w.heap.size w W := (H5.out.2.1.trans (HX.out.2.1.mono (by have := HN5.out; omega))).trans (hB.mono (by omega))
    clear hgm
    gi_wp2_with fail
    refine ⟨by simp, .inl ⟨_, _, rfl, run_takeDeferred hK, ?_⟩⟩
    have hc5 : (W.putObj D (.deferred none)).cell? ⟨w.heap.size + 1 + 1, 0, none⟩ = some v := cell_kept hv.cell (grownBy_putObj' _ D (.deferred none)) (fun r e => by cases e; exact ⟨_, hK, rfl⟩)
    refine ⟨v, ?_, _, rfl, ?_, ?_⟩
    · simp [results, Try.f19, go_sem, hc5]
    · rw [HGM.out]
      exact own_mono (ownsRow_putObj hrow _ hK rfl) (by omega)
    · exact hbw.trans (belowK_b (w := w) (Nat.le_refl _) W D _ _ (by have := HX.out.1; have := HN5.out; omega) hK rfl rfl)

theorem gone_any (xs : List Sn) (A : Option Addr) (c : Nat) (p : Pol) (most : Int) (hp : p.ok) (hlen : xs.length ≤ 1073741824) (w : World) (h : SnsAt w A xs) :
    Calls Try.prog 19 #[.slice A xs.length c, .agg p.cells.toArray, .int .i64 most] w fun e w' =>
      ∃ v, e = .returned v ∧ w'.ownsRow w.heap.size 3 1 v (goneMost xs p most).length ((goneMost xs p most).map (Value.int .i64)) ∧ Below w.heap.size w w' := by
  by_cases hm : most ≤ 0
  · have e : goneMost xs p most = [] := by unfold goneMost; rw [show most.toNat = 0 by omega]; rfl
    rw [e]
    exact callsIn_wide.1 (gone_none A xs.length c p most hm w)
  · exact callsIn_wide.1 (gone_some xs A c p most hp hlen (by omega) w h)

end Go.Proofs.Ytfpcgancmgeagaa
