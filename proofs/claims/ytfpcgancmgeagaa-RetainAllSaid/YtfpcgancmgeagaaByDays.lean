/- Contract of retain.byDays: of each of the last days the last one is marked; nothing else turns. -/
import Derived.Test.YtfpcgancmgeagaaPol
namespace Go.Proofs.Ytfpcgancmgeagaa
open Go.RowKit Go.Shelf
attribute [local go_sem] Oper.semAt_some

theorem daysL_le (xs : List Sn) (day : Int) : (daysL xs day).length ≤ xs.length := by
  unfold daysL
  split
  · simp
  · exact Nat.le_trans (compact_length _) (by simp [dayRow_length])

theorem own_any {w : World} {base n : Nat} {e : TypeId} {v : Value} {xs : List Int} (h : w.ownsRow base e 1 v n (xs.map (Value.int .i64))) :
    ∃ A cap, v = .slice A n cap ∧ (0 < n → ∃ g rest, A = some ⟨g, 0, none⟩ ∧ base ≤ g ∧ Dat w g e rest xs) := by
  rcases Nat.eq_zero_or_pos n with h0 | h0
  · obtain ⟨A, c, rfl⟩ := own_zero h h0
    exact ⟨A, c, by rw [h0], fun hh => by omega⟩
  · obtain ⟨g, cap, rest, rfl, hg, _, _, _, hd⟩ := own_dat h h0
    exact ⟨_, _, rfl, fun _ => ⟨g, rest, rfl, hg, hd⟩⟩

theorem keepTwo_t {B g : Nat} {X Y Z : World} (h : KeepTwo B g X Y) (k : KeepTwo B g Y Z) : KeepTwo B g X Z := ⟨k.1.trans h.1, k.2.trans h.2⟩
theorem keepTwo_b {B g : Nat} {w : World} (hB : B < w.heap.size) (hg : g < w.heap.size) (W : World) (l : Nat) (o o' : Obj) (hl : w.heap.size ≤ l) (ho : W.heap[l]? = some o) (_ : o.isCells = false) (_ : o.isWalk = false) : KeepTwo B g W (W.putObj l o') := by
  have h := (Array.getElem?_eq_some_iff.1 ho).1
  exact ⟨(grownBy_putObj' W l o').block B (by omega) (fun e => by cases e; omega), (grownBy_putObj' W l o').block g (by omega) (fun e => by cases e; omega)⟩
theorem keepTwo_below {B g : Nat} {w w' : World} (hB : B < w.heap.size) (hg : g < w.heap.size) (h : Below w.heap.size w w') : KeepTwo B g w w' := ⟨h.block B hB, h.block g hg⟩
theorem keepsFrom_below {B : Nat} {w w' : World} (h : Below w.heap.size w w') : KeepsFrom B w w' := ⟨h.size, fun k _ _ hk _ => (h.block k (Array.getElem?_eq_some_iff.1 hk).1).trans hk⟩
theorem dat_cell {w : World} {g : Nat} {t : TypeId} {rest : List Value} {xs : List Int} (h : Dat w g t rest xs) {j : Nat} (hj : j < xs.length) : w.cell? ⟨g, j, none⟩ = some (.int .i64 (xs.getD j 0)) := by
  rw [(h : Blk _ _ _ _).cell]; simp [List.getElem?_append_left, hj, List.getD_eq_getElem?_getD]

/-- What holds between two rounds of the days' loop. -/
structure ByRel (w : World) (gk : Nat) (B : Nat) (lb : List Value) (pb : List Value) (kb : List Value) (G : Option Addr) (D : List Int) (kc : List Value) (ds : List Deferred) (W : World) : Prop where
  mod : Mod (· = gk) w W
  bl : Blk W B 22 lb
  bp : Blk W (B + 1) 24 pb
  bk : Blk W (B + 1 + 1) 26 kb
  kc : Blk W gk 4 kc
  days : 0 < D.length → ∃ g rest, G = some ⟨g, 0, none⟩ ∧ g ≠ gk ∧ Dat W g 2 rest D
  marks : Marks w.heap.size W.heap.size ds W

theorem ByRel.step {w wr W : World} {gk : Nat} {lb pb kb kc kc' : List Value} {G : Option Addr} {D : List Int} {ds : List Deferred} (h : ByRel w gk w.heap.size lb pb kb G D kc ds wr) (hm : Mod (· = gk) wr W) (hk : Blk W gk 4 kc') (hgk : gk < w.heap.size)
    (D0 : Nat) (hD : wr.heap.size ≤ D0) (hK : W.heap[D0]? = some (.deferred (some []))) : ByRel w gk w.heap.size lb pb kb G D kc' ({ target := .collected D0, args := #[] } :: ds) W := by
  refine ⟨h.mod.trans hm, h.bl.mod hm (by omega), h.bp.mod hm (by omega), h.bk.mod hm (by omega), hk, fun h0 => ?_, ?_⟩
  · obtain ⟨g, rest, h1, h2, h3⟩ := h.days h0
    exact ⟨g, rest, h1, h2, (h3 : Blk _ _ _ _).mod hm h2⟩
  · refine ⟨D0, rfl, by have := h.mod.size; omega, (Array.getElem?_eq_some_iff.1 hK).1, hK, h.marks.mono hD (fun k h1 h2 h3 => (hm.block k h2 (by omega)).trans h3)⟩

theorem markAll_take (xs : List Sn) (ys : List Int) (day : Int) (ks : List Bool) (D : List Int) (k : Nat) (h : k < D.length) : markAll xs ys day ks (D.take (k + 1)) = mark xs ys day (markAll xs ys day ks (D.take k)) (D.getD k 0) := by
  rw [List.take_succ_eq_append_getElem h, markAll_snoc]
  simp [List.getD_eq_getElem?_getD, List.getElem?_eq_getElem h]

set_option maxHeartbeats 1000000 in
set_option maxRecDepth 100000 in
theorem byDays_any (xs : List Sn) (A : Option Addr) (c : Nat) (p : Pol) (hp : p.ok) (w0 w : World) (hlen : xs.length ≤ 1073741824) (h : SnsAt w0 A xs) (hb : Below w0.heap.size w0 w)
    (gk ca : Nat) (GA : Option Addr) (hgk : w0.heap.size ≤ gk) (ys : List Int) (hys : ys.length = xs.length) (hin : ∀ y ∈ ys, 0 ≤ y ∧ y < xs.length) (hdat : 0 < xs.length → ∃ ga rest, GA = some ⟨ga, 0, none⟩ ∧ ga ≠ gk ∧ Dat w ga 3 rest ys)
    (ks : List Bool) (hks : ks.length = xs.length) (hk : Blk w gk 4 (bools ks)) :
    CallsIn Fence.wide 101 Try.prog 35 #[.slice A xs.length c, .slice GA xs.length ca, .agg p.cells.toArray, .slice (some ⟨gk, 0, none⟩) xs.length xs.length] w fun e w' =>
      e = .returned (.tuple #[]) ∧ Mod (· = gk) w w' ∧ Blk w' gk 4 (bools (markAll xs ys p.day ks ((daysL xs p.day).take (max p.days 0).toNat))) := by
  have hw3 : Below w.heap.size w (((w.alloc (.cells #[.slice A xs.length c] 22)).alloc (.cells #[.int .i64 p.last, .int .i64 p.days, .int .i64 p.day, .int .i64 p.within, .string p.tag] 24)).alloc (.cells #[.slice (some ⟨gk, 0, none⟩) xs.length xs.length] 26)) :=
    (((Below.refl _ w).alloc (Nat.le_refl _) _).alloc (by simp) _).alloc (by simp; omega) _
  have b0 := ((Blk.new w 22 [.slice A xs.length c]).alloc (.cells #[.int .i64 p.last, .int .i64 p.days, .int .i64 p.day, .int .i64 p.within, .string p.tag] 24)).alloc (.cells #[.slice (some ⟨gk, 0, none⟩) xs.length xs.length] 26)
  have b1 := (Blk.new (w.alloc (.cells #[.slice A xs.length c] 22)) 24 p.cells).alloc (.cells #[.slice (some ⟨gk, 0, none⟩) xs.length xs.length] 26)
  have b2 := Blk.new ((w.alloc (.cells #[.slice A xs.length c] 22)).alloc (.cells #[.int .i64 p.last, .int .i64 p.days, .int .i64 p.day, .int .i64 p.within, .string p.tag] 24)) 26 [.slice (some ⟨gk, 0, none⟩) xs.length xs.length]
  rw [World.size_alloc] at b1 b2
  rw [World.size_alloc] at b2
  have hS3 : SnsAt (((w.alloc (.cells #[.slice A xs.length c] 22)).alloc (.cells #[.int .i64 p.last, .int .i64 p.days, .int .i64 p.day, .int .i64 p.within, .string p.tag] 24)).alloc (.cells #[.slice (some ⟨gk, 0, none⟩) xs.length xs.length] 26)) A xs := h.below (hb.trans (hw3.mono hb.size))
  have HD := Lib.hid (days_any xs A c p.day hp.2.2.1 _ hlen hS3)
  have HW3 := Lib.hid hw3
  have HB3 := Lib.hid (And.intro b0 (And.intro b1 b2))
  have HS := Lib.hid h
  have HB := Lib.hid hb
  have HDAT := Lib.hid hdat
  have HK := Lib.hid hk
  have HP := Lib.hid hp
  have hgkw := hk.lt
  clear h hb hdat hk hp hw3 hS3 b0 b1 b2
  have hDle := daysL_le xs p.day
  simp only [Pol.cells] at HB3 ⊢
  refine callsIn_of_wp_marks Try.func35 rfl trivial ?_ rfl
  simp only [Try.ntmps35, List.size_toArray, List.length_cons, List.length_nil, Nat.reduceAdd, Nat.reduceSub, Array.replicate_succ, Array.replicate_zero, List.push_toArray, List.append_toArray, List.nil_append, List.cons_append]
  gi_wp2_with fail
  refine ⟨trivial, (callsIn_wide.2 HD.out).mono ?_⟩
  rintro e w1 ⟨v, rfl, hown, hbel⟩
  obtain ⟨G, cap, rfl, hG⟩ := own_any hown
  generalize hDe : daysL xs p.day = D at *
  have HREL : Hid (ByRel w gk w.heap.size [.slice A xs.length c] [.int .i64 p.last, .int .i64 p.days, .int .i64 p.day, .int .i64 p.within, .string p.tag] [.slice (some ⟨gk, 0, none⟩) xs.length xs.length] G D (bools (markAll xs ys p.day ks (D.take 0))) [] w1) := by
    have hm := hbel
    simp only [World.size_alloc] at hm
    refine ⟨Mod.of_below (HW3.out.trans (hbel.mono (by simp; omega))) _, HB3.out.1.below hbel (by simp; omega), HB3.out.2.1.below hbel (by simp), HB3.out.2.2.below hbel (by simp), ?_, fun h0 => ?_, trivial⟩
    · exact (HK.out.below HW3.out HK.out.lt).below hbel (by have := HK.out.lt; simp; omega)
    · obtain ⟨g, rest', hg1, hg2, hg3⟩ := hG h0
      exact ⟨g, rest', hg1, by have := HK.out.lt; simp at hg2; omega, hg3⟩
  clear hown hbel hG HB3 HD HW3 HK
  gi_wp2_with fail
  refine wpIn_loop (fun a W => ∃ (ds : List Deferred) (k : Nat) (kz lz : Int), kz = k ∧ lz = max p.days 0 - k ∧ k ≤ D.length ∧ (k : Int) ≤ max p.days 0 ∧
      Hid (ByRel w gk w.heap.size [.slice A xs.length c] [.int .i64 p.last, .int .i64 p.days, .int .i64 p.day, .int .i64 p.within, .string p.tag] [.slice (some ⟨gk, 0, none⟩) xs.length xs.length] G D (bools (markAll xs ys p.day ks (D.take k))) ds W) ∧
      ∃ (u10 u12 u22 u23 u24 u25 u26 u27 u28 u29 u30 u31 u32 u33 u34 u35 u36 u37 u38 u39 u40 u41 u42 u43 u44 u45 u46 : Value), a = ⟨#[Value.slice A xs.length c, Value.slice GA xs.length ca, Value.agg #[.int .i64 p.last, .int .i64 p.days, .int .i64 p.day, .int .i64 p.within, .string p.tag], Value.slice (some ⟨gk, 0, none⟩) xs.length xs.length,
          Value.pointer (some ⟨w.heap.size, 0, none⟩), undef, Value.pointer (some ⟨w.heap.size + 1, 0, none⟩), Value.pointer (some ⟨w.heap.size + 1 + 1, 0, none⟩), Value.int .i64 lz, undef, u10, undef, u12, Value.pointer (some ⟨w.heap.size + 1, 1, none⟩),
          Value.int .i64 p.days, Value.int .i64 (max p.days 0), Value.slice A xs.length c, Value.pointer (some ⟨w.heap.size + 1, 2, none⟩), Value.int .i64 p.day, Value.slice G D.length cap, Value.int .i64 ↑D.length, Value.int .i64 kz, u22, u23, u24, u25, u26, u27, u28, u29, u30, u31, u32, u33, u34, u35, u36, u37, u38, u39, u40, u41, u42, u43, u44, u45, u46], ds⟩)
    (fun a _ => D.length - (intOf (a.tmps.getD 21 undef)).toNat) ?_ ?_
  · refine ⟨[], 0, 0, max p.days 0, rfl, by simp, Nat.zero_le _, Int.le_max_right _ _, HREL, undef, undef, undef, undef, undef, undef, undef, undef, undef, undef, undef, undef, undef, undef, undef, undef, undef, undef, undef, undef, undef, undef, undef, undef, undef, undef, undef, rfl⟩
  clear HREL
  rintro _ wr ⟨ds, k, kz, lz, hkz, hlz, hkD, hkm, HR, u10, u12, u22, u23, u24, u25, u26, u27, u28, u29, u30, u31, u32, u33, u34, u35, u36, u37, u38, u39, u40, u41, u42, u43, u44, u45, u46, rfl⟩
  have hdl : p.days ≤ 9223372036854775807 := HP.out.2.1.2
  have hday : 0 < D.length → 1 ≤ p.day ∧ p.day ≤ 9223372036854775807 := fun h => ⟨by
    rw [← hDe] at h; unfold daysL at h; split at h <;> simp_all <;> omega, HP.out.2.2.1.2⟩
  by_cases hlt : k < D.length
  · have hltz : kz < (D.length : Int) := by omega
    replace hday := hday (by omega)
    obtain ⟨ga, rest, rfl, hne, hdatG⟩ := HDAT.out (by omega)
    clear HDAT
    have HDAT := Lib.hid hdatG
    clear hdatG
    have hkz0 : 0 ≤ kz := by omega
    obtain ⟨g, drest, rfl, hgne, hdd⟩ := HR.out.days (by omega)
    have hc1 : wr.cell? ⟨g, kz.toNat, none⟩ = some (.int .i64 (D.getD k 0)) := by
      rw [hkz, Int.toNat_natCast]; exact dat_cell hdd hlt
    have HC1 := Lib.hid hdd
    have HKZ := Lib.hid hkz
    have HLZ := Lib.hid hlz
    clear hdd hkz hlz
    generalize hd : D.getD k 0 = d at *
    have HDK := Lib.hid hd
    clear hd
    by_cases hl : lz = 0
    · subst hl
      have HQ : Hid (D.take (max p.days 0).toNat = D.take k) := by have := HLZ.out; show _ = _; congr 1; omega
      gi_wp2_with fail
      rw [hDe, HQ.out]
      refine leaves_marks ds wr.heap.size _ (HR.out.marks.mono (Nat.le_refl _) (fun j _ hj e => (Below.heap_alloc wr _ j hj).trans e)) (fun W' hm => ?_)
      have hm0 : Mod (· = gk) w W' := (HR.out.mod.alloc _).then hm (fun j hj e => by have := HR.out.kc.lt; omega)
      exact ⟨_, results_none rfl _ _ _, rfl, hm0, (HR.out.kc.alloc _).mod hm (by have := hgkw; omega)⟩
    · have hl1 : 0 < lz := by have := HLZ.out; omega
      have hl2 : IntKind.i64.wrap (lz - 1) = lz - 1 := by have := HLZ.out; rw [IntKind.wrap_i64]; omega
      gi_wp2_with fail
      refine ⟨trivial, (callsIn_wide.2 (backward_val _ _ _ _)).mono ?_⟩
      rintro e W1 ⟨rfl, hW1⟩
      have hsz : W1.heap.size = wr.heap.size + 2 := by rw [hW1]; simp
      have hal : Below wr.heap.size wr W1 := by rw [hW1]; exact ((Below.refl _ wr).alloc (Nat.le_refl _) _).alloc (by simp) _
      have hbox : Blk W1 wr.heap.size 2 [.int .i64 d] := by rw [hW1]; exact (Blk.new wr _ _).alloc _
      have hbk : Blk W1 (wr.heap.size + 1) 32 [.slice (some ⟨ga, 0, none⟩) xs.length ca] := by rw [hW1]; have := Blk.new (wr.alloc (.cells #[.int .i64 d] 2)) 32 [.slice (some ⟨ga, 0, none⟩) xs.length ca]; rwa [World.size_alloc] at this
      have hbs : (wr.alloc (.cells #[.int .i64 d] 2)).heap.size = wr.heap.size + 1 := by simp
      rw [hbs]
      have hdatW : Dat W1 ga 3 rest ys := ((HDAT.out : Blk _ _ _ _).mod HR.out.mod hne).below hal (by have := (HR.out.kc).lt; have := (HDAT.out : Blk _ _ _ _).lt; have := HR.out.mod.size; omega)
      have HX : Hid (W1.heap.size = wr.heap.size + 2 ∧ Below wr.heap.size wr W1 ∧ Blk W1 wr.heap.size 2 [.int .i64 d] ∧ Blk W1 (wr.heap.size + 1) 32 [.slice (some ⟨ga, 0, none⟩) xs.length ca] ∧ Dat W1 ga 3 rest ys) := ⟨hsz, hal, hbox, hbk, hdatW⟩
      clear hsz hal hbox hbk hdatW hbs hW1 hc1
      gi_wp2_with fail
      refine wpIn_rangeFunc_ownG (n := 101) (S := fun zs => zs.map Subtype.val = backs ys xs.length) (Sp := fun pre => pre.map Subtype.val <+: backs ys xs.length) rfl (by decide) (gf := 71) (lb := #[.pointer (some ⟨wr.heap.size + 1, 0, none⟩)]) rfl trivial (enters_of Try.func71 (by kernel_rfl) rfl)
        (backward_stops (wr.heap.size + 1) (some ⟨ga, 0, none⟩) ga xs.length ca ys hlen W1 (by rw [HX.out.1]; omega) (fun _ => (HX.out.2.2.2.2 : Blk _ _ _ _).lt) (HX.out.2.2.2.1.cell 0) (fun _ => rfl) (fun j hj => dat_cell HX.out.2.2.2.2 (by omega))) keepTwo_t (keepTwo_b (by rw [HX.out.1]; omega) (HX.out.2.2.2.2 : Blk _ _ _ _).lt) (Below.refl _ _) (fun _ => rfl)
        (fun pre W => Below W1.heap.size W1 W ∧ ∀ x ∈ pre, onDay xs p.day d x.1 = false)
        (fun c pre W => c = .exit 2 ∧ Mod (· = gk) W1 W ∧ ∃ q x, pre = q ++ [x] ∧ (∀ y ∈ q, onDay xs p.day d y.1 = false) ∧ onDay xs p.day d x.1 = true ∧ Blk W gk 4 (bools ((markAll xs ys p.day ks (D.take k)).set x.1.2.toNat true)))
        (fun s A B row hs hg hr => ⟨hs.1.grown hg hs.1.size (fun k e => (hr k e).1), hs.2⟩)
        (fun c s A B row hs hg hr => ⟨hs.1, hs.2.1.grown hg (fun k e hk => by have := (hr k e).1; omega), by
          obtain ⟨q, x, h1, h2, h3, h4⟩ := hs.2.2
          exact ⟨q, x, h1, h2, h3, (hg.block gk h4.lt (fun e => by have := (hr gk e.symm).1; have := HX.out.1; have := HR.out.mod.size; omega)).trans h4⟩⟩)
        ⟨Below.refl _ _, by simp⟩
        (fun x => { tmps := #[Value.slice A xs.length c, Value.slice (some ⟨ga, 0, none⟩) xs.length ca, Value.agg #[.int .i64 p.last, .int .i64 p.days, .int .i64 p.day, .int .i64 p.within, .string p.tag], Value.slice (some ⟨gk, 0, none⟩) xs.length xs.length,
          Value.pointer (some ⟨w.heap.size, 0, none⟩), undef, Value.pointer (some ⟨w.heap.size + 1, 0, none⟩), Value.pointer (some ⟨w.heap.size + 1 + 1, 0, none⟩), Value.int .i64 (lz - 1), undef, Value.pointer (some ⟨wr.heap.size, 0, none⟩), undef, .int .i64 x.1.2, Value.pointer (some ⟨w.heap.size + 1, 1, none⟩),
          Value.int .i64 p.days, Value.int .i64 (max p.days 0), Value.slice A xs.length c, Value.pointer (some ⟨w.heap.size + 1, 2, none⟩), Value.int .i64 p.day, Value.slice (some ⟨g, 0, none⟩) D.length cap, Value.int .i64 ↑D.length, Value.int .i64 kz, Value.bool true, Value.pointer (some ⟨g, kz.toNat, none⟩),
          Value.int .i64 d, Value.int .i64 lz, Value.bool false, Value.int .i64 lz, Value.int .i64 (lz - 1), Value.slice (some ⟨ga, 0, none⟩) xs.length ca, .func (.func 71) #[] #[.pointer (some ⟨wr.heap.size + 1, 0, none⟩)], .int .i64 x.1.1, .int .i64 x.1.2, u33, u34, u35, u36, u37, u38, u39, u40, u41, u42, u43, u44, u45, u46], defers := [] }) ?assign ?body ?done ?stop
      case assign =>
        intro l x W K hK
        gi_wp2
        exact hK
      case body =>
        rintro l pre x W ⟨hbW, hpre⟩ _
        obtain ⟨hx1, hx2⟩ := x.2
        have hy := hin x.1.2 (by rw [hx2, List.getD_eq_getElem?_getD, List.getElem?_eq_getElem (by omega)]; exact List.getElem_mem _)
        obtain ⟨hy0, hyn⟩ := hy
        have hyn' : x.1.2.toNat < xs.length := by omega
        clear hx1 hx2
        have hwW : Mod (· = gk) w W := ((HR.out.mod).trans (Mod.of_below HX.out.2.1 _)).trans (Mod.of_below hbW _)
        have hbw0 : Below w0.heap.size w0 W := HB.out.trans (hwW.belowB HB.out.size (fun j hj e => by omega))
        obtain ⟨b, o, rfl, hblt, hr, hok⟩ := HS.out x.1.2.toNat hyn'
        have hrW : W.rangeAt b (o + x.1.2.toNat * 37) (xs.getD x.1.2.toNat default).cells := rangeAt_below hr hbw0 hblt
        have hq0 : W.cell? ⟨b, o + x.1.2.toNat * 37, none⟩ = some (.int .i64 (xs.getD x.1.2.toNat default).time) := hrW 0 _ rfl
        have hsz := HX.out.1
        have hW1W := hbW.size
        have hwr := HR.out.mod.size
        have kb : Blk W w.heap.size _ _ := (HR.out.bl.below HX.out.2.1 HR.out.bl.lt).below hbW (by have := HR.out.bl.lt; omega)
        have kp : Blk W (w.heap.size + 1) _ _ := (HR.out.bp.below HX.out.2.1 HR.out.bp.lt).below hbW (by have := HR.out.bp.lt; omega)
        have kk : Blk W (w.heap.size + 1 + 1) _ _ := (HR.out.bk.below HX.out.2.1 HR.out.bk.lt).below hbW (by have := HR.out.bk.lt; omega)
        have kd : Blk W wr.heap.size _ _ := HX.out.2.2.1.below hbW (by omega)
        have kg : Blk W gk _ _ := (HR.out.kc.below HX.out.2.1 HR.out.kc.lt).below hbW (by have := HR.out.kc.lt; omega)
        have z1 : ∀ q : In (fun W' => Below W.heap.size W W'), q.world.cell? ⟨w.heap.size, 0, none⟩ = some (.slice (some ⟨b, o, none⟩) xs.length c) := fun q => (kb.below q.ok kb.lt).cell 0
        have z2 : ∀ q : In (fun W' => Below W.heap.size W W'), q.world.cell? ⟨b, o + x.1.2.toNat * 37, none⟩ = some (.int .i64 (xs.getD x.1.2.toNat default).time) := fun q => (q.ok.cell (p := ⟨b, _, none⟩) (World.block_lt_of_cell? W _ hq0)).trans hq0
        have z3 : ∀ q : In (fun W' => Below W.heap.size W W'), q.world.cell? ⟨w.heap.size + 1, 2, none⟩ = some (.int .i64 p.day) := fun q => (kp.below q.ok kp.lt).cell 2
        have z4 : ∀ q : In (fun W' => Below W.heap.size W W'), q.world.cell? ⟨wr.heap.size, 0, none⟩ = some (.int .i64 d) := fun q => (kd.below q.ok kd.lt).cell 0
        have hcall : Hid (∀ q : In (fun W' => Below W.heap.size W W'), Calls Try.prog 41 #[.int .i64 (xs.getD x.1.2.toNat default).time, .int .i64 p.day] q.world fun e w'' => e = .returned (.int .i64 ((xs.getD x.1.2.toNat default).time / p.day)) ∧ ∃ q' : In (fun W' => Below W.heap.size W W'), w'' = q'.world) := fun q =>
          Calls.into (floor_any _ p.day hok.2.1 hday.1 hday.2 q.world) fun e w' h => ⟨h.1, h.2 ▸ q.ok⟩
        have hF : Hid (Below W.heap.size W W.drew) := (Below.refl _ _).drew
        have HKB := Lib.hid (And.intro kk kg)
        have hxn : ((xs.length : Nat) : Int) ≤ 1073741824 := by omega
        clear hrW hq0 kb kp kd hwW hbw0 hr kk kg
        have hon : onDay xs p.day d x.1 = decide ((xs.getD x.1.2.toNat default).time / p.day = d) := rfl
        have HON := Lib.hid hon
        clear hon hok
        generalize (xs.getD x.1.2.toNat default).time = tm at *
        gi_wp2_with fail
        refine wpIn_region_in (fun W' => Below W.heap.size W W') (Below.refl _ _).drew (by kernel_rfl) ?letsOut (by kernel_rfl) (by kernel_rfl) ?_
        case letsOut => rintro ⟨a, w, h⟩; exact h
        repeat (quiet_step (exact hcall.out _))
        refine wpQuiet_nil ?_
        rintro w2 ⟨⟨_, hw2⟩, rfl⟩
        clear z1 z2 z3 z4 hcall
        have HW2 := Lib.hid hw2
        have hmlen : (markAll xs ys p.day ks (D.take k)).length = xs.length := (markAll_length _ _ _ _ _).trans hks
        have ck := ((HKB.out.1.below hw2 HKB.out.1.lt).cell 0)
        have cg : ∃ u, w2.cell? ⟨gk, x.1.2.toNat, none⟩ = some u := ⟨_, by rw [(HKB.out.2.below hw2 HKB.out.2.lt).cell, List.getElem?_eq_getElem (by unfold bools; rw [List.length_map, hmlen]; exact hyn')]⟩
        obtain ⟨u, cg⟩ := cg
        have fg := (HKB.out.2.below hw2 HKB.out.2.lt).frozen x.1.2.toNat
        simp only [List.getElem?_cons_zero] at ck
        clear hw2 HB HDAT HP hDe HS hsz hW1W hwr
        by_cases hone : tm / p.day = d
        · have hb : (tm / p.day == d) = true := by simp [hone]
          gi_wp2_with fail
          refine ⟨(keepsFrom_below HW2.out).trans ((KeepsOthers.setCell _ _ _).from _), rfl, ?_, pre, x, rfl, hpre, by rw [HON.out, hone]; simp, ?_⟩
          · exact (Mod.of_below (hbW.trans (HW2.out.mono hbW.size)) (· = gk)).setCell (p := ⟨gk, x.1.2.toNat, none⟩) (fun _ => rfl) _
          · have := (HKB.out.2.below HW2.out HKB.out.2.lt).set_ x.1.2.toNat (.bool true)
            unfold bools at this ⊢
            rwa [← List.map_set] at this
        · have hb : (tm / p.day == d) = false := by simp [hone]
          clear ck cg fg
          gi_wp2_with fail
          refine ⟨keepsFrom_below HW2.out, keepTwo_below (by have := HX.out.2.2.2.1.lt; have := hbW.size; omega) (by have := (HX.out.2.2.2.2 : Blk _ _ _ _).lt; have := hbW.size; omega) HW2.out, hbW.trans (HW2.out.mono hbW.size), fun y hy => ?_⟩
          rcases List.mem_append.1 hy with h | h
          · exact hpre y h
          · obtain rfl := List.mem_singleton.1 h
            rw [HON.out]; simp [hone]
      case done =>
        rintro D0 zs W hD0 hzs ⟨hbW, hall⟩ hK
        have hlast : lastOf xs ys p.day d = none := by
          unfold lastOf
          rw [← hzs, List.find?_eq_none]
          intro y hy
          obtain ⟨z, hz, rfl⟩ := List.mem_map.1 hy
          simp [hall z hz]
        have hmk : Hid (markAll xs ys p.day ks (D.take (k + 1)) = markAll xs ys p.day ks (D.take k)) := by
          show _ = _
          rw [markAll_take xs ys p.day ks D k hlt, HDK.out, mark, hlast]
        have hN := HR.out.step (W := W) (kc' := bools (markAll xs ys p.day ks (D.take (k + 1)))) ((Mod.of_below HX.out.2.1 _).trans (Mod.of_below hbW _)) (by rw [hmk.out]; exact (HR.out.kc.below HX.out.2.1 HR.out.kc.lt).below hbW (by have := HR.out.kc.lt; have := HX.out.1; omega)) hgkw D0 (by have := HX.out.1; omega) hK
        have HN := Lib.hid hN
        clear hN hmk hlast hbW hall hK hzs HR
        have hk2 : IntKind.i64.wrap (kz + 1) = kz + 1 := by rw [IntKind.wrap_i64]; omega
        gi_wp2_with fail
        refine ⟨⟨_, k + 1, kz + 1, lz - 1, ?_, ?_, hlt, ?_, HN, ?_⟩, ?_⟩
        · have := HKZ.out; omega
        · have := HLZ.out; omega
        · have := HLZ.out; omega
        · repeat apply Exists.intro
          rfl
        · have := HKZ.out; simp [intOf]; omega
      case stop =>
        rintro D0 c pre W hD0 hpre ⟨rfl, hmW, q, x, rfl, hq, hx, hblk⟩ hK
        have hlast : lastOf xs ys p.day d = some x.1 := by
          unfold lastOf
          refine find_prefix _ _ (q.map Subtype.val) _ (by simpa using hpre) (fun y hy => ?_) hx
          obtain ⟨z, hz, rfl⟩ := List.mem_map.1 hy
          exact hq z hz
        have hmk : Hid (markAll xs ys p.day ks (D.take (k + 1)) = (markAll xs ys p.day ks (D.take k)).set x.1.2.toNat true) := by
          show _ = _
          rw [markAll_take xs ys p.day ks D k hlt, HDK.out, mark, hlast]
        have hN := HR.out.step (W := W) (kc' := bools (markAll xs ys p.day ks (D.take (k + 1)))) ((Mod.of_below HX.out.2.1 _).trans hmW) (by rw [hmk.out]; exact hblk) hgkw D0 (by have := HX.out.1; omega) hK
        have HN := Lib.hid hN
        clear hN hmk hlast hmW hq hx hblk hK hpre HR
        have hk2 : IntKind.i64.wrap (kz + 1) = kz + 1 := by rw [IntKind.wrap_i64]; omega
        gi_wp2_with fail
        refine ⟨⟨_, k + 1, kz + 1, lz - 1, ?_, ?_, hlt, ?_, HN, ?_⟩, ?_⟩
        · have := HKZ.out; omega
        · have := HLZ.out; omega
        · have := HLZ.out; omega
        · repeat apply Exists.intro
          rfl
        · have := HKZ.out; simp [intOf]; omega
  · have hltz : ¬ kz < (D.length : Int) := by omega
    have HQ : Hid (D.take (max p.days 0).toNat = D.take k) := by show _ = _; rw [List.take_of_length_le (by omega), List.take_of_length_le (by omega)]
    gi_wp2_with fail
    rw [HQ.out]
    refine leaves_marks ds wr.heap.size _ HR.out.marks (fun W' hm => ?_)
    have hm0 : Mod (· = gk) w W' := HR.out.mod.then hm (fun j hj e => by have := HR.out.kc.lt; omega)
    exact ⟨_, results_none rfl _ _ _, rfl, hm0, HR.out.kc.mod hm (by have := hgkw; omega)⟩

end Go.Proofs.Ytfpcgancmgeagaa
