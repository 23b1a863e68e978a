/- Contracts of slices.Clone and of snap.Sort, as far as the sorted row's last one. -/
import Derived.Test.YtfpcgancmgeagaaVAll
import Derived.Test.YtfpcgancmgeagaaOpenP
import Derived.Test.YtfpcgancmgeagaaMoreP
namespace Go.Proofs.Ytfpcgancmgeagaa
open Go.RowKit

def cfS (ss : List Sn) (x y : Int) : Int := snapCmp (snAt ss x) (snAt ss y)
theorem bef_cfS (ss : List Sn) (x y : Int) : bef (cfS ss) x y ↔ ahead ss x y := by
  unfold bef ahead cfS
  have := snap_3.anti (snAt ss x) (snAt ss y)
  split <;> omega
theorem cfS_trans (ss : List Sn) : BefTrans (cfS ss) (fun _ => True) := fun x y z _ _ _ h1 h2 => by
  rw [bef_cfS] at *
  exact ahead_trans h1 h2
def sortedV (ss : List Sn) : List Int := stable (cfS ss) (rng ss.length)
theorem sortedV_sorts (ss : List Sn) : (sortedV ss).Perm (rng ss.length) ∧ (sortedV ss).Pairwise (ahead ss) := by
  have := stable_sorts (cfS_trans ss) (rng ss.length) (rng_pairwise _) (fun _ _ => trivial)
  exact ⟨this.1, this.2.imp (fun h => (bef_cfS _ _ _).1 h)⟩
theorem sortedV_len (ss : List Sn) : (sortedV ss).length = ss.length := by rw [(sortedV_sorts ss).1.length_eq, rng_length]
/-- The last one's number. -/
def lastV (ss : List Sn) : Int := (sortedV ss).getD (ss.length - 1) 0
theorem rng_in (ss : List Sn) : ∀ y ∈ rng ss.length, InV ss y := fun y hy => mem_rng hy
theorem sortedV_in (ss : List Sn) : ∀ y ∈ sortedV ss, InV ss y := fun y hy => rng_in ss y ((sortedV_sorts ss).1.mem_iff.1 hy)
theorem lastV_in {ss : List Sn} (h : 0 < ss.length) : InV ss (lastV ss) := sortedV_in ss _ (getD_mem _ _ (by rw [sortedV_len]; omega))
theorem lastV_max {ss : List Sn} (h : 0 < ss.length) {m : Int} (hm : InV ss m) : ¬ ahead ss (lastV ss) m := by
  have hl := sortedV_len ss
  have hmem : m ∈ sortedV ss := (sortedV_sorts ss).1.mem_iff.2 (by unfold rng; exact List.mem_map.2 ⟨m.toNat, List.mem_range.2 (by have := hm.1; have := hm.2; omega), by have := hm.1; omega⟩)
  obtain ⟨k, hk, rfl⟩ := List.getElem_of_mem hmem
  unfold lastV
  rw [List.getD_eq_getElem?_getD, List.getElem?_eq_getElem (by omega)]
  simp only [Option.getD_some]
  intro ha
  by_cases e : k = ss.length - 1
  · subst e; exact ahead_irrefl ha
  · have := List.pairwise_iff_getElem.1 (sortedV_sorts ss).2 k (ss.length - 1) (by omega) (by omega) (by omega)
    exact ahead_irrefl (ahead_trans ha this)
theorem lastV_behind {ss : List Sn} (h : 0 < ss.length) : behindN ss (lastV ss) = 0 := by
  unfold behindN
  rw [List.countP_eq_zero]
  intro m hm
  simpa using lastV_max h (rng_in ss m hm)
theorem lastV_latest {ss : List Sn} (h : 0 < ss.length) (day : Int) : latest ss day (lastV ss) = true := by
  rw [latest_iff]
  intro m h0 h1 ha
  exact absurd ha (lastV_max h ⟨h0, h1⟩)
theorem lastV_time {ss : List Sn} (h : 0 < ss.length) {m : Int} (hm : InV ss m) : (snAt ss m).time ≤ (snAt ss (lastV ss)).time := by
  by_cases e : m = lastV ss
  · rw [e]; exact Int.le_refl _
  · rcases ahead_total (xs := ss) e with ha | ha
    · exact snap_time (by unfold ahead at ha; omega)
    · exact absurd ha (lastV_max h hm)
theorem lastV_top {ss : List Sn} (h : 0 < ss.length) : (snAt ss (lastV ss)).time = topT ss := by
  have a := topT_ge (xs := ss) (lastV_in h).1 (lastV_in h).2
  obtain ⟨i, i0, i1, i2, _⟩ := topT_mem h
  have b := lastV_time h (m := i) ⟨i0, i1⟩
  rw [i2] at b
  omega

/-! which keeps the last one -/
theorem lastV_byLast {ss : List Sn} (h : 0 < ss.length) (p : Pol) (hp : 1 ≤ p.last) : keepB ss p (lastV ss) = true := by
  unfold keepB
  rw [lastV_behind h, show decide (((0 : Nat) : Int) < p.last) = true from decide_eq_true (by omega)]
  simp
theorem lastV_byNear {ss : List Sn} (h : 0 < ss.length) (p : Pol) (hp : 1 ≤ p.within) : keepB ss p (lastV ss) = true := by
  unfold keepB
  have : aboveW (snAt ss (lastV ss)).time (topT ss) p.within = true := by
    unfold aboveW
    rw [lastV_top h]
    exact decide_eq_true ⟨by omega, by rw [Int.sub_self]; show (0 : Int) < _; omega⟩
  rw [this]
  simp
theorem lastV_byDay {ss : List Sn} (h : 0 < ss.length) (p : Pol) (hp : 1 ≤ p.days) (hd : 1 ≤ p.day) : keepB ss p (lastV ss) = true := by
  unfold keepB
  have hm : dayOf ss p.day (lastV ss) ∈ daysL ss p.day := (daysL_mem hd).2 ⟨_, (lastV_in h).1, (lastV_in h).2, rfl⟩
  have ht : dayOf ss p.day (lastV ss) ∈ (daysL ss p.day).take (max p.days 0).toNat := by
    rw [mem_take_iff (daysL_strict ss p.day) hm]
    have : (daysL ss p.day).countP (fun e => decide (e > dayOf ss p.day (lastV ss))) = 0 := by
      rw [List.countP_eq_zero]
      intro e he
      obtain ⟨i, i0, i1, rfl⟩ := (daysL_mem hd).1 he
      have := lastV_time h (m := i) ⟨i0, i1⟩
      have h2 : dayOf ss p.day i ≤ dayOf ss p.day (lastV ss) := Int.ediv_le_ediv (by omega) this
      simp only [gt_iff_lt, decide_eq_true_eq]
      omega
    rw [this]
    omega
  rw [show decide (dayOf ss p.day (lastV ss) ∈ (daysL ss p.day).take (max p.days 0).toNat) = true from decide_eq_true ht, lastV_latest h]
  simp

theorem flat_rng : ∀ (xs : List Sn), (rng xs.length).flatMap (fun y => (snAt xs y).cells) = xs.flatMap Sn.cells := by
  intro xs
  have : (rng xs.length).map (snAt xs) = xs := by
    apply List.ext_getElem
    · rw [List.length_map, rng_length]
    · intro i h1 h2
      rw [List.getElem_map]
      unfold rng snAt
      rw [List.getElem_map, List.getElem_range, Int.toNat_natCast, List.getD_eq_getElem?_getD, List.getElem?_eq_getElem h2]
      rfl
  conv => rhs; rw [← this]
  rw [List.flatMap_map]

set_option maxHeartbeats 1000000 in
set_option maxRecDepth 100000 in
theorem clone_any (xs : List Sn) (A : Option Addr) (c : Nat) (w : World) (hn : 0 < xs.length) (hlen : xs.length ≤ 1073741824) (h : SnsAt w A xs) :
    Calls Try.prog 47 #[.slice A xs.length c] w fun e w' => ∃ v, e = .returned v ∧ v ≠ .slice none 0 0 ∧ w'.ownsRow w.heap.size 42 37 v xs.length (xs.flatMap Sn.cells) ∧ Below w.heap.size w w' := by
  obtain ⟨z, hinfo, hzz⟩ := A_info_snap
  obtain ⟨i0, hi, hz0, hz1, hz2⟩ := info_parts hinfo
  clear hinfo
  have hok := sns_oks h
  have hflat := flat_len xs hok
  obtain ⟨b, o, rfl, hb, _, _⟩ := h 0 hn
  have hnews : Hid (∀ j u, (xs.flatMap Sn.cells)[j]? = some u → (w.alloc (.cells #[] 42)).cell? ((⟨b, o, none⟩ : Addr).add j) = some u) := by
    intro j u hj
    have hjl : j < xs.length * 37 := by have := (List.getElem?_eq_some_iff.1 hj).1; omega
    obtain ⟨b', o', e, hb', hr, hok'⟩ := h (j / 37) (by omega)
    obtain ⟨rfl, rfl⟩ : b = b' ∧ o = o' := by simpa using e
    have h1 := flat_cell xs hok (j / 37) (j % 37) (by omega) (by omega)
    rw [show j / 37 * 37 + j % 37 = j by omega, hj] at h1
    have h2 := hr (j % 37) u h1.symm
    rw [Addr.add_mid]
    have hbl := ((Below.refl w.heap.size w).alloc (Nat.le_refl _) (.cells #[] 42)).cell (p := ⟨b, o + j, none⟩) hb
    rw [hbl, show o + j = o + j / 37 * 37 + j % 37 by omega]
    exact h2
  have hone : Hid (∀ u ∈ xs.flatMap Sn.cells, u.oneCell' = true) := by
    intro u hu
    obtain ⟨s, _, hs⟩ := List.mem_flatMap.1 hu
    exact cells_ok s u hs
  have HFL := Lib.hid hflat
  have HO : Hid ((w.alloc (.cells #[] 42)).ownsRow w.heap.size 42 37 (.slice (some ⟨w.heap.size, 0, none⟩) 0 0) 0 []) := ⟨rfl, .inr ⟨_, 0, #[], rfl, Nat.le_refl _, World.alloc_heap_new w _, Nat.le_refl _, by decide, rfl, rfl⟩⟩
  have heq := fun W => Go.Lib.run_eql_slice_nil (P := Try.prog) W 22 42 (some ⟨b, o, none⟩) xs.length c 0 0 Try.underlying22
  clear h hok hflat
  go_enter Try.func47, Try.ntmps47
  go_wp2_with (first | (refine wpList_append_own _ rfl (.tmp 5) (.tmp 6) 22 rfl w.heap.size 42 i0 z 37 88 Try.underlying22 hi hz0 hz1 hz2 hzz (by decide) _ _ _ rfl HO.out ⟨b, o, none⟩ xs.length c (xs.flatMap Sn.cells) rfl HFL.out hnews.out hone.out (by unfold maxLen; omega) (by omega) (by simp) ?_) | fail)
  intro v' w2 hown' hgrow hnil
  have H := Lib.hid (And.intro hown' hgrow)
  clear hown' hgrow
  go_wp2
  go_ret
  refine ⟨_, rfl, hnil, H.out.1, ?_⟩
  exact ((Below.refl _ w).alloc (Nat.le_refl _) _).grown H.out.2 (by simp) (by rintro k e; cases e; exact Nat.le_refl _)

theorem compare_okV (ss : List Sn) (hok : ∀ s ∈ ss, s.ok) (g : Nat) : CmpOkV 49 #[] (cfS ss) ss g (fun _ => True) where
  enters := enters_of Try.func49 (by kernel_rfl) rfl
  keeps := fun _ _ _ _ => trivial
  calls := fun w x y _ hx hy => snap_compare _ _ (snAt_ok hok hx) (snAt_ok hok hy) w

theorem below_mod {w w1 w2 : World} {g n : Nat} (h : Below n w w1) (hm : Mod (· = g) w1 w2) (hg : n ≤ g) (hn : n ≤ w1.heap.size) : Below n w w2 :=
  ⟨hm.os.trans h.os, hm.tape.trans h.tape, hm.output.trans h.output, Nat.le_trans h.size hm.size, fun k hk => (hm.block k (by omega) (by omega)).trans (h.block k hk)⟩

set_option maxHeartbeats 1000000 in
set_option maxRecDepth 100000 in
theorem snap_sort (xs : List Sn) (A : Option Addr) (c : Nat) (w : World) (hn : 0 < xs.length) (hlen : xs.length ≤ 1073741824) (h : SnsAt w A xs) :
    Calls Try.prog 20 #[.slice A xs.length c] w fun e w' => ∃ g cap rest, e = .returned (.slice (some ⟨g, 0, none⟩) xs.length cap) ∧ w.heap.size ≤ g ∧ DatV xs w' g 42 rest (sortedV xs) ∧ Below w.heap.size w w' := by
  have HCL := Lib.hid (clone_any xs A c w hn hlen h)
  have hok : ∀ s ∈ xs, s.ok := by
    intro s hs
    obtain ⟨i, hi, rfl⟩ := List.getElem_of_mem hs
    obtain ⟨_, _, _, _, _, ho⟩ := h i hi
    rwa [List.getD_eq_getElem?_getD, List.getElem?_eq_getElem hi] at ho
  have HSO := fun W g cap rest (hd : DatV xs W g 42 rest (rng xs.length)) => sortStableV 49 #[] (cfS xs) xs hok g (fun _ => True) (compare_okV xs hok g) 42 rest (rng xs.length) cap xs.length W trivial (rng_in xs) hd (rng_length _) hlen
  have HS := Lib.hid HSO
  clear HSO h hok
  go_enter Try.func20, Try.ntmps20
  go_wp2_with fail
  refine HCL.out.mono ?_
  rintro _ w1 ⟨v, rfl, hnil, hown, hb⟩
  rcases hown.2 with ⟨rfl, _⟩ | ⟨g, cap, cur, rfl, hg, hgb, hcap, hmax, hsz, htake⟩
  · exact absurd rfl hnil
  have HD : Hid (DatV xs w1 g 42 (cur.toList.drop (xs.length * 37)) (rng xs.length)) := Lib.hid (by
    unfold DatV Blk
    rw [flat_rng, ← htake, List.take_append_drop, Array.toArray_toList]
    exact hgb)
  have HB := Lib.hid (And.intro hg hb)
  clear hnil hown hb hg hgb hcap hmax hsz htake HCL
  go_wp2_with fail
  refine (HS.out w1 g cap _ HD.out).mono ?_
  rintro _ w2 ⟨rfl, hs⟩
  have H2 := Lib.hid hs
  clear hs HS HD
  go_wp2
  go_ret
  exact ⟨g, cap, _, rfl, HB.out.1, H2.out.2.1, below_mod HB.out.2 H2.out.1 HB.out.1 HB.out.2.size⟩

end Go.Proofs.Ytfpcgancmgeagaa
