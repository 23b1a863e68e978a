/- Contract of the document's Keep. -/
import Derived.Test.YtfpcgancmgeagaaRefG
import Derived.Deep.DeepCutAuto
namespace Go.Proofs.Ytfpcgancmgeagaa
open Go.RowKit

def keeps (xs : List Sn) (p : Pol) (k : Nat) : List Bool := (rng k).map (keepB xs p)
theorem keeps_succ (xs : List Sn) (p : Pol) (k : Nat) : keeps xs p (k + 1) = keeps xs p k ++ [keepB xs p k] := by
  unfold keeps; rw [rng_succ, List.map_append]; rfl
theorem keeps_length (xs : List Sn) (p : Pol) (k : Nat) : (keeps xs p k).length = k := by unfold keeps; rw [List.length_map, rng_length]

/-- What the loop of Keep holds. -/
structure KeepI (w : World) (xs : List Sn) (p : Pol) (G : Option Addr) (D : List Int) (k : Nat) (v : Value) (W : World) : Prop where
  own : W.ownsRow w.heap.size 4 1 v k (bools (keeps xs p k))
  below : Below w.heap.size w W
  pol : Blk W w.heap.size 31 p.cells
  days : 0 < D.length → ∃ g rest, G = some ⟨g, 0, none⟩ ∧ Dat W g 2 rest D

theorem KeepI.mono {w W W' : World} {xs : List Sn} {p : Pol} {G : Option Addr} {D : List Int} {k : Nat} {v : Value} (h : KeepI w xs p G D k v W) (hb : Below W.heap.size W W') : KeepI w xs p G D k v W' :=
  ⟨own_below h.own hb (Nat.le_refl _), h.below.trans (hb.mono h.below.size), h.pol.below hb h.pol.lt, fun h0 => by
    obtain ⟨g, rest, e, hd⟩ := h.days h0
    exact ⟨g, rest, e, (hd : Blk _ _ _ _).below hb (hd : Blk _ _ _ _).lt⟩⟩
theorem KeepI.next {w W W' : World} {xs : List Sn} {p : Pol} {G : Option Addr} {D : List Int} {k : Nat} {v v' : Value} {o : Obj} (h : KeepI w xs p G D k v W)
    (hown : W'.ownsRow w.heap.size 4 1 v' (k + 1) (bools (keeps xs p k) ++ [.bool (keepB xs p k)])) (hg : (W.alloc o).grownBy W' v.ownBlock) : KeepI w xs p G D (k + 1) v' W' := by
  have h1 := h.mono ((Below.refl W.heap.size W).alloc (Nat.le_refl _) o)
  refine ⟨?_, h1.below.grown hg h1.below.size (fun j hj => (h.own.lt j hj).1), ?_, fun h0 => ?_⟩
  · rw [keeps_succ]; unfold bools at hown ⊢; rw [List.map_append]; exact hown
  · exact (hg.block _ h1.pol.lt (fun e => blk_not_row h1.pol (by decide) h1.own e)).trans h1.pol
  · obtain ⟨g, rest, e, hd⟩ := h1.days h0
    exact ⟨g, rest, e, (hg.block _ (hd : Blk _ _ _ _).lt (fun e => blk_not_row (hd : Blk _ _ _ _) (by decide) h1.own e)).trans hd⟩

theorem take_mem (D : List Int) (d : Int) (m : Nat) (h : m < D.length) : decide (d ∈ D.take (m + 1)) = (decide (d ∈ D.take m) || decide (D.getD m 0 = d)) := by
  rw [List.take_succ_eq_append_getElem h, Bool.eq_iff_iff]
  simp only [Bool.or_eq_true, decide_eq_true_eq, List.mem_append, List.mem_singleton, List.getD_eq_getElem?_getD, List.getElem?_eq_getElem h, Option.getD_some]
  constructor
  · rintro (h | h)
    · exact .inl h
    · exact .inr h.symm
  · rintro (h | h)
    · exact .inl h
    · exact .inr h.symm
theorem take_all (D : List Int) {m n : Nat} (h : m = D.length ∨ m = n) (hn : m ≤ n) : D.take m = D.take n := by
  rcases h with rfl | rfl
  · rw [List.take_length, List.take_of_length_le hn]
  · rfl
theorem keepB_parts (xs : List Sn) (p : Pol) (k : Nat) (b1 a t : Bool) (h1 : b1 = (decide ((behindN xs k : Int) < p.last) || (decide (dayOf xs p.day k ∈ (daysL xs p.day).take (max p.days 0).toNat) && latest xs p.day k)))
    (ha : a = aboveW (xs.getD k default).time (topT xs) p.within) (ht : t = (!p.tag.toList.isEmpty && (xs.getD k default).tag.toList == p.tag.toList)) : keepB xs p k = (if a || t then true else b1) := by
  unfold keepB
  have e : snAt xs (k : Int) = xs.getD k default := by unfold snAt; rw [Int.toNat_natCast]
  rw [e, h1, ha, ht]
  cases aboveW (xs.getD k default).time (topT xs) p.within <;> cases (!p.tag.toList.isEmpty && (xs.getD k default).tag.toList == p.tag.toList) <;> simp

theorem one_bool (x : Bool) : ∀ u ∈ [Value.bool x], u.oneCell' = true := by
  intro u hu
  simp only [List.mem_singleton] at hu
  subst hu
  rfl

set_option maxHeartbeats 4000000 in
set_option maxRecDepth 100000 in
theorem refkeep_any (xs : List Sn) (A : Option Addr) (c : Nat) (p : Pol) (hp : p.ok) (w : World) (hlen : xs.length ≤ 1073741824) (h : SnsAt w A xs) :
    Calls Try.prog 14 #[.slice A xs.length c, .agg p.cells.toArray] w fun e w' => ∃ v, e = .returned v ∧ w'.ownsRow w.heap.size 4 1 v xs.length (bools (keeps xs p xs.length)) ∧ Below w.heap.size w w' := by
  obtain ⟨i0, hi, hz0, hz1, hz2⟩ := info_parts A_info_bool
  have HS := Lib.hid h
  have HP := Lib.hid hp
  have hk1 : KeepI w xs p none [] 0 (.slice (some ⟨w.heap.size + 1, 0, none⟩) 0 0) ((w.alloc (.cells p.cells.toArray 31)).alloc (.cells #[] 4)) :=
    ⟨⟨rfl, .inr ⟨w.heap.size + 1, 0, #[], rfl, by omega, (by have := World.alloc_heap_new (w.alloc (.cells p.cells.toArray 31)) (.cells #[] 4); rw [World.size_alloc] at this; exact this), Nat.le_refl _, by decide, rfl, rfl⟩⟩,
      ((Below.refl _ _).alloc (Nat.le_refl _) _).alloc (by simp) _, (Blk.new w _ _).alloc _, fun h0 => absurd h0 (by simp)⟩
  have HK1 := Lib.hid hk1
  have HD1 := Lib.hid (refdays_any xs A c p.day hp.2.2.1 ((w.alloc (.cells p.cells.toArray 31)).alloc (.cells #[] 4)) hlen (h.below hk1.below))
  clear h hp hk1
  simp only [Pol.cells] at HD1 HK1 ⊢
  go_enter Try.func14, Try.ntmps14
  go_wp2_with fail
  refine HD1.out.mono ?_
  rintro e w2 ⟨v, rfl, hI⟩
  obtain ⟨G, cd, rfl, hdat⟩ := own_any hI.own
  have hK2 : KeepI w xs p G (daysL xs p.day) 0 (.slice (some ⟨w.heap.size + 1, 0, none⟩) 0 0) w2 := by
    have h3 := HK1.out.mono (by have := hI.below; exact this)
    exact ⟨h3.own, h3.below, h3.pol, fun h0 => by obtain ⟨g, rest, e, _, hd⟩ := hdat h0; exact ⟨g, rest, e, hd⟩⟩
  have HK2 := Lib.hid hK2
  have hDl := daysL_le xs p.day
  obtain ⟨D, hD⟩ : ∃ D, daysL xs p.day = D := ⟨_, rfl⟩
  rw [hD] at HK2 hDl ⊢
  have HDD := Lib.hid hD
  clear hK2 hI hdat HK1 HD1 hD
  go_wp2_with fail
  go_loopw [5, 7] (fun v i wr => ∃ k : Nat, k ≤ xs.length ∧ i = .int .i64 k ∧ Hid (KeepI w xs p G D k v wr)) (fun _ i _ => xs.length - (intOf i).toNat)
  case atStart => exact ⟨0, Nat.zero_le _, rfl, HK2⟩
  case round =>
    obtain ⟨k, hk, rfl, HB⟩ := hrel
    by_cases hlt : k < xs.length
    · have hltz : (k : Int) < (xs.length : Int) := by omega
      have hltd : decide (k < xs.length) = true := decide_eq_true hlt
      have kp := HB.out.pol
      have HF : Hid (Below wr.heap.size wr wr.drew) := (Below.refl _ _).drew
      have z1 : ∀ q : In (fun W' => Below wr.heap.size wr W'), q.world.cell? ⟨w.heap.size, 0, none⟩ = some (.int .i64 p.last) := fun q => (kp.below q.ok kp.lt).cell 0
      have HA1 : Hid (∀ q : In (fun W' => Below wr.heap.size wr W'), Calls Try.prog 36 #[.slice A xs.length c, .int .i64 k] q.world fun e w'' => e = .returned (.int .i64 (behindN xs k : Nat)) ∧ ∃ q' : In (fun W' => Below wr.heap.size wr W'), w'' = q'.world) := fun q =>
        Calls.into (after_any xs A c k q.world hlen (HS.out.below (HB.out.below.trans (q.ok.mono HB.out.below.size))) hlt) fun e w' h => ⟨h.1, q.ok.trans (h.2.mono q.ok.size)⟩
      clear kp
      go_wp2_with fail
      refine wp_region_in (fun W' => Below wr.heap.size wr W') HF.out (by kernel_rfl) (by kernel_rfl) ?_
      repeat (go_big_quiet_step (exact HA1.out _))
      refine wpQuiet_nil ?_
      rintro w3 ⟨⟨_, hw3⟩, rfl⟩
      have HB3 := Lib.hid (HB.out.mono hw3)
      clear hw3 z1 HA1 HF
      obtain ⟨b0, hbn⟩ : ∃ b0, decide ((behindN xs k : Int) < p.last) = b0 := ⟨_, rfl⟩
      rw [hbn]
      have HBN := Lib.hid hbn
      clear hbn
      go_step
      go_step
      go_step
      go_cut [8] (fun s8 W => ∃ b1 : Bool, s8 = .bool b1 ∧ Hid (b1 = (b0 || (decide (dayOf xs p.day k ∈ D.take (max p.days 0).toNat) && latest xs p.day k)) ∧ KeepI w xs p G D k u5 W))
      case first =>
        have c2 := HB3.out.pol.cell 2
        simp only [Pol.cells, List.getElem?_cons_zero, List.getElem?_cons_succ] at c2
        by_cases hd1 : 1 ≤ p.day
        · have hdd : decide (p.day ≥ 1) = true := decide_eq_true hd1
          have HL := Lib.hid (latest_any xs A c k p.day hd1 HP.out.2.2.1.2 w3 hlen (HS.out.below HB3.out.below) hlt)
          have HD1 := Lib.hid hd1
          clear hd1
          cases hlat : latest xs p.day k
          · rw [hlat] at HL
            have HLT := Lib.hid hlat
            go_wp2_with fail
            refine HL.out.mono ?_
            rintro e w4 ⟨rfl, hb4⟩
            have HB4 := Lib.hid (HB3.out.mono hb4)
            clear hb4 HL c2 hlat
            go_wp2_with fail
            go_meet
            exact ⟨b0, rfl, by rw [HLT.out]; simp, HB4.out⟩
          · rw [hlat] at HL
            have HLT := Lib.hid hlat
            go_wp2_with fail
            refine HL.out.mono ?_
            rintro e w4 ⟨rfl, hb4⟩
            have HB4 := Lib.hid (HB3.out.mono hb4)
            clear hb4 HL c2 hlat
            obtain ⟨b, o, rfl, hblt, hck⟩ := HS.out.time hlt
            have tk : In64 (xs.getD k default).time := by obtain ⟨_, _, _, _, _, ok⟩ := HS.out k hlt; exact ok.2.1
            have hdk : dayOf xs p.day k = (xs.getD k default).time / p.day := by unfold dayOf snAt; rw [Int.toNat_natCast]
            have HDK := Lib.hid hdk
            clear hdk
            obtain ⟨t, ht⟩ : ∃ t, (xs.getD k default).time = t := ⟨_, rfl⟩
            rw [ht] at tk hck HDK
            have HT := Lib.hid (And.intro tk (And.intro hblt hck))
            obtain ⟨N, hN⟩ : ∃ N, (max p.days 0).toNat = N := ⟨_, rfl⟩
            have HN := Lib.hid hN
            clear ht tk hblt hck hN
            go_wp2_with fail
            go_loopw [8, 9] (fun s8 m W => ∃ i : Nat, i ≤ D.length ∧ i ≤ N ∧ m = .int .i64 i ∧ s8 = .bool (b0 || decide (t / p.day ∈ D.take i)) ∧ Hid (KeepI w xs p G D k u5 W)) (fun _ m _ => D.length - (intOf m).toNat)
            case atStart => exact ⟨0, Nat.zero_le _, Nat.zero_le _, rfl, by simp, HB4⟩
            case round =>
              obtain ⟨i, hiD, hiN, rfl, rfl, HW⟩ := hrel
              have c1 := HW.out.pol.cell 1
              simp only [Pol.cells, List.getElem?_cons_zero, List.getElem?_cons_succ] at c1
              by_cases hgo : i < D.length ∧ i < N
              · obtain ⟨g1, g2⟩ := hgo
                have g1d : decide (i < D.length) = true := decide_eq_true g1
                have g2d : decide ((i : Int) < p.days) = true := decide_eq_true (by have := HN.out; omega)
                have g1z : (i : Int) < (D.length : Int) := by omega
                have HTM := Lib.hid (take_mem D (t / p.day) i g1)
                obtain ⟨g, rest, rfl, hdat⟩ := HW.out.days (by omega)
                have hld := dat_cell hdat g1
                have kp := HW.out.pol
                have kd : Blk wr g 2 _ := hdat
                have hwt : wr.cell? ⟨b, o + k * 37, none⟩ = some (.int .i64 t) := (HW.out.below.cell (p := ⟨b, _, none⟩) HT.out.2.1).trans HT.out.2.2
                have z1 := one_cell hwt
                have z2 := one_cell hld
                have z3 : ∀ q : In (fun W' => W' = wr.drew), q.world.cell? ⟨w.heap.size, 2, none⟩ = some (.int .i64 p.day) := one_cell (kp.cell 2)
                have HD2 : Hid (∀ q : In (fun W' => W' = wr.drew), Calls Try.prog 38 #[.int .i64 t, .int .i64 p.day] q.world fun e w'' => e = .returned (.int .i64 (t / p.day)) ∧ ∃ q' : In (fun W' => W' = wr.drew), w'' = q'.world) := fun q =>
                  Calls.into (day_any t p.day HT.out.1 HD1.out HP.out.2.2.1.2 q.world) fun e w' h => ⟨h.1, h.2 ▸ q.ok⟩
                clear hwt hld kp kd hdat
                generalize D.getD i 0 = y at *
                by_cases hy : y = t / p.day
                · have hyb : (y == t / p.day) = true := by simpa using hy
                  have HG : Hid (decide (t / p.day ∈ D.take (i + 1)) = true) := Lib.hid (by rw [HTM.out, decide_eq_true hy]; simp)
                  clear hy HTM
                  generalize t / p.day = d at *
                  go_wp2_with fail
                  refine wp_region_in (fun W' => W' = wr.drew) rfl (by kernel_rfl) (by kernel_rfl) ?_
                  repeat (go_big_quiet_step (exact HD2.out _))
                  refine wpQuiet_nil ?_
                  rintro W6 ⟨⟨_, hW6⟩, rfl⟩
                  obtain rfl := hW6
                  clear z1 z2 z3 HD2
                  go_wp2
                  go_roundw
                  case rel => exact ⟨i + 1, by omega, by omega, by go_num, by rw [HG.out]; simp, HW.out.mono ((Below.refl _ _).drew)⟩
                  case measure => simp [intOf]; omega
                · have hyb : (y == t / p.day) = false := by simpa using hy
                  have HG : Hid (decide (t / p.day ∈ D.take (i + 1)) = decide (t / p.day ∈ D.take i)) := Lib.hid (by rw [HTM.out, decide_eq_false hy]; simp)
                  clear hy HTM
                  generalize t / p.day = d at *
                  go_wp2_with fail
                  refine wp_region_in (fun W' => W' = wr.drew) rfl (by kernel_rfl) (by kernel_rfl) ?_
                  repeat (go_big_quiet_step (exact HD2.out _))
                  refine wpQuiet_nil ?_
                  rintro W6 ⟨⟨_, hW6⟩, rfl⟩
                  obtain rfl := hW6
                  clear z1 z2 z3 HD2
                  go_wp2
                  go_roundw
                  case rel => exact ⟨i + 1, by omega, by omega, by go_num, by rw [HG.out], HW.out.mono ((Below.refl _ _).drew)⟩
                  case measure => simp [intOf]; omega
              · have HFI : Hid ((b0 || decide (t / p.day ∈ D.take i)) = (b0 || (decide (dayOf xs p.day k ∈ D.take (max p.days 0).toNat) && latest xs p.day k))) := Lib.hid (by
                  rw [HDK.out, HLT.out, Bool.and_true, HN.out, take_all D (m := i) (n := N) (by omega) hiN])
                rcases (show (¬ i < D.length) ∨ (i < D.length ∧ ¬ ((i : Int) < p.days)) by have := HN.out; omega) with g1 | ⟨g1, g2⟩
                · have g1d : decide (i < D.length) = false := decide_eq_false g1
                  go_wp2_with fail
                  go_meet
                  exact ⟨_, rfl, HFI.out, HW.out⟩
                · have g1d : decide (i < D.length) = true := decide_eq_true g1
                  have g2d : decide ((i : Int) < p.days) = false := decide_eq_false g2
                  go_wp2_with fail
                  go_meet
                  exact ⟨_, rfl, HFI.out, HW.out⟩
        · have hdd : decide (p.day ≥ 1) = false := decide_eq_false hd1
          have HDZ : Hid (D = []) := by rw [← HDD.out]; exact daysL_zero xs p.day (by omega)
          clear hd1
          go_wp2_with fail
          go_meet
          exact ⟨b0, rfl, by rw [HDZ.out]; simp, HB3.out⟩
      case rest =>
        obtain ⟨b1, rfl, HC⟩ := hcut
        obtain ⟨b, o, rfl, hblt, hck⟩ := HS.out.time hlt
        have ok : (xs.getD k default).ok := by obtain ⟨_, _, _, _, _, ok⟩ := HS.out k hlt; exact ok
        have htg : w.cell? ⟨b, o + k * 37 + 2, none⟩ = some (.string (xs.getD k default).tag) := by
          obtain ⟨b', o', e, _, hr, _⟩ := HS.out k hlt
          obtain ⟨rfl, rfl⟩ : b = b' ∧ o = o' := by simpa using e
          exact hr 2 _ (by simp [Sn.cells])
        have hle : (xs.getD k default).time ≤ topT xs := by
          have := topT_ge (xs := xs) (i := (k : Int)) (by omega) (by omega)
          unfold snAt at this; rwa [Int.toNat_natCast] at this
        have htop : In64 (topT xs) := by
          obtain ⟨i, i0, i1, i2, _⟩ := topT_mem (xs := xs) (by omega)
          obtain ⟨_, _, _, _, _, ok⟩ := HS.out i.toNat (by omega)
          rw [← i2]; exact ok.2.1
        have kp := HC.out.2.pol
        have hwt : wc.cell? ⟨b, o + k * 37, none⟩ = some (.int .i64 (xs.getD k default).time) := (HC.out.2.below.cell (p := ⟨b, _, none⟩) hblt).trans hck
        have hwg : wc.cell? ⟨b, o + k * 37 + 2, none⟩ = some (.string (xs.getD k default).tag) := (HC.out.2.below.cell (p := ⟨b, _, none⟩) hblt).trans htg
        have z1 := one_cell hwt
        have z2 := one_cell hwg
        have z3 : ∀ q : In (fun W' => W' = wc.drew), q.world.cell? ⟨w.heap.size, 3, none⟩ = some (.int .i64 p.within) := one_cell (kp.cell 3)
        have z4 : ∀ q : In (fun W' => W' = wc.drew), q.world.cell? ⟨w.heap.size, 4, none⟩ = some (.string p.tag) := one_cell (kp.cell 4)
        have HTP : Hid (∀ q : In (fun W' => W' = wc.drew), Calls Try.prog 40 #[.slice (some ⟨b, o, none⟩) xs.length c] q.world fun e w'' => e = .returned (.int .i64 (topT xs)) ∧ ∃ q' : In (fun W' => W' = wc.drew), w'' = q'.world) := fun q =>
          Calls.into (top_any xs (some ⟨b, o, none⟩) c q.world (by omega) hlen (HS.out.below (HC.out.2.below.trans (by rw [q.ok]; exact ((Below.refl _ wc).drew).mono HC.out.2.below.size)))) fun e w' h => ⟨h.1, h.2 ▸ q.ok⟩
        obtain ⟨a, ha⟩ : ∃ a, aboveW (xs.getD k default).time (topT xs) p.within = a := ⟨_, rfl⟩
        have HNR : Hid (∀ q : In (fun W' => W' = wc.drew), Calls Try.prog 39 #[.int .i64 (xs.getD k default).time, .int .i64 (topT xs), .int .i64 p.within] q.world fun e w'' => e = .returned (.bool a) ∧ ∃ q' : In (fun W' => W' = wc.drew), w'' = q'.world) := fun q =>
          Calls.into (near_any (xs.getD k default).time (topT xs) p.within ok.2.1 htop HP.out.2.2.2 hle q.world) fun e w' h => ⟨by rw [← ha]; exact h.1, h.2 ▸ q.ok⟩
        have HKP : Hid (∀ t, t = (!p.tag.toList.isEmpty && (xs.getD k default).tag.toList == p.tag.toList) → keepB xs p k = (if a || t then true else b1)) := fun t ht =>
          keepB_parts xs p k b1 a t (by rw [HBN.out, HDD.out]; exact HC.out.1) ha.symm ht
        have HCI := Lib.hid (HC.out.2.mono ((Below.refl _ wc).drew))
        clear hck htg hle htop kp hwt hwg ha ok
        generalize topT xs = tp at *
        generalize xs.getD k default = sx at *
        go_step
        go_step
        go_cut [8] (fun s8 W => s8 = .bool (keepB xs p k) ∧ Hid (KeepI w xs p G D k u5 W))
        case first =>
          cases a
          · cases g3 : p.tag.toList.isEmpty
            · cases g4 : (sx.tag.toList == p.tag.toList)
              · have HKB := Lib.hid (HKP.out false (by rw [g3, g4]; rfl))
                go_wp2_with fail
                refine wp_region_in (fun W' => W' = wc.drew) rfl (by kernel_rfl) (by kernel_rfl) ?_
                repeat (go_big_quiet_step (first | (with_reducible exact HTP.out _) | (with_reducible exact HNR.out _)))
                refine wpQuiet_nil ?_
                rintro W6 ⟨⟨_, hW6⟩, rfl⟩
                obtain rfl := hW6
                clear z1 z2 z3 z4 HTP HNR
                go_wp2_with fail
                go_meet
                exact ⟨by rw [HKB.out]; rfl, HCI.out⟩
              · have HKB := Lib.hid (HKP.out true (by rw [g3, g4]; rfl))
                go_wp2_with fail
                refine wp_region_in (fun W' => W' = wc.drew) rfl (by kernel_rfl) (by kernel_rfl) ?_
                repeat (go_big_quiet_step (first | (with_reducible exact HTP.out _) | (with_reducible exact HNR.out _)))
                refine wpQuiet_nil ?_
                rintro W6 ⟨⟨_, hW6⟩, rfl⟩
                obtain rfl := hW6
                clear z1 z2 z3 z4 HTP HNR
                go_wp2_with fail
                go_meet
                exact ⟨by rw [HKB.out]; rfl, HCI.out⟩
            · have HKB := Lib.hid (HKP.out false (by rw [g3]; rfl))
              go_wp2_with fail
              refine wp_region_in (fun W' => W' = wc.drew) rfl (by kernel_rfl) (by kernel_rfl) ?_
              repeat (go_big_quiet_step (first | (with_reducible exact HTP.out _) | (with_reducible exact HNR.out _)))
              refine wpQuiet_nil ?_
              rintro W6 ⟨⟨_, hW6⟩, rfl⟩
              obtain rfl := hW6
              clear z1 z2 z3 z4 HTP HNR
              go_wp2_with fail
              go_meet
              exact ⟨by rw [HKB.out]; rfl, HCI.out⟩
          · have HKB := Lib.hid (HKP.out _ rfl)
            go_wp2_with fail
            refine wp_region_in (fun W' => W' = wc.drew) rfl (by kernel_rfl) (by kernel_rfl) ?_
            repeat (go_big_quiet_step (first | (with_reducible exact HTP.out _) | (with_reducible exact HNR.out _)))
            refine wpQuiet_nil ?_
            rintro W6 ⟨⟨_, hW6⟩, rfl⟩
            obtain rfl := hW6
            clear z1 z2 z3 z4 HTP HNR
            go_wp2_with fail
            go_meet
            exact ⟨by rw [HKB.out]; rfl, HCI.out⟩
        case rest =>
          obtain ⟨rfl, HR⟩ := hcut
          clear z1 z2 z3 z4 HTP HNR HKP HCI HC
          generalize hkb : keepB xs p k = bk at *
          have HKB := Lib.hid hkb
          clear hkb
          go_wp2_with (first | (at_builtin; refine wpList_append_own _ rfl _ _ 26 rfl w.heap.size 4 i0 (.bool false) 1 1 Try.underlying26 hi hz0 hz1 hz2 rfl (by decide) _ _ _ rfl (HR.out.own.alloc _) ⟨_, 0, none⟩ 1 1 [.bool bk] rfl rfl (row_new1 _ _ _) (one_bool _) (by unfold maxLen; omega) (by omega) (by have := HR.out.below.size; simp; omega) ?_) | fail)
          intro v' w6 hown' hgrow _
          have HN : Hid (KeepI w xs p G D (k + 1) v' w6) := HR.out.next (by rw [HKB.out]; exact hown') hgrow
          clear hown' hgrow HR
          go_wp2
          go_roundw
          case rel => exact ⟨k + 1, by omega, by go_num, HN⟩
          case measure => simp [intOf]; omega
    · obtain rfl : k = xs.length := by omega
      have hltz : ¬ (xs.length : Int) < (xs.length : Int) := by omega
      go_wp2
      go_ret
      exact ⟨_, rfl, HB.out.own, HB.out.below⟩

end Go.Proofs.Ytfpcgancmgeagaa
