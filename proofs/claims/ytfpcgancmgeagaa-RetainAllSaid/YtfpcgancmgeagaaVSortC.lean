/- The library's merge of snapshots: its first two ways. Written by gen_vsort.py. -/
import Derived.Test.YtfpcgancmgeagaaVSortB
namespace Go.Proofs.Ytfpcgancmgeagaa
open Go.RowKit

set_option maxHeartbeats 1000000 in
set_option maxRecDepth 100000 in
theorem symm_oneV (fn : FuncId) (cap : Array Value) (cf : Int → Int → Int) (ss : List Sn) (hok : ∀ s ∈ ss, s.ok) (g : Nat) (E : World → Prop) (hcmp : CmpOkV fn cap cf ss g E) (t : TypeId) (rest : List Value) (xs : List Int) (c a m b f : Nat) (w : World)
    (hE : E w) (hD : ∀ x ∈ xs, InV ss x) (hd : DatV ss w g t rest xs) (ha : m = a + 1) (hm : m < b) (hb : b ≤ xs.length) (hn : xs.length ≤ 1073741824) :
    Calls Try.prog 113 #[.slice (some ⟨g, 0, none⟩) xs.length c, .int .i64 a, .int .i64 m, .int .i64 b, .func (.func fn) #[] cap] w fun e w' =>
      e = .returned (.tuple #[]) ∧ SortsV ss g t rest E w w' (symm cf (f + 1) a m b xs) := by
  have HC := Lib.hid hcmp
  have HOK := Lib.hid hok
  have H0 : Hid (SortsV ss g t rest E w w xs) := ⟨Mod.refl _ _, hd, hE⟩
  have HX := Lib.hid hD
  have he : ((m : Int) - (a : Int) == 1) = true := by simp; omega
  have HA := Lib.hid ha
  have hlt0 : a < m := by omega
  have HG : Hid (symm cf (f + 1) a m b xs = shR a (bs (fun h => decide (cf (xs.getD h 0) (xs.getD a 0) < 0)) m b - 1 - a) xs) := by rw [symm, if_pos (by omega)]; exact rfl
  clear hcmp hE hd hD ha hok
  go_enter Try.func113, Try.ntmps113
  go_wp2_with fail
  go_loopg [10, 11, 12] (b - m) (fun g1 vi vj _ wr => ∃ (i j : Nat), vi = .int .i64 i ∧ vj = .int .i64 j ∧ m ≤ i ∧ i ≤ j ∧ j ≤ b ∧ j - i ≤ g1 ∧ Hid (SortsV ss g t rest E w wr xs) ∧ Hid (bs (fun h => decide (cf (xs.getD h 0) (xs.getD a 0) < 0)) i j = bs (fun h => decide (cf (xs.getD h 0) (xs.getD a 0) < 0)) m b))
  case atStart => exact ⟨m, b, by go_num, by go_num, by omega, by omega, by omega, by omega, H0, rfl⟩
  case round =>
    clear H0
    obtain ⟨i, j, rfl, rfl, hmi, hij, hjb, hg1, HS, HO⟩ := hrel
    by_cases hlt : i < j
    · have hltz : (i : Int) < (j : Int) := by omega
      have p0 : (0 : Int) ≤ ((i : Int) + (j : Int)) / 2 := by omega
      have p1 : ((i : Int) + (j : Int)) / 2 < (xs.length : Int) := by omega
      have p2 : (a : Int) < (xs.length : Int) := by omega
      obtain ⟨h, hh⟩ : ∃ h, h = (i + j) / 2 := ⟨_, rfl⟩
      have l1 : Hid (∀ W, (∃ p : In (fun W => Below wr.heap.size wr W), W = p.world) → W.rangeAt g (h * 37) (snAt ss (xs.getD h 0)).cells) := by rintro _ ⟨p, rfl⟩; exact (HS.out.2.1.below p.ok (Blk.lt HS.out.2.1)).range HOK.out HX.out (by omega)
      have l2 : Hid (∀ W, (∃ p : In (fun W => Below wr.heap.size wr W), W = p.world) → W.rangeAt g (a * 37) (snAt ss (xs.getD a 0)).cells) := by rintro _ ⟨p, rfl⟩; exact (HS.out.2.1.below p.ok (Blk.lt HS.out.2.1)).range HOK.out HX.out (by omega)
      have K1 := Lib.hid (snAt_ok HOK.out (HX.out _ (getD_mem xs h (by omega))))
      have K2 := Lib.hid (snAt_ok HOK.out (HX.out _ (getD_mem xs a (by omega))))
      have ecall := HC.out.enters
      have hcall : Hid (∀ p : In (fun W => Below wr.heap.size wr W), Calls Try.prog fn (#[.agg (snAt ss (xs.getD h 0)).arr, .agg (snAt ss (xs.getD a 0)).arr] ++ cap) p.world fun e w'' => e = .returned (.int .i64 (cf (xs.getD h 0) (xs.getD a 0))) ∧ ∃ q : In (fun W => Below wr.heap.size wr W), w'' = q.world) := fun p =>
        Calls.into (HC.out.calls p.world _ _ (HC.out.keeps _ _ HS.out.2.2 (Mod.of_below p.ok _)) (HX.out _ (getD_mem _ _ (by omega))) (HX.out _ (getD_mem _ _ (by omega)))) fun e w' h => ⟨h.1, p.ok.trans (h.2.mono p.ok.size)⟩
      have HS2 : Hid (∀ W, Below wr.heap.size wr W → SortsV ss g t rest E w W xs) := fun W hW => SortsV.below HC.out.keeps HS.out hW
      have HY : Hid (cf (xs.getD h 0) (xs.getD a 0) < 0 → bs (fun h => decide (cf (xs.getD h 0) (xs.getD a 0) < 0)) (h + 1) j = bs (fun h => decide (cf (xs.getD h 0) (xs.getD a 0) < 0)) m b) := fun hp => by rw [← HO.out, bs_yes _ i j hlt (by simpa [← hh] using hp), ← hh]
      have HN : Hid (¬ cf (xs.getD h 0) (xs.getD a 0) < 0 → bs (fun h => decide (cf (xs.getD h 0) (xs.getD a 0) < 0)) i h = bs (fun h => decide (cf (xs.getD h 0) (xs.getD a 0) < 0)) m b) := fun hp => by rw [← HO.out, bs_no _ i j hlt (by simpa [← hh] using hp), ← hh]
      have HH := Lib.hid hh
      have e1 : (((i : Int) + (j : Int)) / 2).toNat = h := by omega
      have hhi : i ≤ h := by omega
      have hhj : h < j := by omega
      clear HS HO hh
      by_cases hlv : cf (xs.getD h 0) (xs.getD a 0) < 0
      · have hd1 : decide (cf (xs.getD h 0) (xs.getD a 0) < 0) = true := decide_eq_true hlv
        have HB := Lib.hid (HY.out hlv)
        clear HY HN hlv
        generalize xs.getD h 0 = x at l1 K1 hcall hd1
        generalize xs.getD a 0 = y at l2 K2 hcall hd1
        go_wp2_with fail
        refine wp_region_in (fun W => Below wr.heap.size wr W) (Below.refl _ _).drew (by kernel_rfl) (by kernel_rfl) ?_
        repeat (first | (refine wpQuiet_load_mid rfl 42 (.tmp 43) rfl g (h * 37) rfl _ _ l1.out Try.underlying42 rfl (snap_cells' _ K1.out) ?_; simp only [Act.put, List.setIfInBounds_toArray, List.set_cons_zero, List.set_cons_succ]) | (refine wpQuiet_load_mid rfl 42 (.tmp 47) rfl g (a * 37) rfl _ _ l2.out Try.underlying42 rfl (snap_cells' _ K2.out) ?_; simp only [Act.put, List.setIfInBounds_toArray, List.set_cons_zero, List.set_cons_succ]) | (quiet_step (exact hcall.out _)))
        refine wpQuiet_nil ?_
        rintro w2 ⟨⟨_, hw2⟩, rfl⟩
        have HN2 := Lib.hid (HS2.out w2 hw2)
        clear l1 l2 hcall HS2 hw2 ecall hd1 e1
        go_wp2
        go_roundg (j - (h + 1))
        case measure => omega
        case rel => exact ⟨h + 1, j, by rw [HH.out]; go_num, rfl, by omega, by omega, by omega, Nat.le_refl _, HN2, HB⟩
      · have hd1 : decide (cf (xs.getD h 0) (xs.getD a 0) < 0) = false := decide_eq_false hlv
        have HB := Lib.hid (HN.out hlv)
        clear HY HN hlv
        generalize xs.getD h 0 = x at l1 K1 hcall hd1
        generalize xs.getD a 0 = y at l2 K2 hcall hd1
        go_wp2_with fail
        refine wp_region_in (fun W => Below wr.heap.size wr W) (Below.refl _ _).drew (by kernel_rfl) (by kernel_rfl) ?_
        repeat (first | (refine wpQuiet_load_mid rfl 42 (.tmp 43) rfl g (h * 37) rfl _ _ l1.out Try.underlying42 rfl (snap_cells' _ K1.out) ?_; simp only [Act.put, List.setIfInBounds_toArray, List.set_cons_zero, List.set_cons_succ]) | (refine wpQuiet_load_mid rfl 42 (.tmp 47) rfl g (a * 37) rfl _ _ l2.out Try.underlying42 rfl (snap_cells' _ K2.out) ?_; simp only [Act.put, List.setIfInBounds_toArray, List.set_cons_zero, List.set_cons_succ]) | (quiet_step (exact hcall.out _)))
        refine wpQuiet_nil ?_
        rintro w2 ⟨⟨_, hw2⟩, rfl⟩
        have HN2 := Lib.hid (HS2.out w2 hw2)
        clear l1 l2 hcall HS2 hw2 ecall hd1 e1
        go_wp2
        go_roundg (h - i)
        case measure => omega
        case rel => exact ⟨i, h, rfl, by rw [HH.out]; go_num, by omega, by omega, by omega, Nat.le_refl _, HN2, HB⟩
    · have hltz : ¬ (i : Int) < (j : Int) := by omega
      obtain rfl : i = j := by omega
      have HBe : Hid (bs (fun h => decide (cf (xs.getD h 0) (xs.getD a 0) < 0)) m b = i) := by rw [← HO.out, bs_end]; exact rfl
      have HG2 : Hid (symm cf (f + 1) a m b xs = shR a (i - 1 - a) xs) := by rw [HG.out, HBe.out]; exact rfl
      clear HO HBe HG
      go_wp2_with fail
      go_loopg [13] (i - 1 - a) (fun g1 vk wr => ∃ (k : Nat) (l : List Int), vk = .int .i64 k ∧ a ≤ k ∧ k ≤ i - 1 ∧ i - 1 - k ≤ g1 ∧ l.length = xs.length ∧ Hid (SortsV ss g t rest E w wr l) ∧ Hid (∀ x ∈ l, InV ss x) ∧ Hid (shR k (i - 1 - k) l = shR a (i - 1 - a) xs))
      case atStart => exact ⟨a, xs, by go_num, by omega, by have := HA.out; omega, Nat.le_refl _, rfl, HS, HX, rfl⟩
      case round =>
        clear HS
        obtain ⟨k, l, rfl, hak, hki, hg2, hsk, HS, HL, HO⟩ := hrel
        by_cases hlt2 : k < i - 1
        · have hltz2 : (k : Int) < (i : Int) - 1 := by omega
          have p0 : (0 : Int) ≤ (k : Int) + 1 := by omega
          have p1 : (k : Int) + 1 < (xs.length : Int) := by omega
          have p2 : (k : Int) < (xs.length : Int) := by omega
          have q1 : IntKind.i64.wrap ((k : Int) + 1) = (k : Int) + 1 := by rw [IntKind.wrap_i64]; omega
          obtain ⟨HM, HDi, HEi⟩ := HS.out
          have hdr : DatV ss wr.drew g t rest l := HDi
          have HXl := HL.out
          have hxm := HXl _ (getD_mem l k (by omega))
          have hym := HXl _ (getD_mem l (k + 1) (by omega))
          have okx := snAt_ok HOK.out hxm
          have oky := snAt_ok HOK.out hym
          have RX := Lib.hid (hdr.range HOK.out HXl (i := k) (by omega))
          have RY := Lib.hid (hdr.range HOK.out HXl (i := (k + 1)) (by omega))
          have hst := hdr.store HOK.out HXl (i := k) (by omega) hym
          have HT1 := Lib.hid (show wr.drew.there g (k * 37) (snAt ss (l.getD (k + 1) 0)).arr.size by rw [(snAt ss _).size oky]; exact hdr.there HOK.out HXl (by omega))
          have HT2 := Lib.hid (show (wr.drew.setCells g (k * 37) (snAt ss (l.getD (k + 1) 0)).arr.toList).there g ((k + 1) * 37) (snAt ss (l.getD k 0)).arr.size by
            rw [(snAt ss _).size okx]; exact hst.there HOK.out (set_in HXl hym _) (by simp; omega))
          have HN : Hid (SortsV ss g t rest E w ((wr.drew.setCells g (k * 37) (snAt ss (l.getD (k + 1) 0)).arr.toList).setCells g ((k + 1) * 37) (snAt ss (l.getD k 0)).arr.toList) (swp l k (k + 1))) :=
            exchangedV HOK.out HC.out.keeps HXl HS.out k (k + 1) (by omega) (by omega) _ _ rfl rfl
          have HLN : Hid (∀ x ∈ swp l k (k + 1), InV ss x) := fun z hz => HXl z (mem_swp l _ _ (by omega) (by omega) hz)
          clear HM HDi HEi HXl HS HL hdr hxm hym hst
          generalize l.getD k 0 = x at *
          generalize l.getD (k + 1) 0 = y at *
          go_wp2_with fail
          refine wp_region_any (by kernel_rfl) ?_
          change wpAny _ _ _ _ _ _ _ (World.drew _)
          refine any_take (i := 0) (v := ?_) 61 rfl rfl (by kernel_rfl) (by kernel_rfl) (by kernel_rfl) (fun _ _ _ h => h) (Or.inl ⟨by rfl, ?_⟩) ?_
          rotate_left
          · (intro w; go_simp; try (with_reducible rfl))
          simp only [List.setIfInBounds_toArray, List.set_cons_zero, List.set_cons_succ]
          refine any_take (i := 1) (v := ?_) 62 rfl rfl (by kernel_rfl) (by kernel_rfl) (by kernel_rfl) (fun _ _ _ h => h) (Or.inl ⟨by rfl, ?_⟩) ?_
          rotate_left
          · (intro w; go_simp; try (with_reducible rfl))
          simp only [List.setIfInBounds_toArray, List.set_cons_zero, List.set_cons_succ]
          refine any_take (i := 2) (v := ?_) 63 rfl rfl (by kernel_rfl) (by kernel_rfl) (by kernel_rfl) (fun _ _ _ h => h) (Or.inl ⟨by rfl, ?_⟩) ?_
          rotate_left
          · (intro w; go_simp; try (with_reducible rfl))
          simp only [List.setIfInBounds_toArray, List.set_cons_zero, List.set_cons_succ]
          refine any_take (i := 3) (v := ?_) 64 rfl rfl (by kernel_rfl) (by kernel_rfl) (by kernel_rfl) (fun _ _ _ h => h) (Or.inl ⟨by rfl, ?_⟩) ?_
          rotate_left
          · (intro w; go_simp; try (with_reducible rfl))
          simp only [List.setIfInBounds_toArray, List.set_cons_zero, List.set_cons_succ]
          refine any_take (i := 4) (v := ?_) 65 rfl rfl (by kernel_rfl) (by kernel_rfl) (by kernel_rfl) (fun _ _ _ h => h) (Or.inl ⟨by rfl, ?_⟩) ?_
          rotate_left
          · (intro w; go_simp; try (with_reducible rfl))
          simp only [List.setIfInBounds_toArray, List.set_cons_zero, List.set_cons_succ]
          refine any_take (i := 5) (v := ?_) 66 rfl rfl (by kernel_rfl) (by kernel_rfl) (by kernel_rfl) (fun _ _ _ h => h) (Or.inl ⟨by rfl, ?_⟩) ?_
          rotate_left
          · (intro w; go_simp; try (with_reducible rfl))
          simp only [List.setIfInBounds_toArray, List.set_cons_zero, List.set_cons_succ]
          refine any_take (i := 6) (v := ?_) 67 rfl rfl (by kernel_rfl) (by kernel_rfl) (by kernel_rfl) (fun _ _ _ h => h) (Or.inl ⟨by rfl, ?_⟩) ?_
          rotate_left
          · (intro w; go_simp; try (with_reducible rfl))
          simp only [List.setIfInBounds_toArray, List.set_cons_zero, List.set_cons_succ]
          refine any_take (i := 7) (v := ?_) 68 rfl rfl (by kernel_rfl) (by kernel_rfl) (by kernel_rfl) (fun _ _ _ h => h) (Or.inl ⟨by rfl, ?_⟩) ?_
          rotate_left
          · (intro w; go_simp; try (with_reducible rfl))
          simp only [List.setIfInBounds_toArray, List.set_cons_zero, List.set_cons_succ]
          refine any_take (i := 8) (v := ?_) 69 rfl rfl (by kernel_rfl) (by kernel_rfl) (by kernel_rfl) (fun _ _ _ h => h) (Or.inl ⟨by rfl, ?_⟩) ?_
          rotate_left
          · (intro w; go_simp; try (with_reducible rfl))
          simp only [List.setIfInBounds_toArray, List.set_cons_zero, List.set_cons_succ]
          refine any_take (i := 10) (v := ?_) 71 rfl rfl (by kernel_rfl) (by kernel_rfl) (by kernel_rfl) (fun _ _ _ h => h) (Or.inl ⟨by rfl, ?_⟩) ?_
          rotate_left
          · (intro w; go_simp; try (with_reducible rfl))
          simp only [List.setIfInBounds_toArray, List.set_cons_zero, List.set_cons_succ]
          refine any_take (i := 11) (v := ?_) 72 rfl rfl (by kernel_rfl) (by kernel_rfl) (by kernel_rfl) (fun _ _ _ h => h) (Or.inl ⟨by rfl, ?_⟩) ?_
          rotate_left
          · (intro w; go_simp; try (with_reducible rfl))
          simp only [List.setIfInBounds_toArray, List.set_cons_zero, List.set_cons_succ]
          refine any_take (i := 12) (v := ?_) 73 rfl rfl (by kernel_rfl) (by kernel_rfl) (by kernel_rfl) (fun _ _ _ h => h) (Or.inl ⟨by rfl, ?_⟩) ?_
          rotate_left
          · (intro w; go_simp; try (with_reducible rfl))
          simp only [List.setIfInBounds_toArray, List.set_cons_zero, List.set_cons_succ]
          refine any_two (i := 9) (j := 13) (by kernel_rfl) rfl rfl (by rfl) (by rfl) (fun K hK => ?_) (fun K hK => ?_)
          refine load_mid 70 rfl 42 (.tmp 69) rfl g ((k + 1) * 37) rfl (snAt ss y).cells _ RY.out Try.underlying42 rfl (snap_cells' _ oky) ?_
          refine hK _ _ ?_
          clear hK K
          simp only [List.setIfInBounds_toArray, List.set_cons_zero, List.set_cons_succ]
          refine any_one (i := 13) (by kernel_rfl) rfl (by rfl) (fun K hK => ?_)
          refine load_mid 74 rfl 42 (.tmp 73) rfl g (k * 37) rfl (snAt ss x).cells _ RX.out Try.underlying42 rfl (snap_cells' _ okx) ?_
          refine hK _ _ ?_
          clear hK K
          simp only [List.setIfInBounds_toArray, List.set_cons_zero, List.set_cons_succ]
          refine any_take (i := 14) (v := ?_) 75 rfl rfl (by kernel_rfl) (by kernel_rfl) (by kernel_rfl) (fun _ _ _ h => h) (Or.inl ⟨by rfl, ?_⟩) ?_
          rotate_left
          · (intro w; go_simp; try (with_reducible rfl))
          simp only [List.setIfInBounds_toArray, List.set_cons_zero, List.set_cons_succ]
          refine any_one (i := 15) (by kernel_rfl) rfl (by rfl) (fun K hK => ?_)
          refine store_mid rfl 42 (.tmp 75) (.tmp 70) rfl g (k * 37) (snAt ss y).arr rfl rfl HT1.out (snap_cells _ oky) (cells_one _) ?_
          refine hK _ _ ?_
          clear hK K
          refine any_take (i := 16) (v := ?_) 76 rfl rfl (by kernel_rfl) (by kernel_rfl) (by kernel_rfl) (fun _ _ _ h => h) (Or.inl ⟨by rfl, ?_⟩) ?_
          rotate_left
          · (intro w; go_simp; try (with_reducible rfl))
          simp only [List.setIfInBounds_toArray, List.set_cons_zero, List.set_cons_succ]
          refine any_one (i := 17) (by kernel_rfl) rfl (by rfl) (fun K hK => ?_)
          refine store_mid rfl 42 (.tmp 76) (.tmp 74) rfl g ((k + 1) * 37) (snAt ss x).arr rfl rfl HT2.out (snap_cells _ okx) (cells_one _) ?_
          refine hK _ _ ?_
          clear hK K
          refine wpAny_done (by kernel_rfl) ?_ _
          rotate_left
          refine load_mid 74 rfl 42 (.tmp 73) rfl g (k * 37) rfl (snAt ss x).cells _ RX.out Try.underlying42 rfl (snap_cells' _ okx) ?_
          refine hK _ _ ?_
          clear hK K
          simp only [List.setIfInBounds_toArray, List.set_cons_zero, List.set_cons_succ]
          refine any_one (i := 9) (by kernel_rfl) rfl (by rfl) (fun K hK => ?_)
          refine load_mid 70 rfl 42 (.tmp 69) rfl g ((k + 1) * 37) rfl (snAt ss y).cells _ RY.out Try.underlying42 rfl (snap_cells' _ oky) ?_
          refine hK _ _ ?_
          clear hK K
          simp only [List.setIfInBounds_toArray, List.set_cons_zero, List.set_cons_succ]
          refine any_take (i := 14) (v := ?_) 75 rfl rfl (by kernel_rfl) (by kernel_rfl) (by kernel_rfl) (fun _ _ _ h => h) (Or.inl ⟨by rfl, ?_⟩) ?_
          rotate_left
          · (intro w; go_simp; try (with_reducible rfl))
          simp only [List.setIfInBounds_toArray, List.set_cons_zero, List.set_cons_succ]
          refine any_one (i := 15) (by kernel_rfl) rfl (by rfl) (fun K hK => ?_)
          refine store_mid rfl 42 (.tmp 75) (.tmp 70) rfl g (k * 37) (snAt ss y).arr rfl rfl HT1.out (snap_cells _ oky) (cells_one _) ?_
          refine hK _ _ ?_
          clear hK K
          refine any_take (i := 16) (v := ?_) 76 rfl rfl (by kernel_rfl) (by kernel_rfl) (by kernel_rfl) (fun _ _ _ h => h) (Or.inl ⟨by rfl, ?_⟩) ?_
          rotate_left
          · (intro w; go_simp; try (with_reducible rfl))
          simp only [List.setIfInBounds_toArray, List.set_cons_zero, List.set_cons_succ]
          refine any_one (i := 17) (by kernel_rfl) rfl (by rfl) (fun K hK => ?_)
          refine store_mid rfl 42 (.tmp 76) (.tmp 74) rfl g ((k + 1) * 37) (snAt ss x).arr rfl rfl HT2.out (snap_cells _ okx) (cells_one _) ?_
          refine hK _ _ ?_
          clear hK K
          refine wpAny_done (by kernel_rfl) ?_ _
          all_goals clear RX RY HT1 HT2 okx oky
          all_goals generalize (wr.drew.setCells g (k * 37) (snAt ss y).arr.toList).setCells g ((k + 1) * 37) (snAt ss x).arr.toList = w3 at *
          all_goals
            go_wp2
            go_roundg (i - 1 - (k + 1))
            case measure => omega
            case rel => exact ⟨k + 1, swp l k (k + 1), by go_num, by omega, by omega, Nat.le_refl _, by rw [swp_length]; exact hsk, HN, HLN, by rw [← HO.out, show i - 1 - k = (i - 1 - (k + 1)) + 1 from by omega, shR]; exact rfl⟩
        · have hltz2 : ¬ (k : Int) < (i : Int) - 1 := by have := HA.out; omega
          have HN : Hid (SortsV ss g t rest E w wr (symm cf (f + 1) a m b xs)) := by rw [HG2.out, ← HO.out, show i - 1 - k = 0 from by omega]; exact HS.out
          clear HS
          go_wp2
          refine bodyPost_ret (results_none rfl _ _ _) rfl ?_
          exact ⟨rfl, HN.out⟩

set_option maxHeartbeats 1000000 in
set_option maxRecDepth 100000 in
theorem symm_lastV (fn : FuncId) (cap : Array Value) (cf : Int → Int → Int) (ss : List Sn) (hok : ∀ s ∈ ss, s.ok) (g : Nat) (E : World → Prop) (hcmp : CmpOkV fn cap cf ss g E) (t : TypeId) (rest : List Value) (xs : List Int) (c a m b f : Nat) (w : World)
    (hE : E w) (hD : ∀ x ∈ xs, InV ss x) (hd : DatV ss w g t rest xs) (ha : a + 1 < m) (hm : b = m + 1) (hb : b ≤ xs.length) (hn : xs.length ≤ 1073741824) :
    Calls Try.prog 113 #[.slice (some ⟨g, 0, none⟩) xs.length c, .int .i64 a, .int .i64 m, .int .i64 b, .func (.func fn) #[] cap] w fun e w' =>
      e = .returned (.tuple #[]) ∧ SortsV ss g t rest E w w' (symm cf (f + 1) a m b xs) := by
  have HC := Lib.hid hcmp
  have HOK := Lib.hid hok
  have H0 : Hid (SortsV ss g t rest E w w xs) := ⟨Mod.refl _ _, hd, hE⟩
  have HX := Lib.hid hD
  have he : ((m : Int) - (a : Int) == 1) = false := by simp; omega
  have he1 : ((b : Int) - (m : Int) == 1) = true := by simp; omega
  have HA := Lib.hid hm
  have hlt0 : m < b := by omega
  have HG : Hid (symm cf (f + 1) a m b xs = shL (bs (fun h => !decide (cf (xs.getD m 0) (xs.getD h 0) < 0)) a m) (m - bs (fun h => !decide (cf (xs.getD m 0) (xs.getD h 0) < 0)) a m) xs) := by rw [symm, if_neg (by omega), if_pos (by omega)]; exact rfl
  clear hcmp hE hd hD hm hok
  go_enter Try.func113, Try.ntmps113
  go_wp2_with fail
  go_loopg [14, 15, 16] (m - a) (fun g1 vi vj _ wr => ∃ (i j : Nat), vi = .int .i64 i ∧ vj = .int .i64 j ∧ a ≤ i ∧ i ≤ j ∧ j ≤ m ∧ j - i ≤ g1 ∧ Hid (SortsV ss g t rest E w wr xs) ∧ Hid (bs (fun h => !decide (cf (xs.getD m 0) (xs.getD h 0) < 0)) i j = bs (fun h => !decide (cf (xs.getD m 0) (xs.getD h 0) < 0)) a m))
  case atStart => exact ⟨a, m, by go_num, by go_num, by omega, by omega, by omega, by omega, H0, rfl⟩
  case round =>
    clear H0
    obtain ⟨i, j, rfl, rfl, hmi, hij, hjb, hg1, HS, HO⟩ := hrel
    by_cases hlt : i < j
    · have hltz : (i : Int) < (j : Int) := by omega
      have p0 : (0 : Int) ≤ ((i : Int) + (j : Int)) / 2 := by omega
      have p1 : ((i : Int) + (j : Int)) / 2 < (xs.length : Int) := by omega
      have p2 : (m : Int) < (xs.length : Int) := by omega
      obtain ⟨h, hh⟩ : ∃ h, h = (i + j) / 2 := ⟨_, rfl⟩
      have l1 : Hid (∀ W, (∃ p : In (fun W => Below wr.heap.size wr W), W = p.world) → W.rangeAt g (h * 37) (snAt ss (xs.getD h 0)).cells) := by rintro _ ⟨p, rfl⟩; exact (HS.out.2.1.below p.ok (Blk.lt HS.out.2.1)).range HOK.out HX.out (by omega)
      have l2 : Hid (∀ W, (∃ p : In (fun W => Below wr.heap.size wr W), W = p.world) → W.rangeAt g (m * 37) (snAt ss (xs.getD m 0)).cells) := by rintro _ ⟨p, rfl⟩; exact (HS.out.2.1.below p.ok (Blk.lt HS.out.2.1)).range HOK.out HX.out (by omega)
      have K1 := Lib.hid (snAt_ok HOK.out (HX.out _ (getD_mem xs h (by omega))))
      have K2 := Lib.hid (snAt_ok HOK.out (HX.out _ (getD_mem xs m (by omega))))
      have ecall := HC.out.enters
      have hcall : Hid (∀ p : In (fun W => Below wr.heap.size wr W), Calls Try.prog fn (#[.agg (snAt ss (xs.getD m 0)).arr, .agg (snAt ss (xs.getD h 0)).arr] ++ cap) p.world fun e w'' => e = .returned (.int .i64 (cf (xs.getD m 0) (xs.getD h 0))) ∧ ∃ q : In (fun W => Below wr.heap.size wr W), w'' = q.world) := fun p =>
        Calls.into (HC.out.calls p.world _ _ (HC.out.keeps _ _ HS.out.2.2 (Mod.of_below p.ok _)) (HX.out _ (getD_mem _ _ (by omega))) (HX.out _ (getD_mem _ _ (by omega)))) fun e w' h => ⟨h.1, p.ok.trans (h.2.mono p.ok.size)⟩
      have HS2 : Hid (∀ W, Below wr.heap.size wr W → SortsV ss g t rest E w W xs) := fun W hW => SortsV.below HC.out.keeps HS.out hW
      have HY : Hid (¬ cf (xs.getD m 0) (xs.getD h 0) < 0 → bs (fun h => !decide (cf (xs.getD m 0) (xs.getD h 0) < 0)) (h + 1) j = bs (fun h => !decide (cf (xs.getD m 0) (xs.getD h 0) < 0)) a m) := fun hp => by rw [← HO.out, bs_yes _ i j hlt (by simpa [← hh] using hp), ← hh]
      have HN : Hid (cf (xs.getD m 0) (xs.getD h 0) < 0 → bs (fun h => !decide (cf (xs.getD m 0) (xs.getD h 0) < 0)) i h = bs (fun h => !decide (cf (xs.getD m 0) (xs.getD h 0) < 0)) a m) := fun hp => by rw [← HO.out, bs_no _ i j hlt (by simpa [← hh] using hp), ← hh]
      have HH := Lib.hid hh
      have e1 : (((i : Int) + (j : Int)) / 2).toNat = h := by omega
      have hhi : i ≤ h := by omega
      have hhj : h < j := by omega
      clear HS HO hh
      by_cases hlv : cf (xs.getD m 0) (xs.getD h 0) < 0
      · have hd1 : decide (cf (xs.getD m 0) (xs.getD h 0) < 0) = true := decide_eq_true hlv
        have HB := Lib.hid (HN.out hlv)
        clear HY HN hlv
        generalize xs.getD h 0 = x at l1 K1 hcall hd1
        generalize xs.getD m 0 = y at l2 K2 hcall hd1
        go_wp2_with fail
        refine wp_region_in (fun W => Below wr.heap.size wr W) (Below.refl _ _).drew (by kernel_rfl) (by kernel_rfl) ?_
        repeat (first | (refine wpQuiet_load_mid rfl 42 (.tmp 99) rfl g (h * 37) rfl _ _ l1.out Try.underlying42 rfl (snap_cells' _ K1.out) ?_; simp only [Act.put, List.setIfInBounds_toArray, List.set_cons_zero, List.set_cons_succ]) | (refine wpQuiet_load_mid rfl 42 (.tmp 95) rfl g (m * 37) rfl _ _ l2.out Try.underlying42 rfl (snap_cells' _ K2.out) ?_; simp only [Act.put, List.setIfInBounds_toArray, List.set_cons_zero, List.set_cons_succ]) | (quiet_step (exact hcall.out _)))
        refine wpQuiet_nil ?_
        rintro w2 ⟨⟨_, hw2⟩, rfl⟩
        have HN2 := Lib.hid (HS2.out w2 hw2)
        clear l1 l2 hcall HS2 hw2 ecall hd1 e1
        go_wp2
        go_roundg (h - i)
        case measure => omega
        case rel => exact ⟨i, h, rfl, by rw [HH.out]; go_num, by omega, by omega, by omega, Nat.le_refl _, HN2, HB⟩
      · have hd1 : decide (cf (xs.getD m 0) (xs.getD h 0) < 0) = false := decide_eq_false hlv
        have HB := Lib.hid (HY.out hlv)
        clear HY HN hlv
        generalize xs.getD h 0 = x at l1 K1 hcall hd1
        generalize xs.getD m 0 = y at l2 K2 hcall hd1
        go_wp2_with fail
        refine wp_region_in (fun W => Below wr.heap.size wr W) (Below.refl _ _).drew (by kernel_rfl) (by kernel_rfl) ?_
        repeat (first | (refine wpQuiet_load_mid rfl 42 (.tmp 99) rfl g (h * 37) rfl _ _ l1.out Try.underlying42 rfl (snap_cells' _ K1.out) ?_; simp only [Act.put, List.setIfInBounds_toArray, List.set_cons_zero, List.set_cons_succ]) | (refine wpQuiet_load_mid rfl 42 (.tmp 95) rfl g (m * 37) rfl _ _ l2.out Try.underlying42 rfl (snap_cells' _ K2.out) ?_; simp only [Act.put, List.setIfInBounds_toArray, List.set_cons_zero, List.set_cons_succ]) | (quiet_step (exact hcall.out _)))
        refine wpQuiet_nil ?_
        rintro w2 ⟨⟨_, hw2⟩, rfl⟩
        have HN2 := Lib.hid (HS2.out w2 hw2)
        clear l1 l2 hcall HS2 hw2 ecall hd1 e1
        go_wp2
        go_roundg (j - (h + 1))
        case measure => omega
        case rel => exact ⟨h + 1, j, by rw [HH.out]; go_num, rfl, by omega, by omega, by omega, Nat.le_refl _, HN2, HB⟩
    · have hltz : ¬ (i : Int) < (j : Int) := by omega
      obtain rfl : i = j := by omega
      have HBe : Hid (bs (fun h => !decide (cf (xs.getD m 0) (xs.getD h 0) < 0)) a m = i) := by rw [← HO.out, bs_end]; exact rfl
      have HG2 : Hid (symm cf (f + 1) a m b xs = shL i (m - i) xs) := by rw [HG.out, HBe.out]; exact rfl
      clear HO HBe HG
      go_wp2_with fail
      go_loopg [17] (m - i) (fun g1 vk wr => ∃ (k : Nat) (l : List Int), vk = .int .i64 k ∧ i ≤ k ∧ k ≤ m ∧ k - i ≤ g1 ∧ l.length = xs.length ∧ Hid (SortsV ss g t rest E w wr l) ∧ Hid (∀ x ∈ l, InV ss x) ∧ Hid (shL i (k - i) l = shL i (m - i) xs))
      case atStart => exact ⟨m, xs, by go_num, by omega, Nat.le_refl _, Nat.le_refl _, rfl, HS, HX, rfl⟩
      case round =>
        clear HS
        obtain ⟨k, l, rfl, hak, hki, hg2, hsk, HS, HL, HO⟩ := hrel
        by_cases hlt2 : i < k
        · obtain ⟨k, rfl⟩ : ∃ q, k = q + 1 := ⟨k - 1, by omega⟩
          have hltz2 : (i : Int) < (k : Int) + 1 := by omega
          have p0 : (0 : Int) ≤ (k : Int) + 1 := by omega
          have p1 : (k : Int) + 1 < (xs.length : Int) := by omega
          have p2 : (k : Int) < (xs.length : Int) := by omega
          have q1 : IntKind.i64.wrap (k : Int) = (k : Int) := by rw [IntKind.wrap_i64]; omega
          obtain ⟨HM, HDi, HEi⟩ := HS.out
          have hdr : DatV ss wr.drew g t rest l := HDi
          have HXl := HL.out
          have hxm := HXl _ (getD_mem l (k + 1) (by omega))
          have hym := HXl _ (getD_mem l k (by omega))
          have okx := snAt_ok HOK.out hxm
          have oky := snAt_ok HOK.out hym
          have RX := Lib.hid (hdr.range HOK.out HXl (i := (k + 1)) (by omega))
          have RY := Lib.hid (hdr.range HOK.out HXl (i := k) (by omega))
          have hst := hdr.store HOK.out HXl (i := (k + 1)) (by omega) hym
          have HT1 := Lib.hid (show wr.drew.there g ((k + 1) * 37) (snAt ss (l.getD k 0)).arr.size by rw [(snAt ss _).size oky]; exact hdr.there HOK.out HXl (by omega))
          have HT2 := Lib.hid (show (wr.drew.setCells g ((k + 1) * 37) (snAt ss (l.getD k 0)).arr.toList).there g (k * 37) (snAt ss (l.getD (k + 1) 0)).arr.size by
            rw [(snAt ss _).size okx]; exact hst.there HOK.out (set_in HXl hym _) (by simp; omega))
          have HN : Hid (SortsV ss g t rest E w ((wr.drew.setCells g ((k + 1) * 37) (snAt ss (l.getD k 0)).arr.toList).setCells g (k * 37) (snAt ss (l.getD (k + 1) 0)).arr.toList) (swp l (k + 1) k)) :=
            exchangedV HOK.out HC.out.keeps HXl HS.out (k + 1) k (by omega) (by omega) _ _ rfl rfl
          have HLN : Hid (∀ x ∈ swp l (k + 1) k, InV ss x) := fun z hz => HXl z (mem_swp l _ _ (by omega) (by omega) hz)
          clear HM HDi HEi HXl HS HL hdr hxm hym hst
          generalize l.getD (k + 1) 0 = x at *
          generalize l.getD k 0 = y at *
          go_wp2_with fail
          refine wp_region_any (by kernel_rfl) ?_
          change wpAny _ _ _ _ _ _ _ (World.drew _)
          refine any_take (i := 0) (v := ?_) 113 rfl rfl (by kernel_rfl) (by kernel_rfl) (by kernel_rfl) (fun _ _ _ h => h) (Or.inl ⟨by rfl, ?_⟩) ?_
          rotate_left
          · (intro w; go_simp; try (with_reducible rfl))
          simp only [List.setIfInBounds_toArray, List.set_cons_zero, List.set_cons_succ]
          refine any_take (i := 1) (v := ?_) 114 rfl rfl (by kernel_rfl) (by kernel_rfl) (by kernel_rfl) (fun _ _ _ h => h) (Or.inl ⟨by rfl, ?_⟩) ?_
          rotate_left
          · (intro w; go_simp; try (with_reducible rfl))
          simp only [List.setIfInBounds_toArray, List.set_cons_zero, List.set_cons_succ]
          refine any_take (i := 2) (v := ?_) 115 rfl rfl (by kernel_rfl) (by kernel_rfl) (by kernel_rfl) (fun _ _ _ h => h) (Or.inl ⟨by rfl, ?_⟩) ?_
          rotate_left
          · (intro w; go_simp; try (with_reducible rfl))
          simp only [List.setIfInBounds_toArray, List.set_cons_zero, List.set_cons_succ]
          refine any_take (i := 3) (v := ?_) 116 rfl rfl (by kernel_rfl) (by kernel_rfl) (by kernel_rfl) (fun _ _ _ h => h) (Or.inl ⟨by rfl, ?_⟩) ?_
          rotate_left
          · (intro w; go_simp; try (with_reducible rfl))
          simp only [List.setIfInBounds_toArray, List.set_cons_zero, List.set_cons_succ]
          refine any_take (i := 4) (v := ?_) 117 rfl rfl (by kernel_rfl) (by kernel_rfl) (by kernel_rfl) (fun _ _ _ h => h) (Or.inl ⟨by rfl, ?_⟩) ?_
          rotate_left
          · (intro w; go_simp; try (with_reducible rfl))
          simp only [List.setIfInBounds_toArray, List.set_cons_zero, List.set_cons_succ]
          refine any_take (i := 5) (v := ?_) 118 rfl rfl (by kernel_rfl) (by kernel_rfl) (by kernel_rfl) (fun _ _ _ h => h) (Or.inl ⟨by rfl, ?_⟩) ?_
          rotate_left
          · (intro w; go_simp; try (with_reducible rfl))
          simp only [List.setIfInBounds_toArray, List.set_cons_zero, List.set_cons_succ]
          refine any_take (i := 6) (v := ?_) 119 rfl rfl (by kernel_rfl) (by kernel_rfl) (by kernel_rfl) (fun _ _ _ h => h) (Or.inl ⟨by rfl, ?_⟩) ?_
          rotate_left
          · (intro w; go_simp; try (with_reducible rfl))
          simp only [List.setIfInBounds_toArray, List.set_cons_zero, List.set_cons_succ]
          refine any_take (i := 7) (v := ?_) 120 rfl rfl (by kernel_rfl) (by kernel_rfl) (by kernel_rfl) (fun _ _ _ h => h) (Or.inl ⟨by rfl, ?_⟩) ?_
          rotate_left
          · (intro w; go_simp; try (with_reducible rfl))
          simp only [List.setIfInBounds_toArray, List.set_cons_zero, List.set_cons_succ]
          refine any_take (i := 8) (v := ?_) 121 rfl rfl (by kernel_rfl) (by kernel_rfl) (by kernel_rfl) (fun _ _ _ h => h) (Or.inl ⟨by rfl, ?_⟩) ?_
          rotate_left
          · (intro w; go_simp; try (with_reducible rfl))
          simp only [List.setIfInBounds_toArray, List.set_cons_zero, List.set_cons_succ]
          refine any_take (i := 10) (v := ?_) 123 rfl rfl (by kernel_rfl) (by kernel_rfl) (by kernel_rfl) (fun _ _ _ h => h) (Or.inl ⟨by rfl, ?_⟩) ?_
          rotate_left
          · (intro w; go_simp; try (with_reducible rfl))
          simp only [List.setIfInBounds_toArray, List.set_cons_zero, List.set_cons_succ]
          refine any_take (i := 11) (v := ?_) 124 rfl rfl (by kernel_rfl) (by kernel_rfl) (by kernel_rfl) (fun _ _ _ h => h) (Or.inl ⟨by rfl, ?_⟩) ?_
          rotate_left
          · (intro w; go_simp; try (with_reducible rfl))
          simp only [List.setIfInBounds_toArray, List.set_cons_zero, List.set_cons_succ]
          refine any_take (i := 12) (v := ?_) 125 rfl rfl (by kernel_rfl) (by kernel_rfl) (by kernel_rfl) (fun _ _ _ h => h) (Or.inl ⟨by rfl, ?_⟩) ?_
          rotate_left
          · (intro w; go_simp; try (with_reducible rfl))
          simp only [List.setIfInBounds_toArray, List.set_cons_zero, List.set_cons_succ]
          refine any_two (i := 9) (j := 13) (by kernel_rfl) rfl rfl (by rfl) (by rfl) (fun K hK => ?_) (fun K hK => ?_)
          refine load_mid 122 rfl 42 (.tmp 121) rfl g (k * 37) rfl (snAt ss y).cells _ RY.out Try.underlying42 rfl (snap_cells' _ oky) ?_
          refine hK _ _ ?_
          clear hK K
          simp only [List.setIfInBounds_toArray, List.set_cons_zero, List.set_cons_succ]
          refine any_one (i := 13) (by kernel_rfl) rfl (by rfl) (fun K hK => ?_)
          refine load_mid 126 rfl 42 (.tmp 125) rfl g ((k + 1) * 37) rfl (snAt ss x).cells _ RX.out Try.underlying42 rfl (snap_cells' _ okx) ?_
          refine hK _ _ ?_
          clear hK K
          simp only [List.setIfInBounds_toArray, List.set_cons_zero, List.set_cons_succ]
          refine any_take (i := 14) (v := ?_) 127 rfl rfl (by kernel_rfl) (by kernel_rfl) (by kernel_rfl) (fun _ _ _ h => h) (Or.inl ⟨by rfl, ?_⟩) ?_
          rotate_left
          · (intro w; go_simp; try (with_reducible rfl))
          simp only [List.setIfInBounds_toArray, List.set_cons_zero, List.set_cons_succ]
          refine any_one (i := 15) (by kernel_rfl) rfl (by rfl) (fun K hK => ?_)
          refine store_mid rfl 42 (.tmp 127) (.tmp 122) rfl g ((k + 1) * 37) (snAt ss y).arr rfl rfl HT1.out (snap_cells _ oky) (cells_one _) ?_
          refine hK _ _ ?_
          clear hK K
          refine any_take (i := 16) (v := ?_) 128 rfl rfl (by kernel_rfl) (by kernel_rfl) (by kernel_rfl) (fun _ _ _ h => h) (Or.inl ⟨by rfl, ?_⟩) ?_
          rotate_left
          · (intro w; go_simp; try (with_reducible rfl))
          simp only [List.setIfInBounds_toArray, List.set_cons_zero, List.set_cons_succ]
          refine any_one (i := 17) (by kernel_rfl) rfl (by rfl) (fun K hK => ?_)
          refine store_mid rfl 42 (.tmp 128) (.tmp 126) rfl g (k * 37) (snAt ss x).arr rfl rfl HT2.out (snap_cells _ okx) (cells_one _) ?_
          refine hK _ _ ?_
          clear hK K
          refine wpAny_done (by kernel_rfl) ?_ _
          rotate_left
          refine load_mid 126 rfl 42 (.tmp 125) rfl g ((k + 1) * 37) rfl (snAt ss x).cells _ RX.out Try.underlying42 rfl (snap_cells' _ okx) ?_
          refine hK _ _ ?_
          clear hK K
          simp only [List.setIfInBounds_toArray, List.set_cons_zero, List.set_cons_succ]
          refine any_one (i := 9) (by kernel_rfl) rfl (by rfl) (fun K hK => ?_)
          refine load_mid 122 rfl 42 (.tmp 121) rfl g (k * 37) rfl (snAt ss y).cells _ RY.out Try.underlying42 rfl (snap_cells' _ oky) ?_
          refine hK _ _ ?_
          clear hK K
          simp only [List.setIfInBounds_toArray, List.set_cons_zero, List.set_cons_succ]
          refine any_take (i := 14) (v := ?_) 127 rfl rfl (by kernel_rfl) (by kernel_rfl) (by kernel_rfl) (fun _ _ _ h => h) (Or.inl ⟨by rfl, ?_⟩) ?_
          rotate_left
          · (intro w; go_simp; try (with_reducible rfl))
          simp only [List.setIfInBounds_toArray, List.set_cons_zero, List.set_cons_succ]
          refine any_one (i := 15) (by kernel_rfl) rfl (by rfl) (fun K hK => ?_)
          refine store_mid rfl 42 (.tmp 127) (.tmp 122) rfl g ((k + 1) * 37) (snAt ss y).arr rfl rfl HT1.out (snap_cells _ oky) (cells_one _) ?_
          refine hK _ _ ?_
          clear hK K
          refine any_take (i := 16) (v := ?_) 128 rfl rfl (by kernel_rfl) (by kernel_rfl) (by kernel_rfl) (fun _ _ _ h => h) (Or.inl ⟨by rfl, ?_⟩) ?_
          rotate_left
          · (intro w; go_simp; try (with_reducible rfl))
          simp only [List.setIfInBounds_toArray, List.set_cons_zero, List.set_cons_succ]
          refine any_one (i := 17) (by kernel_rfl) rfl (by rfl) (fun K hK => ?_)
          refine store_mid rfl 42 (.tmp 128) (.tmp 126) rfl g (k * 37) (snAt ss x).arr rfl rfl HT2.out (snap_cells _ okx) (cells_one _) ?_
          refine hK _ _ ?_
          clear hK K
          refine wpAny_done (by kernel_rfl) ?_ _
          all_goals clear RX RY HT1 HT2 okx oky
          all_goals generalize (wr.drew.setCells g ((k + 1) * 37) (snAt ss y).arr.toList).setCells g (k * 37) (snAt ss x).arr.toList = w3 at *
          all_goals
            go_wp2
            go_roundg (k - i)
            case measure => omega
            case rel => exact ⟨k, swp l (k + 1) k, rfl, by omega, by omega, Nat.le_refl _, by rw [swp_length]; exact hsk, HN, HLN, by rw [← HO.out, show k + 1 - i = (k - i) + 1 from by omega, shL, show i + (k - i) = k from by omega]; exact rfl⟩
        · have hltz2 : ¬ (i : Int) < (k : Int) := by omega
          have HN : Hid (SortsV ss g t rest E w wr (symm cf (f + 1) a m b xs)) := by rw [HG2.out, ← HO.out, show k - i = 0 from by omega]; exact HS.out
          clear HS
          go_wp2
          refine bodyPost_ret (results_none rfl _ _ _) rfl ?_
          exact ⟨rfl, HN.out⟩

end Go.Proofs.Ytfpcgancmgeagaa
