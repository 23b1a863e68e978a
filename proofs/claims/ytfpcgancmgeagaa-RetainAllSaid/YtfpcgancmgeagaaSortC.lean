/- What the merge of the library's stable sort does to the row: its three ways. -/
import Derived.Test.YtfpcgancmgeagaaSortB
namespace Go.Proofs.Ytfpcgancmgeagaa
open Go.RowKit

set_option maxHeartbeats 1000000 in
set_option maxRecDepth 100000 in
theorem symm_one (fn : FuncId) (cap : Array Value) (cf : Int → Int → Int) (D : Int → Prop) (g : Nat) (E : World → Prop) (hcmp : CmpOk fn cap cf D g E) (t : TypeId) (rest : List Value) (xs : List Int) (c a m b f : Nat) (w : World)
    (hE : E w) (hD : ∀ x ∈ xs, D x) (hd : Dat w g t rest xs) (ha : m = a + 1) (hm : m < b) (hb : b ≤ xs.length) (hn : xs.length ≤ 1073741824) :
    Calls Try.prog 133 #[.slice (some ⟨g, 0, none⟩) xs.length c, .int .i64 a, .int .i64 m, .int .i64 b, .func (.func fn) #[] cap] w fun e w' =>
      e = .returned (.tuple #[]) ∧ Sorts g t rest E w w' (symm cf (f + 1) a m b xs) := by
  have HC := Lib.hid hcmp
  have H0 : Hid (Sorts g t rest E w w xs) := ⟨Mod.refl _ _, hd, hE⟩
  have HX := Lib.hid hD
  have he : ((m : Int) - (a : Int) == 1) = true := by simp; omega
  have HA := Lib.hid ha
  have hlt0 : a < m := by omega
  have HG : Hid (symm cf (f + 1) a m b xs = shR a (bs (fun h => decide (cf (xs.getD h 0) (xs.getD a 0) < 0)) m b - 1 - a) xs) := by rw [symm, if_pos (by omega)]; exact rfl
  clear hcmp hE hd hD ha
  go_enter Try.func133, Try.ntmps133
  go_wp2_with fail
  go_loopg [10, 11, 12] (b - m) (fun g1 vi vj _ wr => ∃ (i j : Nat), vi = .int .i64 i ∧ vj = .int .i64 j ∧ m ≤ i ∧ i ≤ j ∧ j ≤ b ∧ j - i ≤ g1 ∧ Hid (Sorts g t rest E w wr xs) ∧ Hid (bs (fun h => decide (cf (xs.getD h 0) (xs.getD a 0) < 0)) i j = bs (fun h => decide (cf (xs.getD h 0) (xs.getD a 0) < 0)) m b))
  case atStart => exact ⟨m, b, by go_num, by go_num, by omega, by omega, by omega, by omega, H0, rfl⟩
  case round =>
    clear H0
    obtain ⟨i, j, rfl, rfl, hmi, hij, hjb, hg1, HS, HO⟩ := hrel
    by_cases hlt : i < j
    · have hltz : (i : Int) < (j : Int) := by omega
      have p0 : (0 : Int) ≤ ((i : Int) + (j : Int)) / 2 := by omega
      have p1 : ((i : Int) + (j : Int)) / 2 < (xs.length : Int) := by omega
      have p2 : (a : Int) < (xs.length : Int) := by omega
      obtain ⟨h, hh⟩ : ∃ h, h = (i + j) / 2 := ⟨_, rfl⟩
      have l1 : ∀ p : In (fun W => Below wr.heap.size wr W), p.world.cell? ⟨g, h, none⟩ = some (.int .i64 (xs.getD h 0)) := fun p => (HS.out.2.1.below p.ok (Blk.lt HS.out.2.1)).cell _ (by omega)
      have l2 : ∀ p : In (fun W => Below wr.heap.size wr W), p.world.cell? ⟨g, a, none⟩ = some (.int .i64 (xs.getD a 0)) := fun p => (HS.out.2.1.below p.ok (Blk.lt HS.out.2.1)).cell _ (by omega)
      have ecall := HC.out.enters
      have hcall : Hid (∀ p : In (fun W => Below wr.heap.size wr W), Calls Try.prog fn (#[.int .i64 (xs.getD h 0), .int .i64 (xs.getD a 0)] ++ cap) p.world fun e w'' => e = .returned (.int .i64 (cf (xs.getD h 0) (xs.getD a 0))) ∧ ∃ q : In (fun W => Below wr.heap.size wr W), w'' = q.world) := fun p =>
        Calls.into (HC.out.calls p.world _ _ (HC.out.keeps _ _ HS.out.2.2 (Mod.of_below p.ok _)) (HX.out _ (getD_mem _ _ (by omega))) (HX.out _ (getD_mem _ _ (by omega)))) fun e w' h => ⟨h.1, p.ok.trans (h.2.mono p.ok.size)⟩
      have HS2 : Hid (∀ W, Below wr.heap.size wr W → Sorts g t rest E w W xs) := fun W hW => Sorts.below HC.out.keeps HS.out hW
      have HY : Hid (cf (xs.getD h 0) (xs.getD a 0) < 0 → bs (fun h => decide (cf (xs.getD h 0) (xs.getD a 0) < 0)) (h + 1) j = bs (fun h => decide (cf (xs.getD h 0) (xs.getD a 0) < 0)) m b) := fun hp => by rw [← HO.out, bs_yes _ i j hlt (by simpa [← hh] using hp), ← hh]
      have HN : Hid (¬ cf (xs.getD h 0) (xs.getD a 0) < 0 → bs (fun h => decide (cf (xs.getD h 0) (xs.getD a 0) < 0)) i h = bs (fun h => decide (cf (xs.getD h 0) (xs.getD a 0) < 0)) m b) := fun hp => by rw [← HO.out, bs_no _ i j hlt (by simpa [← hh] using hp), ← hh]
      have HH := Lib.hid hh
      have e1 : (((i : Int) + (j : Int)) / 2).toNat = h := by omega
      have hhi : i ≤ h := by omega
      have hhj : h < j := by omega
      clear HS HO hh
      by_cases hlv : cf (xs.getD h 0) (xs.getD a 0) < 0
      · have hd1 : decide (cf (xs.getD h 0) (xs.getD a 0) < 0) = true := decide_eq_true hlv
        have HB := Lib.hid (HY.out hlv)
        clear HY HN hlv
        generalize xs.getD h 0 = x at l1 hcall hd1
        generalize xs.getD a 0 = y at l2 hcall hd1
        go_wp2_with fail
        refine wp_region_in (fun W => Below wr.heap.size wr W) (Below.refl _ _).drew (by kernel_rfl) (by kernel_rfl) ?_
        repeat (quiet_step (exact hcall.out _))
        refine wpQuiet_nil ?_
        rintro w2 ⟨⟨_, hw2⟩, rfl⟩
        have HN2 := Lib.hid (HS2.out w2 hw2)
        clear l1 l2 hcall HS2 hw2 ecall hd1 e1
        go_wp2
        go_roundg (j - (h + 1))
        case measure => omega
        case rel => exact ⟨h + 1, j, by rw [HH.out]; go_num, rfl, by omega, by omega, by omega, Nat.le_refl _, HN2, HB⟩
      · have hd1 : decide (cf (xs.getD h 0) (xs.getD a 0) < 0) = false := decide_eq_false hlv
        have HB := Lib.hid (HN.out hlv)
        clear HY HN hlv
        generalize xs.getD h 0 = x at l1 hcall hd1
        generalize xs.getD a 0 = y at l2 hcall hd1
        go_wp2_with fail
        refine wp_region_in (fun W => Below wr.heap.size wr W) (Below.refl _ _).drew (by kernel_rfl) (by kernel_rfl) ?_
        repeat (quiet_step (exact hcall.out _))
        refine wpQuiet_nil ?_
        rintro w2 ⟨⟨_, hw2⟩, rfl⟩
        have HN2 := Lib.hid (HS2.out w2 hw2)
        clear l1 l2 hcall HS2 hw2 ecall hd1 e1
        go_wp2
        go_roundg (h - i)
        case measure => omega
        case rel => exact ⟨i, h, rfl, by rw [HH.out]; go_num, by omega, by omega, by omega, Nat.le_refl _, HN2, HB⟩
    · have hltz : ¬ (i : Int) < (j : Int) := by omega
      obtain rfl : i = j := by omega
      have HBe : Hid (bs (fun h => decide (cf (xs.getD h 0) (xs.getD a 0) < 0)) m b = i) := by rw [← HO.out, bs_end]; exact rfl
      have HG2 : Hid (symm cf (f + 1) a m b xs = shR a (i - 1 - a) xs) := by rw [HG.out, HBe.out]; exact rfl
      clear HO HBe HG
      go_wp2_with fail
      go_loopg [13] (i - 1 - a) (fun g1 vk wr => ∃ (k : Nat) (l : List Int), vk = .int .i64 k ∧ a ≤ k ∧ k ≤ i - 1 ∧ i - 1 - k ≤ g1 ∧ l.length = xs.length ∧ Hid (Sorts g t rest E w wr l) ∧ Hid (shR k (i - 1 - k) l = shR a (i - 1 - a) xs))
      case atStart => exact ⟨a, xs, by go_num, by omega, by have := HA.out; omega, Nat.le_refl _, rfl, HS, rfl⟩
      case round =>
        clear HS
        obtain ⟨k, l, rfl, hak, hki, hg2, hsk, HS, HO⟩ := hrel
        by_cases hlt2 : k < i - 1
        · have hltz2 : (k : Int) < (i : Int) - 1 := by omega
          have p0 : (0 : Int) ≤ (k : Int) + 1 := by omega
          have p1 : (k : Int) + 1 < (xs.length : Int) := by omega
          have p2 : (k : Int) < (xs.length : Int) := by omega
          have q1 : IntKind.i64.wrap ((k : Int) + 1) = (k : Int) + 1 := by rw [IntKind.wrap_i64]; omega
          obtain ⟨HM, HDi, HEi⟩ := HS.out
          have l3 := HDi.cell k (by omega)
          have l4 := HDi.cell (k + 1) (by omega)
          have f3 := Blk.frozen HDi k
          have f4 := Blk.frozen HDi (k + 1)
          obtain ⟨u, l5⟩ := HDi.there k (k + 1) (by omega) (by omega) (l.getD (k + 1) 0)
          have HN := Lib.hid (exchanged HC.out.keeps HS.out k (k + 1) (by omega) (by omega) _ _ rfl rfl)
          clear HM HDi HEi HS
          generalize l.getD k 0 = x at *
          generalize l.getD (k + 1) 0 = y at *
          go_wp2_with fail
          go_region
          clear l3 l4 l5 f3 f4
          generalize ((wr.setCell ⟨g, k, none⟩ (.int .i64 y)).setCell ⟨g, k + 1, none⟩ (.int .i64 x)).drew = w3 at *
          go_wp2
          go_roundg (i - 1 - (k + 1))
          case measure => omega
          case rel => exact ⟨k + 1, swp l k (k + 1), by go_num, by omega, by omega, Nat.le_refl _, by rw [swp_length]; exact hsk, HN, by rw [← HO.out, show i - 1 - k = (i - 1 - (k + 1)) + 1 from by omega, shR]; exact rfl⟩
        · have hltz2 : ¬ (k : Int) < (i : Int) - 1 := by have := HA.out; omega
          have HN : Hid (Sorts g t rest E w wr (symm cf (f + 1) a m b xs)) := by rw [HG2.out, ← HO.out, show i - 1 - k = 0 from by omega]; exact HS.out
          clear HS
          go_wp2
          refine bodyPost_ret (results_none rfl _ _ _) rfl ?_
          exact ⟨rfl, HN.out⟩

set_option maxHeartbeats 1000000 in
set_option maxRecDepth 100000 in
theorem symm_last (fn : FuncId) (cap : Array Value) (cf : Int → Int → Int) (D : Int → Prop) (g : Nat) (E : World → Prop) (hcmp : CmpOk fn cap cf D g E) (t : TypeId) (rest : List Value) (xs : List Int) (c a m b f : Nat) (w : World)
    (hE : E w) (hD : ∀ x ∈ xs, D x) (hd : Dat w g t rest xs) (ha : a + 1 < m) (hm : b = m + 1) (hb : b ≤ xs.length) (hn : xs.length ≤ 1073741824) :
    Calls Try.prog 133 #[.slice (some ⟨g, 0, none⟩) xs.length c, .int .i64 a, .int .i64 m, .int .i64 b, .func (.func fn) #[] cap] w fun e w' =>
      e = .returned (.tuple #[]) ∧ Sorts g t rest E w w' (symm cf (f + 1) a m b xs) := by
  have HC := Lib.hid hcmp
  have H0 : Hid (Sorts g t rest E w w xs) := ⟨Mod.refl _ _, hd, hE⟩
  have HX := Lib.hid hD
  have he : ((m : Int) - (a : Int) == 1) = false := by simp; omega
  have he1 : ((b : Int) - (m : Int) == 1) = true := by simp; omega
  have HA := Lib.hid hm
  have hlt0 : m < b := by omega
  have HG : Hid (symm cf (f + 1) a m b xs = shL (bs (fun h => !decide (cf (xs.getD m 0) (xs.getD h 0) < 0)) a m) (m - bs (fun h => !decide (cf (xs.getD m 0) (xs.getD h 0) < 0)) a m) xs) := by rw [symm, if_neg (by omega), if_pos (by omega)]; exact rfl
  clear hcmp hE hd hD hm
  go_enter Try.func133, Try.ntmps133
  go_wp2_with fail
  go_loopg [14, 15, 16] (m - a) (fun g1 vi vj _ wr => ∃ (i j : Nat), vi = .int .i64 i ∧ vj = .int .i64 j ∧ a ≤ i ∧ i ≤ j ∧ j ≤ m ∧ j - i ≤ g1 ∧ Hid (Sorts g t rest E w wr xs) ∧ Hid (bs (fun h => !decide (cf (xs.getD m 0) (xs.getD h 0) < 0)) i j = bs (fun h => !decide (cf (xs.getD m 0) (xs.getD h 0) < 0)) a m))
  case atStart => exact ⟨a, m, by go_num, by go_num, by omega, by omega, by omega, by omega, H0, rfl⟩
  case round =>
    clear H0
    obtain ⟨i, j, rfl, rfl, hmi, hij, hjb, hg1, HS, HO⟩ := hrel
    by_cases hlt : i < j
    · have hltz : (i : Int) < (j : Int) := by omega
      have p0 : (0 : Int) ≤ ((i : Int) + (j : Int)) / 2 := by omega
      have p1 : ((i : Int) + (j : Int)) / 2 < (xs.length : Int) := by omega
      have p2 : (m : Int) < (xs.length : Int) := by omega
      obtain ⟨h, hh⟩ : ∃ h, h = (i + j) / 2 := ⟨_, rfl⟩
      have l1 : ∀ p : In (fun W => Below wr.heap.size wr W), p.world.cell? ⟨g, h, none⟩ = some (.int .i64 (xs.getD h 0)) := fun p => (HS.out.2.1.below p.ok (Blk.lt HS.out.2.1)).cell _ (by omega)
      have l2 : ∀ p : In (fun W => Below wr.heap.size wr W), p.world.cell? ⟨g, m, none⟩ = some (.int .i64 (xs.getD m 0)) := fun p => (HS.out.2.1.below p.ok (Blk.lt HS.out.2.1)).cell _ (by omega)
      have ecall := HC.out.enters
      have hcall : Hid (∀ p : In (fun W => Below wr.heap.size wr W), Calls Try.prog fn (#[.int .i64 (xs.getD m 0), .int .i64 (xs.getD h 0)] ++ cap) p.world fun e w'' => e = .returned (.int .i64 (cf (xs.getD m 0) (xs.getD h 0))) ∧ ∃ q : In (fun W => Below wr.heap.size wr W), w'' = q.world) := fun p =>
        Calls.into (HC.out.calls p.world _ _ (HC.out.keeps _ _ HS.out.2.2 (Mod.of_below p.ok _)) (HX.out _ (getD_mem _ _ (by omega))) (HX.out _ (getD_mem _ _ (by omega)))) fun e w' h => ⟨h.1, p.ok.trans (h.2.mono p.ok.size)⟩
      have HS2 : Hid (∀ W, Below wr.heap.size wr W → Sorts g t rest E w W xs) := fun W hW => Sorts.below HC.out.keeps HS.out hW
      have HY : Hid (¬ cf (xs.getD m 0) (xs.getD h 0) < 0 → bs (fun h => !decide (cf (xs.getD m 0) (xs.getD h 0) < 0)) (h + 1) j = bs (fun h => !decide (cf (xs.getD m 0) (xs.getD h 0) < 0)) a m) := fun hp => by rw [← HO.out, bs_yes _ i j hlt (by simpa [← hh] using hp), ← hh]
      have HN : Hid (cf (xs.getD m 0) (xs.getD h 0) < 0 → bs (fun h => !decide (cf (xs.getD m 0) (xs.getD h 0) < 0)) i h = bs (fun h => !decide (cf (xs.getD m 0) (xs.getD h 0) < 0)) a m) := fun hp => by rw [← HO.out, bs_no _ i j hlt (by simpa [← hh] using hp), ← hh]
      have HH := Lib.hid hh
      have e1 : (((i : Int) + (j : Int)) / 2).toNat = h := by omega
      have hhi : i ≤ h := by omega
      have hhj : h < j := by omega
      clear HS HO hh
      by_cases hlv : cf (xs.getD m 0) (xs.getD h 0) < 0
      · have hd1 : decide (cf (xs.getD m 0) (xs.getD h 0) < 0) = true := decide_eq_true hlv
        have HB := Lib.hid (HN.out hlv)
        clear HY HN hlv
        generalize xs.getD h 0 = x at l1 hcall hd1
        generalize xs.getD m 0 = y at l2 hcall hd1
        go_wp2_with fail
        refine wp_region_in (fun W => Below wr.heap.size wr W) (Below.refl _ _).drew (by kernel_rfl) (by kernel_rfl) ?_
        repeat (quiet_step (exact hcall.out _))
        refine wpQuiet_nil ?_
        rintro w2 ⟨⟨_, hw2⟩, rfl⟩
        have HN2 := Lib.hid (HS2.out w2 hw2)
        clear l1 l2 hcall HS2 hw2 ecall hd1 e1
        go_wp2
        go_roundg (h - i)
        case measure => omega
        case rel => exact ⟨i, h, rfl, by rw [HH.out]; go_num, by omega, by omega, by omega, Nat.le_refl _, HN2, HB⟩
      · have hd1 : decide (cf (xs.getD m 0) (xs.getD h 0) < 0) = false := decide_eq_false hlv
        have HB := Lib.hid (HY.out hlv)
        clear HY HN hlv
        generalize xs.getD h 0 = x at l1 hcall hd1
        generalize xs.getD m 0 = y at l2 hcall hd1
        go_wp2_with fail
        refine wp_region_in (fun W => Below wr.heap.size wr W) (Below.refl _ _).drew (by kernel_rfl) (by kernel_rfl) ?_
        repeat (quiet_step (exact hcall.out _))
        refine wpQuiet_nil ?_
        rintro w2 ⟨⟨_, hw2⟩, rfl⟩
        have HN2 := Lib.hid (HS2.out w2 hw2)
        clear l1 l2 hcall HS2 hw2 ecall hd1 e1
        go_wp2
        go_roundg (j - (h + 1))
        case measure => omega
        case rel => exact ⟨h + 1, j, by rw [HH.out]; go_num, rfl, by omega, by omega, by omega, Nat.le_refl _, HN2, HB⟩
    · have hltz : ¬ (i : Int) < (j : Int) := by omega
      obtain rfl : i = j := by omega
      have HBe : Hid (bs (fun h => !decide (cf (xs.getD m 0) (xs.getD h 0) < 0)) a m = i) := by rw [← HO.out, bs_end]; exact rfl
      have HG2 : Hid (symm cf (f + 1) a m b xs = shL i (m - i) xs) := by rw [HG.out, HBe.out]; exact rfl
      clear HO HBe HG
      go_wp2_with fail
      go_loopg [17] (m - i) (fun g1 vk wr => ∃ (k : Nat) (l : List Int), vk = .int .i64 k ∧ i ≤ k ∧ k ≤ m ∧ k - i ≤ g1 ∧ l.length = xs.length ∧ Hid (Sorts g t rest E w wr l) ∧ Hid (shL i (k - i) l = shL i (m - i) xs))
      case atStart => exact ⟨m, xs, by go_num, by omega, Nat.le_refl _, Nat.le_refl _, rfl, HS, rfl⟩
      case round =>
        clear HS
        obtain ⟨k, l, rfl, hak, hki, hg2, hsk, HS, HO⟩ := hrel
        by_cases hlt2 : i < k
        · obtain ⟨k, rfl⟩ : ∃ q, k = q + 1 := ⟨k - 1, by omega⟩
          have hltz2 : (i : Int) < (k : Int) + 1 := by omega
          have p0 : (0 : Int) ≤ (k : Int) + 1 := by omega
          have p1 : (k : Int) + 1 < (xs.length : Int) := by omega
          have p2 : (k : Int) < (xs.length : Int) := by omega
          have q1 : IntKind.i64.wrap (k : Int) = (k : Int) := by rw [IntKind.wrap_i64]; omega
          obtain ⟨HM, HDi, HEi⟩ := HS.out
          have l3 := HDi.cell k (by omega)
          have l4 := HDi.cell (k + 1) (by omega)
          have f3 := Blk.frozen HDi k
          have f4 := Blk.frozen HDi (k + 1)
          obtain ⟨u, l5⟩ := HDi.there (k + 1) k (by omega) (by omega) (l.getD k 0)
          have HN := Lib.hid (exchanged HC.out.keeps HS.out (k + 1) k (by omega) (by omega) _ _ rfl rfl)
          clear HM HDi HEi HS
          generalize l.getD k 0 = x at *
          generalize l.getD (k + 1) 0 = y at *
          go_wp2_with fail
          go_region
          clear l3 l4 l5 f3 f4
          generalize ((wr.setCell ⟨g, k + 1, none⟩ (.int .i64 x)).setCell ⟨g, k, none⟩ (.int .i64 y)).drew = w3 at *
          go_wp2
          go_roundg (k - i)
          case measure => omega
          case rel => exact ⟨k, swp l (k + 1) k, rfl, by omega, by omega, Nat.le_refl _, by rw [swp_length]; exact hsk, HN, by rw [← HO.out, show k + 1 - i = (k - i) + 1 from by omega, shL, show i + (k - i) = k from by omega]; exact rfl⟩
        · have hltz2 : ¬ (i : Int) < (k : Int) := by omega
          have HN : Hid (Sorts g t rest E w wr (symm cf (f + 1) a m b xs)) := by rw [HG2.out, ← HO.out, show k - i = 0 from by omega]; exact HS.out
          clear HS
          go_wp2
          refine bodyPost_ret (results_none rfl _ _ _) rfl ?_
          exact ⟨rfl, HN.out⟩

end Go.Proofs.Ytfpcgancmgeagaa
