/- The library's merge of snapshots: the general way, and all ways together. Written by gen_vsort.py. -/
import Derived.Test.YtfpcgancmgeagaaVSortC
namespace Go.Proofs.Ytfpcgancmgeagaa
open Go.RowKit

/-- What the merge does, said of all rows: what its recursion hands on. -/
def SymmDoesV (fn : FuncId) (cap : Array Value) (cf : Int → Int → Int) (ss : List Sn) (g : Nat) (E : World → Prop) (t : TypeId) (rest : List Value) (N c f : Nat) : Prop :=
  ∀ (xs : List Int) (a m b : Nat) (w : World), E w → (∀ x ∈ xs, InV ss x) → DatV ss w g t rest xs → xs.length = N → a < m → m < b → b ≤ N → b - a ≤ f →
    Calls Try.prog 113 #[.slice (some ⟨g, 0, none⟩) N c, .int .i64 a, .int .i64 m, .int .i64 b, .func (.func fn) #[] cap] w fun e w' =>
      e = .returned (.tuple #[]) ∧ SortsV ss g t rest E w w' (symm cf f a m b xs)

set_option maxHeartbeats 4000000 in
set_option maxRecDepth 100000 in
theorem symm_lowV (fn : FuncId) (cap : Array Value) (cf : Int → Int → Int) (ss : List Sn) (hok : ∀ s ∈ ss, s.ok) (g : Nat) (E : World → Prop) (hcmp : CmpOkV fn cap cf ss g E) (t : TypeId) (rest : List Value) (N c f : Nat) (hn : N ≤ 1073741824) (ih : SymmDoesV fn cap cf ss g E t rest N c f)
    (xs : List Int) (a m b M : Nat) (w : World) (hE : E w) (hD : ∀ x ∈ xs, InV ss x) (hd : DatV ss w g t rest xs) (hN : xs.length = N) (ha : a + 1 < m) (hm : m + 1 < b) (hb : b ≤ N) (hf : b - a ≤ f + 1) (hM : M = (a + b) / 2) (hmid : M < m) :
    Calls Try.prog 113 #[.slice (some ⟨g, 0, none⟩) N c, .int .i64 a, .int .i64 m, .int .i64 b, .func (.func fn) #[] cap] w fun e w' =>
      e = .returned (.tuple #[]) ∧ SortsV ss g t rest E w w' (symm cf (f + 1) a m b xs) := by
  have HC := Lib.hid hcmp
  have HOK := Lib.hid hok
  have HIH := Lib.hid ih
  have H0 : Hid (SortsV ss g t rest E w w xs) := ⟨Mod.refl _ _, hd, hE⟩
  have HX := Lib.hid hD
  have HNN := Lib.hid hN
  have he : ((m : Int) - (a : Int) == 1) = false := by simp; omega
  have he1 : ((b : Int) - (m : Int) == 1) = false := by simp; omega
  have eM : ((a : Int) + (b : Int)) / 2 = (M : Int) := by omega
  have haM : a < M := by omega
  have hMb : M < b := by omega
  have HM := Lib.hid hM
  have hlM : 2 * M ≤ a + b := by omega
  have hlM2 : a + b ≤ 2 * M + 1 := by omega
  have HST : Hid (smStart cf a m b xs = bs (smP cf xs (M + m - 1)) (M + m - b) (M)) := by unfold smStart smS smR mid; rw [← hM, if_pos hmid, if_pos hmid]; exact rfl
  clear hcmp hE hd hD hN hM ih hok
  go_enter Try.func113, Try.ntmps113
  go_wp2_with fail
  go_loopg [20, 21, 23] (b - a) (fun g1 vi vj _ wr => ∃ (i j : Nat), vi = .int .i64 i ∧ vj = .int .i64 j ∧ M + m - b ≤ i ∧ i ≤ j ∧ j ≤ M ∧ j - i ≤ g1 ∧ Hid (SortsV ss g t rest E w wr xs) ∧ Hid (bs (smP cf xs (M + m - 1)) i j = smStart cf a m b xs))
  case atStart => exact ⟨M + m - b, M, by go_num, by go_num, by omega, by omega, by omega, by omega, H0, HST.out.symm⟩
  case round =>
    clear H0 HST
    obtain ⟨i, j, rfl, rfl, hmi, hij, hjb, hg1, HS, HO⟩ := hrel
    by_cases hlt : i < j
    · have hltz : (i : Int) < (j : Int) := by omega
      obtain ⟨h, hh⟩ : ∃ h, h = (i + j) / 2 := ⟨_, rfl⟩
      obtain ⟨q, hq⟩ : ∃ q, q = M + m - 1 - h := ⟨_, rfl⟩
      have eh : ((i : Int) + (j : Int)) / 2 = (h : Int) := by omega
      have hhi : i ≤ h := by omega
      have hhj : h < j := by omega
      have p0 : (0 : Int) ≤ (M : Int) + (m : Int) - 1 - (h : Int) := by omega
      have p0a : (h : Int) ≤ (M : Int) + (m : Int) - 1 := by omega
      have p0b : (h : Int) < (M : Int) + (m : Int) := by omega
      have p1 : (M : Int) + (m : Int) - 1 - (h : Int) < (N : Int) := by omega
      have p2 : (h : Int) < (N : Int) := by omega
      have q1 : IntKind.i64.wrap ((M : Int) + (m : Int) - 1 - (h : Int)) = (M : Int) + (m : Int) - 1 - (h : Int) := by rw [IntKind.wrap_i64]; omega
      have e1 : ((M : Int) + (m : Int) - 1 - (h : Int)).toNat = q := by omega
      have hqN : q < xs.length := by rw [HNN.out]; omega
      have hhN : h < xs.length := by rw [HNN.out]; omega
      have l1 : Hid (∀ W, (∃ p : In (fun W => Below wr.heap.size wr W), W = p.world) → W.rangeAt g (h * 37) (snAt ss (xs.getD h 0)).cells) := by rintro _ ⟨p, rfl⟩; exact (HS.out.2.1.below p.ok (Blk.lt HS.out.2.1)).range HOK.out HX.out hhN
      have l2 : Hid (∀ W, (∃ p : In (fun W => Below wr.heap.size wr W), W = p.world) → W.rangeAt g (q * 37) (snAt ss (xs.getD q 0)).cells) := by rintro _ ⟨p, rfl⟩; exact (HS.out.2.1.below p.ok (Blk.lt HS.out.2.1)).range HOK.out HX.out hqN
      have K1 := Lib.hid (snAt_ok HOK.out (HX.out _ (getD_mem xs h hhN)))
      have K2 := Lib.hid (snAt_ok HOK.out (HX.out _ (getD_mem xs q hqN)))
      have ecall := HC.out.enters
      have hcall : Hid (∀ p : In (fun W => Below wr.heap.size wr W), Calls Try.prog fn (#[.agg (snAt ss (xs.getD q 0)).arr, .agg (snAt ss (xs.getD h 0)).arr] ++ cap) p.world fun e w'' => e = .returned (.int .i64 (cf (xs.getD q 0) (xs.getD h 0))) ∧ ∃ q : In (fun W => Below wr.heap.size wr W), w'' = q.world) := fun p =>
        Calls.into (HC.out.calls p.world _ _ (HC.out.keeps _ _ HS.out.2.2 (Mod.of_below p.ok _)) (HX.out _ (getD_mem _ _ hqN)) (HX.out _ (getD_mem _ _ hhN))) fun e w' h => ⟨h.1, p.ok.trans (h.2.mono p.ok.size)⟩
      have HS2 : Hid (∀ W, Below wr.heap.size wr W → SortsV ss g t rest E w W xs) := fun W hW => SortsV.below HC.out.keeps HS.out hW
      have HY : Hid (¬ cf (xs.getD q 0) (xs.getD h 0) < 0 → bs (smP cf xs (M + m - 1)) (h + 1) j = smStart cf a m b xs) := fun hp => by rw [← HO.out, bs_yes _ i j hlt (by rw [← hh, smP, ← hq]; simpa using hp), ← hh]
      have HN : Hid (cf (xs.getD q 0) (xs.getD h 0) < 0 → bs (smP cf xs (M + m - 1)) i h = smStart cf a m b xs) := fun hp => by rw [← HO.out, bs_no _ i j hlt (by rw [← hh, smP, ← hq]; simpa using hp), ← hh]
      clear HS HO hh hq hqN hhN
      by_cases hlv : cf (xs.getD q 0) (xs.getD h 0) < 0
      · have hd1 : decide (cf (xs.getD q 0) (xs.getD h 0) < 0) = true := decide_eq_true hlv
        have HB := Lib.hid (HN.out hlv)
        clear HY HN hlv
        generalize xs.getD h 0 = x at l1 K1 hcall hd1
        generalize xs.getD q 0 = y at l2 K2 hcall hd1
        go_wp2_with fail
        refine wp_region_in (fun W => Below wr.heap.size wr W) (Below.refl _ _).drew (by kernel_rfl) (by kernel_rfl) ?_
        repeat (first | (refine wpQuiet_load_mid rfl 42 (.tmp 167) rfl g (h * 37) rfl _ _ l1.out Try.underlying42 rfl (snap_cells' _ K1.out) ?_; simp only [Act.put, List.setIfInBounds_toArray, List.set_cons_zero, List.set_cons_succ]) | (refine wpQuiet_load_mid rfl 42 (.tmp 163) rfl g (q * 37) rfl _ _ l2.out Try.underlying42 rfl (snap_cells' _ K2.out) ?_; simp only [Act.put, List.setIfInBounds_toArray, List.set_cons_zero, List.set_cons_succ]) | (quiet_step (exact hcall.out _)))
        refine wpQuiet_nil ?_
        rintro w2 ⟨⟨_, hw2⟩, rfl⟩
        have HN2 := Lib.hid (HS2.out w2 hw2)
        clear l1 l2 hcall HS2 hw2 ecall hd1 e1
        go_wp2
        go_roundg (h - i)
        case measure => omega
        case rel => exact ⟨i, h, rfl, rfl, by omega, by omega, by omega, Nat.le_refl _, HN2, HB⟩
      · have hd1 : decide (cf (xs.getD q 0) (xs.getD h 0) < 0) = false := decide_eq_false hlv
        have HB := Lib.hid (HY.out hlv)
        clear HY HN hlv
        generalize xs.getD h 0 = x at l1 K1 hcall hd1
        generalize xs.getD q 0 = y at l2 K2 hcall hd1
        go_wp2_with fail
        refine wp_region_in (fun W => Below wr.heap.size wr W) (Below.refl _ _).drew (by kernel_rfl) (by kernel_rfl) ?_
        repeat (first | (refine wpQuiet_load_mid rfl 42 (.tmp 167) rfl g (h * 37) rfl _ _ l1.out Try.underlying42 rfl (snap_cells' _ K1.out) ?_; simp only [Act.put, List.setIfInBounds_toArray, List.set_cons_zero, List.set_cons_succ]) | (refine wpQuiet_load_mid rfl 42 (.tmp 163) rfl g (q * 37) rfl _ _ l2.out Try.underlying42 rfl (snap_cells' _ K2.out) ?_; simp only [Act.put, List.setIfInBounds_toArray, List.set_cons_zero, List.set_cons_succ]) | (quiet_step (exact hcall.out _)))
        refine wpQuiet_nil ?_
        rintro w2 ⟨⟨_, hw2⟩, rfl⟩
        have HN2 := Lib.hid (HS2.out w2 hw2)
        clear l1 l2 hcall HS2 hw2 ecall hd1 e1
        go_wp2
        go_roundg (j - (h + 1))
        case measure => omega
        case rel => exact ⟨h + 1, j, by go_num, rfl, by omega, by omega, by omega, Nat.le_refl _, HN2, HB⟩
    · have hltz : ¬ (i : Int) < (j : Int) := by omega
      obtain rfl : i = j := by omega
      have HBe : Hid (i = smStart cf a m b xs) := by rw [← HO.out, bs_end]; exact rfl
      clear HO
      obtain ⟨e, hee⟩ : ∃ e, e = M + m - i := ⟨_, rfl⟩
      have eE : (M : Int) + (m : Int) - (i : Int) = (e : Int) := by omega
      have HEE := Lib.hid hee
      have heb : e ≤ b := by omega
      have hMe : M ≤ e := by omega
      have hme : m ≤ e := by omega
      have hie : i + e = M + m := by omega
      clear hee
      by_cases hA : i < m
      · by_cases hD : i < M
        · by_cases hC : a < i
          · by_cases hG : e < b
            ·
              have HS0 := HS
              clear HS
              have HF : Hid (symm cf (f + 1) a m b xs = symm cf f M e b (symm cf f a i M (rot m (m - i) (e - m) xs))) := symm_gen cf f a m b xs ha hm M i e (rot m (m - i) (e - m) xs) (symm cf f a i M (rot m (m - i) (e - m) xs)) (symm cf f M e b (symm cf f a i M (rot m (m - i) (e - m) xs))) HM.out HBe.out HEE.out (by rw [if_pos (by omega)]) (by rw [if_pos (by omega)]) (by rw [if_pos (by omega)])
              have HL1 : Hid ((rot m (m - i) (e - m) xs).length = N ∧ ∀ x ∈ rot m (m - i) (e - m) xs, InV ss x) := ⟨by rw [rot_length m _ _ _ _ (Nat.le_refl _)]; exact HNN.out, fun x hx => HX.out x (mem_rot m _ _ _ xs (Nat.le_refl _) (by omega) (by rw [HNN.out]; omega) x hx)⟩
              have hcall0 := rotateV ss HOK.out g E HC.out.keeps t rest (.func (.func fn) #[] cap) xs c i m e wr HS0.out.2.2 HX.out HS0.out.2.1 (by omega) (by omega) (by rw [HNN.out]; omega) (by rw [HNN.out]; exact hn)
              rw [HNN.out] at hcall0
              have HCALL0 := Lib.hid hcall0
              clear hcall0
              go_wp2_with fail
              all_goals refine (HCALL0.out).mono ?_
              all_goals rintro _ w1 ⟨rfl, hs1⟩
              all_goals have HS1 := Lib.hid (HS0.out.trans hs1)
              all_goals clear hs1 HS0
              all_goals clear HCALL0
              all_goals have HCALL1 := Lib.hid (HIH.out (rot m (m - i) (e - m) xs) a i M w1 HS1.out.2.2 HL1.out.2 HS1.out.2.1 HL1.out.1 (by omega) (by omega) (by omega) (by omega))
              all_goals have HL2 : Hid ((symm cf f a i M (rot m (m - i) (e - m) xs)).length = N ∧ ∀ x ∈ symm cf f a i M (rot m (m - i) (e - m) xs), InV ss x) := ⟨by rw [symm_length]; exact HL1.out.1, fun x hx => HL1.out.2 x (mem_symm cf f a i M _ (by omega) (by omega) (by rw [HL1.out.1]; omega) x hx)⟩
              all_goals go_wp2_with fail
              all_goals refine (HCALL1.out).mono ?_
              all_goals rintro _ w2 ⟨rfl, hs2⟩
              all_goals have HS2 := Lib.hid (HS1.out.trans hs2)
              all_goals clear hs2 HS1
              all_goals clear HCALL1
              all_goals have HCALL2 := Lib.hid (HIH.out (symm cf f a i M (rot m (m - i) (e - m) xs)) M e b w2 HS2.out.2.2 HL2.out.2 HS2.out.2.1 HL2.out.1 (by omega) (by omega) (by omega) (by omega))
              all_goals go_wp2_with fail
              all_goals refine (HCALL2.out).mono ?_
              all_goals rintro _ w3 ⟨rfl, hs3⟩
              all_goals have HS3 := Lib.hid (HS2.out.trans hs3)
              all_goals clear hs3 HS2
              all_goals clear HCALL2
              all_goals have HFIN : Hid (SortsV ss g t rest E w w3 (symm cf (f + 1) a m b xs)) := by rw [HF.out]; exact HS3.out
              all_goals clear HS3
              all_goals go_wp2_with fail
              all_goals go_end0
              all_goals exact ⟨rfl, HFIN.out⟩
            ·
              have HS0 := HS
              clear HS
              have HF : Hid (symm cf (f + 1) a m b xs = symm cf f a i M (rot m (m - i) (e - m) xs)) := symm_gen cf f a m b xs ha hm M i e (rot m (m - i) (e - m) xs) (symm cf f a i M (rot m (m - i) (e - m) xs)) (symm cf f a i M (rot m (m - i) (e - m) xs)) HM.out HBe.out HEE.out (by rw [if_pos (by omega)]) (by rw [if_pos (by omega)]) (by rw [if_neg (by omega)])
              have HL1 : Hid ((rot m (m - i) (e - m) xs).length = N ∧ ∀ x ∈ rot m (m - i) (e - m) xs, InV ss x) := ⟨by rw [rot_length m _ _ _ _ (Nat.le_refl _)]; exact HNN.out, fun x hx => HX.out x (mem_rot m _ _ _ xs (Nat.le_refl _) (by omega) (by rw [HNN.out]; omega) x hx)⟩
              have hcall0 := rotateV ss HOK.out g E HC.out.keeps t rest (.func (.func fn) #[] cap) xs c i m e wr HS0.out.2.2 HX.out HS0.out.2.1 (by omega) (by omega) (by rw [HNN.out]; omega) (by rw [HNN.out]; exact hn)
              rw [HNN.out] at hcall0
              have HCALL0 := Lib.hid hcall0
              clear hcall0
              go_wp2_with fail
              all_goals refine (HCALL0.out).mono ?_
              all_goals rintro _ w1 ⟨rfl, hs1⟩
              all_goals have HS1 := Lib.hid (HS0.out.trans hs1)
              all_goals clear hs1 HS0
              all_goals clear HCALL0
              all_goals have HCALL1 := Lib.hid (HIH.out (rot m (m - i) (e - m) xs) a i M w1 HS1.out.2.2 HL1.out.2 HS1.out.2.1 HL1.out.1 (by omega) (by omega) (by omega) (by omega))
              all_goals have HL2 : Hid ((symm cf f a i M (rot m (m - i) (e - m) xs)).length = N ∧ ∀ x ∈ symm cf f a i M (rot m (m - i) (e - m) xs), InV ss x) := ⟨by rw [symm_length]; exact HL1.out.1, fun x hx => HL1.out.2 x (mem_symm cf f a i M _ (by omega) (by omega) (by rw [HL1.out.1]; omega) x hx)⟩
              all_goals go_wp2_with fail
              all_goals refine (HCALL1.out).mono ?_
              all_goals rintro _ w2 ⟨rfl, hs2⟩
              all_goals have HS2 := Lib.hid (HS1.out.trans hs2)
              all_goals clear hs2 HS1
              all_goals clear HCALL1
              all_goals have HFIN : Hid (SortsV ss g t rest E w w2 (symm cf (f + 1) a m b xs)) := by rw [HF.out]; exact HS2.out
              all_goals clear HS2
              all_goals go_wp2_with fail
              all_goals go_end0
              all_goals exact ⟨rfl, HFIN.out⟩
          · by_cases hG : e < b
            ·
              have HS0 := HS
              clear HS
              have HF : Hid (symm cf (f + 1) a m b xs = symm cf f M e b (rot m (m - i) (e - m) xs)) := symm_gen cf f a m b xs ha hm M i e (rot m (m - i) (e - m) xs) (rot m (m - i) (e - m) xs) (symm cf f M e b (rot m (m - i) (e - m) xs)) HM.out HBe.out HEE.out (by rw [if_pos (by omega)]) (by rw [if_neg (by omega)]) (by rw [if_pos (by omega)])
              have HL1 : Hid ((rot m (m - i) (e - m) xs).length = N ∧ ∀ x ∈ rot m (m - i) (e - m) xs, InV ss x) := ⟨by rw [rot_length m _ _ _ _ (Nat.le_refl _)]; exact HNN.out, fun x hx => HX.out x (mem_rot m _ _ _ xs (Nat.le_refl _) (by omega) (by rw [HNN.out]; omega) x hx)⟩
              have hcall0 := rotateV ss HOK.out g E HC.out.keeps t rest (.func (.func fn) #[] cap) xs c i m e wr HS0.out.2.2 HX.out HS0.out.2.1 (by omega) (by omega) (by rw [HNN.out]; omega) (by rw [HNN.out]; exact hn)
              rw [HNN.out] at hcall0
              have HCALL0 := Lib.hid hcall0
              clear hcall0
              go_wp2_with fail
              all_goals refine (HCALL0.out).mono ?_
              all_goals rintro _ w1 ⟨rfl, hs1⟩
              all_goals have HS1 := Lib.hid (HS0.out.trans hs1)
              all_goals clear hs1 HS0
              all_goals clear HCALL0
              all_goals have HL2 := HL1
              all_goals have HCALL2 := Lib.hid (HIH.out (rot m (m - i) (e - m) xs) M e b w1 HS1.out.2.2 HL2.out.2 HS1.out.2.1 HL2.out.1 (by omega) (by omega) (by omega) (by omega))
              all_goals go_wp2_with fail
              all_goals refine (HCALL2.out).mono ?_
              all_goals rintro _ w2 ⟨rfl, hs2⟩
              all_goals have HS2 := Lib.hid (HS1.out.trans hs2)
              all_goals clear hs2 HS1
              all_goals clear HCALL2
              all_goals have HFIN : Hid (SortsV ss g t rest E w w2 (symm cf (f + 1) a m b xs)) := by rw [HF.out]; exact HS2.out
              all_goals clear HS2
              all_goals go_wp2_with fail
              all_goals go_end0
              all_goals exact ⟨rfl, HFIN.out⟩
            ·
              have HS0 := HS
              clear HS
              have HF : Hid (symm cf (f + 1) a m b xs = rot m (m - i) (e - m) xs) := symm_gen cf f a m b xs ha hm M i e (rot m (m - i) (e - m) xs) (rot m (m - i) (e - m) xs) (rot m (m - i) (e - m) xs) HM.out HBe.out HEE.out (by rw [if_pos (by omega)]) (by rw [if_neg (by omega)]) (by rw [if_neg (by omega)])
              have HL1 : Hid ((rot m (m - i) (e - m) xs).length = N ∧ ∀ x ∈ rot m (m - i) (e - m) xs, InV ss x) := ⟨by rw [rot_length m _ _ _ _ (Nat.le_refl _)]; exact HNN.out, fun x hx => HX.out x (mem_rot m _ _ _ xs (Nat.le_refl _) (by omega) (by rw [HNN.out]; omega) x hx)⟩
              have hcall0 := rotateV ss HOK.out g E HC.out.keeps t rest (.func (.func fn) #[] cap) xs c i m e wr HS0.out.2.2 HX.out HS0.out.2.1 (by omega) (by omega) (by rw [HNN.out]; omega) (by rw [HNN.out]; exact hn)
              rw [HNN.out] at hcall0
              have HCALL0 := Lib.hid hcall0
              clear hcall0
              go_wp2_with fail
              all_goals refine (HCALL0.out).mono ?_
              all_goals rintro _ w1 ⟨rfl, hs1⟩
              all_goals have HS1 := Lib.hid (HS0.out.trans hs1)
              all_goals clear hs1 HS0
              all_goals clear HCALL0
              all_goals have HL2 := HL1
              all_goals have HFIN : Hid (SortsV ss g t rest E w w1 (symm cf (f + 1) a m b xs)) := by rw [HF.out]; exact HS1.out
              all_goals clear HS1
              all_goals go_wp2_with fail
              all_goals go_end0
              all_goals exact ⟨rfl, HFIN.out⟩
        · have hC : a < i := by omega
          have hG : e < b := by omega
          have HS0 := HS
          clear HS
          have HF : Hid (symm cf (f + 1) a m b xs = symm cf f M e b (xs)) := symm_gen cf f a m b xs ha hm M i e (xs) (xs) (symm cf f M e b (xs)) HM.out HBe.out HEE.out (by rw [if_neg (by omega)]) (by rw [if_neg (by omega)]) (by rw [if_pos (by omega)])
          have HL1 : Hid (xs.length = N ∧ ∀ x ∈ xs, InV ss x) := ⟨HNN.out, HX.out⟩
          have HL2 := HL1
          have HCALL2 := Lib.hid (HIH.out (xs) M e b wr HS0.out.2.2 HL2.out.2 HS0.out.2.1 HL2.out.1 (by omega) (by omega) (by omega) (by omega))
          go_wp2_with fail
          all_goals refine (HCALL2.out).mono ?_
          all_goals rintro _ w1 ⟨rfl, hs1⟩
          all_goals have HS1 := Lib.hid (HS0.out.trans hs1)
          all_goals clear hs1 HS0
          all_goals clear HCALL2
          all_goals have HFIN : Hid (SortsV ss g t rest E w w1 (symm cf (f + 1) a m b xs)) := by rw [HF.out]; exact HS1.out
          all_goals clear HS1
          all_goals go_wp2_with fail
          all_goals go_end0
          all_goals exact ⟨rfl, HFIN.out⟩
      · have hC : a < i := by omega
        by_cases hD : i < M
        ·
          have HS0 := HS
          clear HS
          have HF : Hid (symm cf (f + 1) a m b xs = symm cf f a i M (xs)) := symm_gen cf f a m b xs ha hm M i e (xs) (symm cf f a i M (xs)) (symm cf f a i M (xs)) HM.out HBe.out HEE.out (by rw [if_neg (by omega)]) (by rw [if_pos (by omega)]) (by rw [if_neg (by omega)])
          have HL1 : Hid (xs.length = N ∧ ∀ x ∈ xs, InV ss x) := ⟨HNN.out, HX.out⟩
          have HCALL1 := Lib.hid (HIH.out (xs) a i M wr HS0.out.2.2 HL1.out.2 HS0.out.2.1 HL1.out.1 (by omega) (by omega) (by omega) (by omega))
          have HL2 : Hid ((symm cf f a i M (xs)).length = N ∧ ∀ x ∈ symm cf f a i M (xs), InV ss x) := ⟨by rw [symm_length]; exact HL1.out.1, fun x hx => HL1.out.2 x (mem_symm cf f a i M _ (by omega) (by omega) (by rw [HL1.out.1]; omega) x hx)⟩
          go_wp2_with fail
          all_goals refine (HCALL1.out).mono ?_
          all_goals rintro _ w1 ⟨rfl, hs1⟩
          all_goals have HS1 := Lib.hid (HS0.out.trans hs1)
          all_goals clear hs1 HS0
          all_goals clear HCALL1
          all_goals have HFIN : Hid (SortsV ss g t rest E w w1 (symm cf (f + 1) a m b xs)) := by rw [HF.out]; exact HS1.out
          all_goals clear HS1
          all_goals go_wp2_with fail
          all_goals go_end0
          all_goals exact ⟨rfl, HFIN.out⟩
        ·
          have HS0 := HS
          clear HS
          have HF : Hid (symm cf (f + 1) a m b xs = xs) := symm_gen cf f a m b xs ha hm M i e (xs) (xs) (xs) HM.out HBe.out HEE.out (by rw [if_neg (by omega)]) (by rw [if_neg (by omega)]) (by rw [if_neg (by omega)])
          have HL1 : Hid (xs.length = N ∧ ∀ x ∈ xs, InV ss x) := ⟨HNN.out, HX.out⟩
          have HL2 := HL1
          have HFIN : Hid (SortsV ss g t rest E w wr (symm cf (f + 1) a m b xs)) := by rw [HF.out]; exact HS0.out
          clear HS0
          go_wp2_with fail
          all_goals go_end0
          all_goals exact ⟨rfl, HFIN.out⟩

set_option maxHeartbeats 4000000 in
set_option maxRecDepth 100000 in
theorem symm_highV (fn : FuncId) (cap : Array Value) (cf : Int → Int → Int) (ss : List Sn) (hok : ∀ s ∈ ss, s.ok) (g : Nat) (E : World → Prop) (hcmp : CmpOkV fn cap cf ss g E) (t : TypeId) (rest : List Value) (N c f : Nat) (hn : N ≤ 1073741824) (ih : SymmDoesV fn cap cf ss g E t rest N c f)
    (xs : List Int) (a m b M : Nat) (w : World) (hE : E w) (hD : ∀ x ∈ xs, InV ss x) (hd : DatV ss w g t rest xs) (hN : xs.length = N) (ha : a + 1 < m) (hm : m + 1 < b) (hb : b ≤ N) (hf : b - a ≤ f + 1) (hM : M = (a + b) / 2) (hmid : ¬ M < m) :
    Calls Try.prog 113 #[.slice (some ⟨g, 0, none⟩) N c, .int .i64 a, .int .i64 m, .int .i64 b, .func (.func fn) #[] cap] w fun e w' =>
      e = .returned (.tuple #[]) ∧ SortsV ss g t rest E w w' (symm cf (f + 1) a m b xs) := by
  have HC := Lib.hid hcmp
  have HOK := Lib.hid hok
  have HIH := Lib.hid ih
  have H0 : Hid (SortsV ss g t rest E w w xs) := ⟨Mod.refl _ _, hd, hE⟩
  have HX := Lib.hid hD
  have HNN := Lib.hid hN
  have he : ((m : Int) - (a : Int) == 1) = false := by simp; omega
  have he1 : ((b : Int) - (m : Int) == 1) = false := by simp; omega
  have eM : ((a : Int) + (b : Int)) / 2 = (M : Int) := by omega
  have haM : a < M := by omega
  have hMb : M < b := by omega
  have HM := Lib.hid hM
  have hlM : 2 * M ≤ a + b := by omega
  have hlM2 : a + b ≤ 2 * M + 1 := by omega
  have HST : Hid (smStart cf a m b xs = bs (smP cf xs (M + m - 1)) (a) (m)) := by unfold smStart smS smR mid; rw [← hM, if_neg hmid, if_neg hmid]; exact rfl
  clear hcmp hE hd hD hN hM ih hok
  go_enter Try.func113, Try.ntmps113
  go_wp2_with fail
  go_loopg [20, 21, 23] (b - a) (fun g1 vi vj _ wr => ∃ (i j : Nat), vi = .int .i64 i ∧ vj = .int .i64 j ∧ a ≤ i ∧ i ≤ j ∧ j ≤ m ∧ j - i ≤ g1 ∧ Hid (SortsV ss g t rest E w wr xs) ∧ Hid (bs (smP cf xs (M + m - 1)) i j = smStart cf a m b xs))
  case atStart => exact ⟨a, m, by go_num, by go_num, by omega, by omega, by omega, by omega, H0, HST.out.symm⟩
  case round =>
    clear H0 HST
    obtain ⟨i, j, rfl, rfl, hmi, hij, hjb, hg1, HS, HO⟩ := hrel
    by_cases hlt : i < j
    · have hltz : (i : Int) < (j : Int) := by omega
      obtain ⟨h, hh⟩ : ∃ h, h = (i + j) / 2 := ⟨_, rfl⟩
      obtain ⟨q, hq⟩ : ∃ q, q = M + m - 1 - h := ⟨_, rfl⟩
      have eh : ((i : Int) + (j : Int)) / 2 = (h : Int) := by omega
      have hhi : i ≤ h := by omega
      have hhj : h < j := by omega
      have p0 : (0 : Int) ≤ (M : Int) + (m : Int) - 1 - (h : Int) := by omega
      have p0a : (h : Int) ≤ (M : Int) + (m : Int) - 1 := by omega
      have p0b : (h : Int) < (M : Int) + (m : Int) := by omega
      have p1 : (M : Int) + (m : Int) - 1 - (h : Int) < (N : Int) := by omega
      have p2 : (h : Int) < (N : Int) := by omega
      have q1 : IntKind.i64.wrap ((M : Int) + (m : Int) - 1 - (h : Int)) = (M : Int) + (m : Int) - 1 - (h : Int) := by rw [IntKind.wrap_i64]; omega
      have e1 : ((M : Int) + (m : Int) - 1 - (h : Int)).toNat = q := by omega
      have hqN : q < xs.length := by rw [HNN.out]; omega
      have hhN : h < xs.length := by rw [HNN.out]; omega
      have l1 : Hid (∀ W, (∃ p : In (fun W => Below wr.heap.size wr W), W = p.world) → W.rangeAt g (h * 37) (snAt ss (xs.getD h 0)).cells) := by rintro _ ⟨p, rfl⟩; exact (HS.out.2.1.below p.ok (Blk.lt HS.out.2.1)).range HOK.out HX.out hhN
      have l2 : Hid (∀ W, (∃ p : In (fun W => Below wr.heap.size wr W), W = p.world) → W.rangeAt g (q * 37) (snAt ss (xs.getD q 0)).cells) := by rintro _ ⟨p, rfl⟩; exact (HS.out.2.1.below p.ok (Blk.lt HS.out.2.1)).range HOK.out HX.out hqN
      have K1 := Lib.hid (snAt_ok HOK.out (HX.out _ (getD_mem xs h hhN)))
      have K2 := Lib.hid (snAt_ok HOK.out (HX.out _ (getD_mem xs q hqN)))
      have ecall := HC.out.enters
      have hcall : Hid (∀ p : In (fun W => Below wr.heap.size wr W), Calls Try.prog fn (#[.agg (snAt ss (xs.getD q 0)).arr, .agg (snAt ss (xs.getD h 0)).arr] ++ cap) p.world fun e w'' => e = .returned (.int .i64 (cf (xs.getD q 0) (xs.getD h 0))) ∧ ∃ q : In (fun W => Below wr.heap.size wr W), w'' = q.world) := fun p =>
        Calls.into (HC.out.calls p.world _ _ (HC.out.keeps _ _ HS.out.2.2 (Mod.of_below p.ok _)) (HX.out _ (getD_mem _ _ hqN)) (HX.out _ (getD_mem _ _ hhN))) fun e w' h => ⟨h.1, p.ok.trans (h.2.mono p.ok.size)⟩
      have HS2 : Hid (∀ W, Below wr.heap.size wr W → SortsV ss g t rest E w W xs) := fun W hW => SortsV.below HC.out.keeps HS.out hW
      have HY : Hid (¬ cf (xs.getD q 0) (xs.getD h 0) < 0 → bs (smP cf xs (M + m - 1)) (h + 1) j = smStart cf a m b xs) := fun hp => by rw [← HO.out, bs_yes _ i j hlt (by rw [← hh, smP, ← hq]; simpa using hp), ← hh]
      have HN : Hid (cf (xs.getD q 0) (xs.getD h 0) < 0 → bs (smP cf xs (M + m - 1)) i h = smStart cf a m b xs) := fun hp => by rw [← HO.out, bs_no _ i j hlt (by rw [← hh, smP, ← hq]; simpa using hp), ← hh]
      clear HS HO hh hq hqN hhN
      by_cases hlv : cf (xs.getD q 0) (xs.getD h 0) < 0
      · have hd1 : decide (cf (xs.getD q 0) (xs.getD h 0) < 0) = true := decide_eq_true hlv
        have HB := Lib.hid (HN.out hlv)
        clear HY HN hlv
        generalize xs.getD h 0 = x at l1 K1 hcall hd1
        generalize xs.getD q 0 = y at l2 K2 hcall hd1
        go_wp2_with fail
        refine wp_region_in (fun W => Below wr.heap.size wr W) (Below.refl _ _).drew (by kernel_rfl) (by kernel_rfl) ?_
        repeat (first | (refine wpQuiet_load_mid rfl 42 (.tmp 167) rfl g (h * 37) rfl _ _ l1.out Try.underlying42 rfl (snap_cells' _ K1.out) ?_; simp only [Act.put, List.setIfInBounds_toArray, List.set_cons_zero, List.set_cons_succ]) | (refine wpQuiet_load_mid rfl 42 (.tmp 163) rfl g (q * 37) rfl _ _ l2.out Try.underlying42 rfl (snap_cells' _ K2.out) ?_; simp only [Act.put, List.setIfInBounds_toArray, List.set_cons_zero, List.set_cons_succ]) | (quiet_step (exact hcall.out _)))
        refine wpQuiet_nil ?_
        rintro w2 ⟨⟨_, hw2⟩, rfl⟩
        have HN2 := Lib.hid (HS2.out w2 hw2)
        clear l1 l2 hcall HS2 hw2 ecall hd1 e1
        go_wp2
        go_roundg (h - i)
        case measure => omega
        case rel => exact ⟨i, h, rfl, rfl, by omega, by omega, by omega, Nat.le_refl _, HN2, HB⟩
      · have hd1 : decide (cf (xs.getD q 0) (xs.getD h 0) < 0) = false := decide_eq_false hlv
        have HB := Lib.hid (HY.out hlv)
        clear HY HN hlv
        generalize xs.getD h 0 = x at l1 K1 hcall hd1
        generalize xs.getD q 0 = y at l2 K2 hcall hd1
        go_wp2_with fail
        refine wp_region_in (fun W => Below wr.heap.size wr W) (Below.refl _ _).drew (by kernel_rfl) (by kernel_rfl) ?_
        repeat (first | (refine wpQuiet_load_mid rfl 42 (.tmp 167) rfl g (h * 37) rfl _ _ l1.out Try.underlying42 rfl (snap_cells' _ K1.out) ?_; simp only [Act.put, List.setIfInBounds_toArray, List.set_cons_zero, List.set_cons_succ]) | (refine wpQuiet_load_mid rfl 42 (.tmp 163) rfl g (q * 37) rfl _ _ l2.out Try.underlying42 rfl (snap_cells' _ K2.out) ?_; simp only [Act.put, List.setIfInBounds_toArray, List.set_cons_zero, List.set_cons_succ]) | (quiet_step (exact hcall.out _)))
        refine wpQuiet_nil ?_
        rintro w2 ⟨⟨_, hw2⟩, rfl⟩
        have HN2 := Lib.hid (HS2.out w2 hw2)
        clear l1 l2 hcall HS2 hw2 ecall hd1 e1
        go_wp2
        go_roundg (j - (h + 1))
        case measure => omega
        case rel => exact ⟨h + 1, j, by go_num, rfl, by omega, by omega, by omega, Nat.le_refl _, HN2, HB⟩
    · have hltz : ¬ (i : Int) < (j : Int) := by omega
      obtain rfl : i = j := by omega
      have HBe : Hid (i = smStart cf a m b xs) := by rw [← HO.out, bs_end]; exact rfl
      clear HO
      obtain ⟨e, hee⟩ : ∃ e, e = M + m - i := ⟨_, rfl⟩
      have eE : (M : Int) + (m : Int) - (i : Int) = (e : Int) := by omega
      have HEE := Lib.hid hee
      have heb : e ≤ b := by omega
      have hMe : M ≤ e := by omega
      have hme : m ≤ e := by omega
      have hie : i + e = M + m := by omega
      clear hee
      by_cases hA : i < m
      · by_cases hD : i < M
        · by_cases hC : a < i
          · by_cases hG : e < b
            ·
              have HS0 := HS
              clear HS
              have HF : Hid (symm cf (f + 1) a m b xs = symm cf f M e b (symm cf f a i M (rot m (m - i) (e - m) xs))) := symm_gen cf f a m b xs ha hm M i e (rot m (m - i) (e - m) xs) (symm cf f a i M (rot m (m - i) (e - m) xs)) (symm cf f M e b (symm cf f a i M (rot m (m - i) (e - m) xs))) HM.out HBe.out HEE.out (by rw [if_pos (by omega)]) (by rw [if_pos (by omega)]) (by rw [if_pos (by omega)])
              have HL1 : Hid ((rot m (m - i) (e - m) xs).length = N ∧ ∀ x ∈ rot m (m - i) (e - m) xs, InV ss x) := ⟨by rw [rot_length m _ _ _ _ (Nat.le_refl _)]; exact HNN.out, fun x hx => HX.out x (mem_rot m _ _ _ xs (Nat.le_refl _) (by omega) (by rw [HNN.out]; omega) x hx)⟩
              have hcall0 := rotateV ss HOK.out g E HC.out.keeps t rest (.func (.func fn) #[] cap) xs c i m e wr HS0.out.2.2 HX.out HS0.out.2.1 (by omega) (by omega) (by rw [HNN.out]; omega) (by rw [HNN.out]; exact hn)
              rw [HNN.out] at hcall0
              have HCALL0 := Lib.hid hcall0
              clear hcall0
              go_wp2_with fail
              all_goals refine (HCALL0.out).mono ?_
              all_goals rintro _ w1 ⟨rfl, hs1⟩
              all_goals have HS1 := Lib.hid (HS0.out.trans hs1)
              all_goals clear hs1 HS0
              all_goals clear HCALL0
              all_goals have HCALL1 := Lib.hid (HIH.out (rot m (m - i) (e - m) xs) a i M w1 HS1.out.2.2 HL1.out.2 HS1.out.2.1 HL1.out.1 (by omega) (by omega) (by omega) (by omega))
              all_goals have HL2 : Hid ((symm cf f a i M (rot m (m - i) (e - m) xs)).length = N ∧ ∀ x ∈ symm cf f a i M (rot m (m - i) (e - m) xs), InV ss x) := ⟨by rw [symm_length]; exact HL1.out.1, fun x hx => HL1.out.2 x (mem_symm cf f a i M _ (by omega) (by omega) (by rw [HL1.out.1]; omega) x hx)⟩
              all_goals go_wp2_with fail
              all_goals refine (HCALL1.out).mono ?_
              all_goals rintro _ w2 ⟨rfl, hs2⟩
              all_goals have HS2 := Lib.hid (HS1.out.trans hs2)
              all_goals clear hs2 HS1
              all_goals clear HCALL1
              all_goals have HCALL2 := Lib.hid (HIH.out (symm cf f a i M (rot m (m - i) (e - m) xs)) M e b w2 HS2.out.2.2 HL2.out.2 HS2.out.2.1 HL2.out.1 (by omega) (by omega) (by omega) (by omega))
              all_goals go_wp2_with fail
              all_goals refine (HCALL2.out).mono ?_
              all_goals rintro _ w3 ⟨rfl, hs3⟩
              all_goals have HS3 := Lib.hid (HS2.out.trans hs3)
              all_goals clear hs3 HS2
              all_goals clear HCALL2
              all_goals have HFIN : Hid (SortsV ss g t rest E w w3 (symm cf (f + 1) a m b xs)) := by rw [HF.out]; exact HS3.out
              all_goals clear HS3
              all_goals go_wp2_with fail
              all_goals go_end0
              all_goals exact ⟨rfl, HFIN.out⟩
            ·
              have HS0 := HS
              clear HS
              have HF : Hid (symm cf (f + 1) a m b xs = symm cf f a i M (rot m (m - i) (e - m) xs)) := symm_gen cf f a m b xs ha hm M i e (rot m (m - i) (e - m) xs) (symm cf f a i M (rot m (m - i) (e - m) xs)) (symm cf f a i M (rot m (m - i) (e - m) xs)) HM.out HBe.out HEE.out (by rw [if_pos (by omega)]) (by rw [if_pos (by omega)]) (by rw [if_neg (by omega)])
              have HL1 : Hid ((rot m (m - i) (e - m) xs).length = N ∧ ∀ x ∈ rot m (m - i) (e - m) xs, InV ss x) := ⟨by rw [rot_length m _ _ _ _ (Nat.le_refl _)]; exact HNN.out, fun x hx => HX.out x (mem_rot m _ _ _ xs (Nat.le_refl _) (by omega) (by rw [HNN.out]; omega) x hx)⟩
              have hcall0 := rotateV ss HOK.out g E HC.out.keeps t rest (.func (.func fn) #[] cap) xs c i m e wr HS0.out.2.2 HX.out HS0.out.2.1 (by omega) (by omega) (by rw [HNN.out]; omega) (by rw [HNN.out]; exact hn)
              rw [HNN.out] at hcall0
              have HCALL0 := Lib.hid hcall0
              clear hcall0
              go_wp2_with fail
              all_goals refine (HCALL0.out).mono ?_
              all_goals rintro _ w1 ⟨rfl, hs1⟩
              all_goals have HS1 := Lib.hid (HS0.out.trans hs1)
              all_goals clear hs1 HS0
              all_goals clear HCALL0
              all_goals have HCALL1 := Lib.hid (HIH.out (rot m (m - i) (e - m) xs) a i M w1 HS1.out.2.2 HL1.out.2 HS1.out.2.1 HL1.out.1 (by omega) (by omega) (by omega) (by omega))
              all_goals have HL2 : Hid ((symm cf f a i M (rot m (m - i) (e - m) xs)).length = N ∧ ∀ x ∈ symm cf f a i M (rot m (m - i) (e - m) xs), InV ss x) := ⟨by rw [symm_length]; exact HL1.out.1, fun x hx => HL1.out.2 x (mem_symm cf f a i M _ (by omega) (by omega) (by rw [HL1.out.1]; omega) x hx)⟩
              all_goals go_wp2_with fail
              all_goals refine (HCALL1.out).mono ?_
              all_goals rintro _ w2 ⟨rfl, hs2⟩
              all_goals have HS2 := Lib.hid (HS1.out.trans hs2)
              all_goals clear hs2 HS1
              all_goals clear HCALL1
              all_goals have HFIN : Hid (SortsV ss g t rest E w w2 (symm cf (f + 1) a m b xs)) := by rw [HF.out]; exact HS2.out
              all_goals clear HS2
              all_goals go_wp2_with fail
              all_goals go_end0
              all_goals exact ⟨rfl, HFIN.out⟩
          · by_cases hG : e < b
            ·
              have HS0 := HS
              clear HS
              have HF : Hid (symm cf (f + 1) a m b xs = symm cf f M e b (rot m (m - i) (e - m) xs)) := symm_gen cf f a m b xs ha hm M i e (rot m (m - i) (e - m) xs) (rot m (m - i) (e - m) xs) (symm cf f M e b (rot m (m - i) (e - m) xs)) HM.out HBe.out HEE.out (by rw [if_pos (by omega)]) (by rw [if_neg (by omega)]) (by rw [if_pos (by omega)])
              have HL1 : Hid ((rot m (m - i) (e - m) xs).length = N ∧ ∀ x ∈ rot m (m - i) (e - m) xs, InV ss x) := ⟨by rw [rot_length m _ _ _ _ (Nat.le_refl _)]; exact HNN.out, fun x hx => HX.out x (mem_rot m _ _ _ xs (Nat.le_refl _) (by omega) (by rw [HNN.out]; omega) x hx)⟩
              have hcall0 := rotateV ss HOK.out g E HC.out.keeps t rest (.func (.func fn) #[] cap) xs c i m e wr HS0.out.2.2 HX.out HS0.out.2.1 (by omega) (by omega) (by rw [HNN.out]; omega) (by rw [HNN.out]; exact hn)
              rw [HNN.out] at hcall0
              have HCALL0 := Lib.hid hcall0
              clear hcall0
              go_wp2_with fail
              all_goals refine (HCALL0.out).mono ?_
              all_goals rintro _ w1 ⟨rfl, hs1⟩
              all_goals have HS1 := Lib.hid (HS0.out.trans hs1)
              all_goals clear hs1 HS0
              all_goals clear HCALL0
              all_goals have HL2 := HL1
              all_goals have HCALL2 := Lib.hid (HIH.out (rot m (m - i) (e - m) xs) M e b w1 HS1.out.2.2 HL2.out.2 HS1.out.2.1 HL2.out.1 (by omega) (by omega) (by omega) (by omega))
              all_goals go_wp2_with fail
              all_goals refine (HCALL2.out).mono ?_
              all_goals rintro _ w2 ⟨rfl, hs2⟩
              all_goals have HS2 := Lib.hid (HS1.out.trans hs2)
              all_goals clear hs2 HS1
              all_goals clear HCALL2
              all_goals have HFIN : Hid (SortsV ss g t rest E w w2 (symm cf (f + 1) a m b xs)) := by rw [HF.out]; exact HS2.out
              all_goals clear HS2
              all_goals go_wp2_with fail
              all_goals go_end0
              all_goals exact ⟨rfl, HFIN.out⟩
            ·
              have HS0 := HS
              clear HS
              have HF : Hid (symm cf (f + 1) a m b xs = rot m (m - i) (e - m) xs) := symm_gen cf f a m b xs ha hm M i e (rot m (m - i) (e - m) xs) (rot m (m - i) (e - m) xs) (rot m (m - i) (e - m) xs) HM.out HBe.out HEE.out (by rw [if_pos (by omega)]) (by rw [if_neg (by omega)]) (by rw [if_neg (by omega)])
              have HL1 : Hid ((rot m (m - i) (e - m) xs).length = N ∧ ∀ x ∈ rot m (m - i) (e - m) xs, InV ss x) := ⟨by rw [rot_length m _ _ _ _ (Nat.le_refl _)]; exact HNN.out, fun x hx => HX.out x (mem_rot m _ _ _ xs (Nat.le_refl _) (by omega) (by rw [HNN.out]; omega) x hx)⟩
              have hcall0 := rotateV ss HOK.out g E HC.out.keeps t rest (.func (.func fn) #[] cap) xs c i m e wr HS0.out.2.2 HX.out HS0.out.2.1 (by omega) (by omega) (by rw [HNN.out]; omega) (by rw [HNN.out]; exact hn)
              rw [HNN.out] at hcall0
              have HCALL0 := Lib.hid hcall0
              clear hcall0
              go_wp2_with fail
              all_goals refine (HCALL0.out).mono ?_
              all_goals rintro _ w1 ⟨rfl, hs1⟩
              all_goals have HS1 := Lib.hid (HS0.out.trans hs1)
              all_goals clear hs1 HS0
              all_goals clear HCALL0
              all_goals have HL2 := HL1
              all_goals have HFIN : Hid (SortsV ss g t rest E w w1 (symm cf (f + 1) a m b xs)) := by rw [HF.out]; exact HS1.out
              all_goals clear HS1
              all_goals go_wp2_with fail
              all_goals go_end0
              all_goals exact ⟨rfl, HFIN.out⟩
        · have hC : a < i := by omega
          have hG : e < b := by omega
          have HS0 := HS
          clear HS
          have HF : Hid (symm cf (f + 1) a m b xs = symm cf f M e b (xs)) := symm_gen cf f a m b xs ha hm M i e (xs) (xs) (symm cf f M e b (xs)) HM.out HBe.out HEE.out (by rw [if_neg (by omega)]) (by rw [if_neg (by omega)]) (by rw [if_pos (by omega)])
          have HL1 : Hid (xs.length = N ∧ ∀ x ∈ xs, InV ss x) := ⟨HNN.out, HX.out⟩
          have HL2 := HL1
          have HCALL2 := Lib.hid (HIH.out (xs) M e b wr HS0.out.2.2 HL2.out.2 HS0.out.2.1 HL2.out.1 (by omega) (by omega) (by omega) (by omega))
          go_wp2_with fail
          all_goals refine (HCALL2.out).mono ?_
          all_goals rintro _ w1 ⟨rfl, hs1⟩
          all_goals have HS1 := Lib.hid (HS0.out.trans hs1)
          all_goals clear hs1 HS0
          all_goals clear HCALL2
          all_goals have HFIN : Hid (SortsV ss g t rest E w w1 (symm cf (f + 1) a m b xs)) := by rw [HF.out]; exact HS1.out
          all_goals clear HS1
          all_goals go_wp2_with fail
          all_goals go_end0
          all_goals exact ⟨rfl, HFIN.out⟩
      · have hC : a < i := by omega
        by_cases hD : i < M
        ·
          have HS0 := HS
          clear HS
          have HF : Hid (symm cf (f + 1) a m b xs = symm cf f a i M (xs)) := symm_gen cf f a m b xs ha hm M i e (xs) (symm cf f a i M (xs)) (symm cf f a i M (xs)) HM.out HBe.out HEE.out (by rw [if_neg (by omega)]) (by rw [if_pos (by omega)]) (by rw [if_neg (by omega)])
          have HL1 : Hid (xs.length = N ∧ ∀ x ∈ xs, InV ss x) := ⟨HNN.out, HX.out⟩
          have HCALL1 := Lib.hid (HIH.out (xs) a i M wr HS0.out.2.2 HL1.out.2 HS0.out.2.1 HL1.out.1 (by omega) (by omega) (by omega) (by omega))
          have HL2 : Hid ((symm cf f a i M (xs)).length = N ∧ ∀ x ∈ symm cf f a i M (xs), InV ss x) := ⟨by rw [symm_length]; exact HL1.out.1, fun x hx => HL1.out.2 x (mem_symm cf f a i M _ (by omega) (by omega) (by rw [HL1.out.1]; omega) x hx)⟩
          go_wp2_with fail
          all_goals refine (HCALL1.out).mono ?_
          all_goals rintro _ w1 ⟨rfl, hs1⟩
          all_goals have HS1 := Lib.hid (HS0.out.trans hs1)
          all_goals clear hs1 HS0
          all_goals clear HCALL1
          all_goals have HFIN : Hid (SortsV ss g t rest E w w1 (symm cf (f + 1) a m b xs)) := by rw [HF.out]; exact HS1.out
          all_goals clear HS1
          all_goals go_wp2_with fail
          all_goals go_end0
          all_goals exact ⟨rfl, HFIN.out⟩
        ·
          have HS0 := HS
          clear HS
          have HF : Hid (symm cf (f + 1) a m b xs = xs) := symm_gen cf f a m b xs ha hm M i e (xs) (xs) (xs) HM.out HBe.out HEE.out (by rw [if_neg (by omega)]) (by rw [if_neg (by omega)]) (by rw [if_neg (by omega)])
          have HL1 : Hid (xs.length = N ∧ ∀ x ∈ xs, InV ss x) := ⟨HNN.out, HX.out⟩
          have HL2 := HL1
          have HFIN : Hid (SortsV ss g t rest E w wr (symm cf (f + 1) a m b xs)) := by rw [HF.out]; exact HS0.out
          clear HS0
          go_wp2_with fail
          all_goals go_end0
          all_goals exact ⟨rfl, HFIN.out⟩

theorem symm_doesV (fn : FuncId) (cap : Array Value) (cf : Int → Int → Int) (ss : List Sn) (hok : ∀ s ∈ ss, s.ok) (g : Nat) (E : World → Prop) (hcmp : CmpOkV fn cap cf ss g E) (t : TypeId) (rest : List Value) (N c : Nat) (hn : N ≤ 1073741824) : ∀ f, SymmDoesV fn cap cf ss g E t rest N c f
  | 0 => fun xs a m b w _ _ _ _ h1 h2 _ hf => absurd hf (by omega)
  | f + 1 => fun xs a m b w hE hD hd hN h1 h2 hb hf => by
    by_cases ha : m = a + 1
    · have := symm_oneV fn cap cf ss hok g E hcmp t rest xs c a m b f w hE hD hd ha h2 (by omega) (by omega)
      rw [hN] at this
      exact this
    · by_cases hm : b = m + 1
      · have := symm_lastV fn cap cf ss hok g E hcmp t rest xs c a m b f w hE hD hd (by omega) hm (by omega) (by omega)
        rw [hN] at this
        exact this
      · by_cases hmid : (a + b) / 2 < m
        · exact symm_lowV fn cap cf ss hok g E hcmp t rest N c f hn (symm_doesV fn cap cf ss hok g E hcmp t rest N c hn f) xs a m b _ w hE hD hd hN (by omega) (by omega) hb hf rfl hmid
        · exact symm_highV fn cap cf ss hok g E hcmp t rest N c f hn (symm_doesV fn cap cf ss hok g E hcmp t rest N c hn f) xs a m b _ w hE hD hd hN (by omega) (by omega) hb hf rfl hmid

end Go.Proofs.Ytfpcgancmgeagaa
