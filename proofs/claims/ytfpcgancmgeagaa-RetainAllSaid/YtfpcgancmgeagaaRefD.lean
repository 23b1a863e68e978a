/- Contracts of the document's behind, After and latest. -/
import Derived.Test.YtfpcgancmgeagaaRefC
namespace Go.Proofs.Ytfpcgancmgeagaa
open Go.RowKit

/-- A load of a row of cells in a region that draws its order. -/
theorem wpQuiet_load_mid {P : Program} {ops : Array Oper} {C : World → Prop} {Q : Act → Prop} {a : Act} {o : Oper} {rest : List Oper} (hw : Region.wanted o (yielded ops a.tmps) = true) (ty : TypeId) (x : Operand) (ho : o.op = .load ty x)
    (b off : Nat) (hx : a.eval x = .pointer (some ⟨b, off, none⟩)) (cs : List Value) (d : TypeDesc) (hc : ∀ w, C w → w.rangeAt b off cs)
    (hu : P.underlying ty = some d) (hd : d.isRow = true) (hi : (P.info? ty).map (·.size) = some cs.length)
    (h : wpQuiet P ops C Q rest (a.put o.dst (.agg cs.toArray))) : wpQuiet P ops C Q (o :: rest) a := by
  refine BigFrame.wpQuiet_want hw fun K hK => ⟨_, fun w hC => ?_, hK _ h⟩
  unfold Oper.quietAt execOp
  simp only [ho, hx, Instr.loadAt, Instr.sureAddr, Sem.run_bind, Sem.run_pure, Result.andThen_ok, run_loadVar_mid w b off ty cs d (hc w hC) hu hd hi]
  exact ⟨rfl, rfl⟩

theorem rsnap_cells (a : Sn) (h : a.ok) : (Try.prog.info? 85).map (·.size) = some a.cells.length := by
  rw [a.len h]; kernel_rfl
theorem ahead_less {xs : List Sn} {i k : Nat} (h : decide (snapCmp (xs.getD k default) (xs.getD i default) < 0) = true) : decide (ahead xs k i) = true := by
  refine decide_eq_true (.inl ?_)
  unfold snAt
  rw [Int.toNat_natCast, Int.toNat_natCast]
  exact of_decide_eq_true h
theorem ahead_more {xs : List Sn} {i k : Nat} (h : decide (snapCmp (xs.getD k default) (xs.getD i default) < 0) = false) : decide (ahead xs k i) = (decide (k < i) && !decide (snapCmp (xs.getD i default) (xs.getD k default) < 0)) := by
  have h' := of_decide_eq_false h
  have ha := snap_3.anti (xs.getD k default) (xs.getD i default)
  rw [Bool.eq_iff_iff]
  simp only [Bool.and_eq_true, decide_eq_true_eq, Bool.not_eq_true', decide_eq_false_iff_not]
  unfold ahead snAt
  rw [Int.toNat_natCast, Int.toNat_natCast]
  constructor
  · rintro (h | ⟨h1, h2⟩)
    · exact absurd h h'
    · exact ⟨by omega, by omega⟩
  · rintro ⟨h1, h2⟩
    exact .inr ⟨by omega, by omega⟩

set_option maxHeartbeats 1000000 in
set_option maxRecDepth 100000 in
theorem behind_any (xs : List Sn) (A : Option Addr) (c i k : Nat) (w : World) (hlen : xs.length ≤ 1073741824) (h : SnsAt w A xs) (hi : i < xs.length) (hk : k < xs.length) :
    Calls Try.prog 72 #[.slice A xs.length c, .int .i64 i, .int .i64 k] w fun e w' => e = .returned (.bool (decide (ahead xs k i))) ∧ Below w.heap.size w w' := by
  obtain ⟨b, o, rfl, hlt, hri, oki⟩ := h i hi
  obtain ⟨b', o', e, _, hrk, okk⟩ := h k hk
  obtain ⟨rfl, rfl⟩ : b = b' ∧ o = o' := by simpa using e
  clear e h
  have HL : Hid (∀ d1 d2, decide (snapCmp (xs.getD k default) (xs.getD i default) < 0) = d1 → decide (snapCmp (xs.getD i default) (xs.getD k default) < 0) = d2 → decide (ahead xs k i) = (d1 || (decide (k < i) && !d2))) := fun d1 d2 e1 e2 => by
    subst e2
    cases d1
    · rw [ahead_more e1]; rfl
    · rw [ahead_less e1]; rfl
  obtain ⟨d1, hd1⟩ : ∃ d1, decide (snapCmp (xs.getD k default) (xs.getD i default) < 0) = d1 := ⟨_, rfl⟩
  obtain ⟨d2, hd2⟩ : ∃ d2, decide (snapCmp (xs.getD i default) (xs.getD k default) < 0) = d2 := ⟨_, rfl⟩
  have HA := Lib.hid (HL.out d1 d2 hd1 hd2)
  clear HL
  generalize xs.getD i default = x at *
  generalize xs.getD k default = y at *
  have HI : Hid (∀ W, (∃ p : In (fun W' => Below w.heap.size w W'), W = p.world) → W.rangeAt b (o + i * 37) x.cells) := by rintro _ ⟨p, rfl⟩; exact rangeAt_below hri p.ok hlt
  have HK : Hid (∀ W, (∃ p : In (fun W' => Below w.heap.size w W'), W = p.world) → W.rangeAt b (o + k * 37) y.cells) := by rintro _ ⟨p, rfl⟩; exact rangeAt_below hrk p.ok hlt
  have HC1 : Hid (∀ q : In (fun W' => Below w.heap.size w W'), Calls Try.prog 100 #[.agg y.arr, .agg x.arr] q.world fun e w'' => e = .returned (.bool d1) ∧ ∃ q' : In (fun W' => Below w.heap.size w W'), w'' = q'.world) := fun q =>
    Calls.into (less_ref y x okk oki q.world) fun e w' h => ⟨by rw [← hd1]; exact h.1, q.ok.trans (h.2.mono q.ok.size)⟩
  have HC2 : Hid (∀ q : In (fun W' => Below w.heap.size w W'), Calls Try.prog 100 #[.agg x.arr, .agg y.arr] q.world fun e w'' => e = .returned (.bool d2) ∧ ∃ q' : In (fun W' => Below w.heap.size w W'), w'' = q'.world) := fun q =>
    Calls.into (less_ref x y oki okk q.world) fun e w' h => ⟨by rw [← hd2]; exact h.1, q.ok.trans (h.2.mono q.ok.size)⟩
  have HF : Hid (Below w.heap.size w w.drew) := (Below.refl _ _).drew
  have hiz : (i : Int) < (xs.length : Int) := by omega
  have hkz : (k : Int) < (xs.length : Int) := by omega
  clear hri hrk hd1 hd2
  go_enter Try.func72, Try.ntmps72
  go_wp2_with fail
  refine wp_region_in (fun W' => Below w.heap.size w W') HF.out (by kernel_rfl) (by kernel_rfl) ?_
  iterate 3 (go_big_quiet_step (fail))
  refine wpQuiet_load_mid rfl 85 (.tmp 9) rfl b (o + k * 37) rfl y.cells _ HK.out Try.underlying85 rfl (rsnap_cells y okk) ?_
  simp only [Act.put, List.setIfInBounds_toArray, List.set_cons_zero, List.set_cons_succ]
  iterate 3 (go_big_quiet_step (fail))
  refine wpQuiet_load_mid rfl 85 (.tmp 13) rfl b (o + i * 37) rfl x.cells _ HI.out Try.underlying85 rfl (rsnap_cells x oki) ?_
  simp only [Act.put, List.setIfInBounds_toArray, List.set_cons_zero, List.set_cons_succ]
  go_big_quiet_step (exact HC1.out _)
  refine wpQuiet_nil ?_
  rintro _ ⟨⟨w2, hw2⟩, rfl⟩
  have HB2 := Lib.hid hw2
  clear hw2 HC1
  cases d1
  · have HI2 : Hid (∀ W, (∃ p : In (fun W' => Below w.heap.size w W'), W = p.world) → W.rangeAt b (o + i * 37) x.cells) := HI
    by_cases hd : k < i
    · have hd1 : decide (k < i) = true := decide_eq_true hd
      go_wp2_with fail
      refine wp_region_in (fun W' => Below w.heap.size w W') HB2.out.drew (by kernel_rfl) (by kernel_rfl) ?_
      iterate 7 (go_big_quiet_step (fail))
      refine wpQuiet_load_mid rfl 85 (.tmp 22) rfl b (o + i * 37) rfl x.cells _ HI.out Try.underlying85 rfl (rsnap_cells x oki) ?_
      simp only [Act.put, List.setIfInBounds_toArray, List.set_cons_zero, List.set_cons_succ]
      iterate 3 (go_big_quiet_step (fail))
      refine wpQuiet_load_mid rfl 85 (.tmp 26) rfl b (o + k * 37) rfl y.cells _ HK.out Try.underlying85 rfl (rsnap_cells y okk) ?_
      simp only [Act.put, List.setIfInBounds_toArray, List.set_cons_zero, List.set_cons_succ]
      go_big_quiet_step (exact HC2.out _)
      repeat (go_big_quiet_step (fail))
      refine wpQuiet_nil ?_
      rintro _ ⟨⟨w3, hw3⟩, rfl⟩
      clear HI HK HC2
      have HB3 := Lib.hid hw3
      clear hw3
      go_wp2
      go_ret
      exact ⟨by rw [HA.out, hd1]; rfl, HB3.out⟩
    · have hd1 : decide (k < i) = false := decide_eq_false hd
      go_wp2_with fail
      refine wp_region_in (fun W' => Below w.heap.size w W') HB2.out.drew (by kernel_rfl) (by kernel_rfl) ?_
      repeat (go_big_quiet_step (fail))
      refine wpQuiet_nil ?_
      rintro _ ⟨⟨w3, hw3⟩, rfl⟩
      clear HI HK HC2
      have HB3 := Lib.hid hw3
      clear hw3
      go_wp2
      go_ret
      exact ⟨by rw [HA.out, hd1]; rfl, HB3.out⟩
  · go_wp2
    go_ret
    exact ⟨by rw [HA.out]; rfl, HB2.out⟩

def cntA (xs : List Sn) (i : Int) (k : Nat) : Nat := (rng k).countP fun m => decide (ahead xs i m)
theorem cntA_succ (xs : List Sn) (i : Int) (k : Nat) : cntA xs i (k + 1) = cntA xs i k + if decide (ahead xs i k) then 1 else 0 := by
  unfold cntA
  rw [rng_succ, List.countP_append]
  simp [List.countP_cons]
theorem cntA_le (xs : List Sn) (i : Int) (k : Nat) : cntA xs i k ≤ k := Nat.le_trans List.countP_le_length (by rw [rng_length]; exact Nat.le_refl _)

set_option maxHeartbeats 1000000 in
set_option maxRecDepth 100000 in
theorem after_any (xs : List Sn) (A : Option Addr) (c i : Nat) (w : World) (hlen : xs.length ≤ 1073741824) (h : SnsAt w A xs) (hi : i < xs.length) :
    Calls Try.prog 36 #[.slice A xs.length c, .int .i64 i] w fun e w' => e = .returned (.int .i64 (behindN xs i : Nat)) ∧ Below w.heap.size w w' := by
  have HS := Lib.hid h
  clear h
  go_enter Try.func36, Try.ntmps36
  go_wp2_with fail
  go_loopw [5, 6] (fun n j wr => ∃ k : Nat, k ≤ xs.length ∧ j = .int .i64 k ∧ n = .int .i64 (cntA xs i k : Nat) ∧ Hid (Below w.heap.size w wr)) (fun _ j _ => xs.length - (intOf j).toNat)
  case atStart => exact ⟨0, Nat.zero_le _, rfl, rfl, Below.refl _ _⟩
  case round =>
    obtain ⟨k, hk, rfl, rfl, HB⟩ := hrel
    by_cases hlt : k < xs.length
    · have hltz : (k : Int) < (xs.length : Int) := by omega
      have HC := Lib.hid (cntA_succ xs i k)
      have hle := cntA_le xs i k
      generalize hn : cntA xs i k = n at *
      have HN := Lib.hid hn
      clear hn
      by_cases e : k = i
      · have HE := Lib.hid e
        have hne : ((k : Int) != (i : Int)) = false := by rw [e]; simp
        have hz : decide (ahead xs i k) = false := by rw [e]; exact decide_eq_false ahead_irrefl
        have HG : Hid (cntA xs i (k + 1) = n) := by rw [HC.out, hz]; rfl
        clear e hz HC
        go_wp2_with fail
        go_roundw
        case rel => exact ⟨k + 1, by omega, by go_num, by rw [HG.out], HB⟩
        case measure => simp [intOf]; omega
      · have hne : ((k : Int) != (i : Int)) = true := by rw [bne_iff_ne]; omega
        have HCC := Lib.hid (behind_any xs A c k i wr hlen (HS.out.below HB.out) hlt hi)
        cases hb : decide (ahead xs i k)
        · rw [hb] at HC HCC
          have HG : Hid (cntA xs i (k + 1) = n) := HC.out
          clear HC hb
          go_wp2_with fail
          refine HCC.out.mono ?_
          rintro e w2 ⟨rfl, hb2⟩
          have HB2 := Lib.hid (HB.out.trans (hb2.mono HB.out.size))
          clear hb2 HCC
          go_wp2
          go_roundw
          case rel => exact ⟨k + 1, by omega, by go_num, by rw [HG.out], HB2⟩
          case measure => simp [intOf]; omega
        · rw [hb] at HC HCC
          have HG : Hid (cntA xs i (k + 1) = n + 1) := HC.out
          clear HC hb
          go_wp2_with fail
          refine HCC.out.mono ?_
          rintro e w2 ⟨rfl, hb2⟩
          have HB2 := Lib.hid (HB.out.trans (hb2.mono HB.out.size))
          clear hb2 HCC
          go_wp2
          go_roundw
          case rel => exact ⟨k + 1, by omega, by go_num, by rw [HG.out]; go_num, HB2⟩
          case measure => simp [intOf]; omega
    · obtain rfl : k = xs.length := by omega
      have hltz : ¬ (xs.length : Int) < (xs.length : Int) := by omega
      go_wp2
      go_ret
      exact ⟨rfl, HB.out⟩

end Go.Proofs.Ytfpcgancmgeagaa
