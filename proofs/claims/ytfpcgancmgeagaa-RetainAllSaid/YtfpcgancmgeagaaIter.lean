/- Contract of the library's Backward iterator over whole numbers: for every loop body that keeps the iterator's box and the row. -/
import Derived.Test.YtfpcgancmgeagaaOrder
import Derived.RangeFuncNested
import Derived.RangeFuncBound
import Derived.RangeFuncBox
import Derived.RangeFuncCalls
import Derived.RangeFuncLeaves
import Derived.RangeFuncFrom
import Derived.Shelf.Abstract
import Derived.Shelf.RegionOpen
import Derived.OwnWalkIn
import Derived.TacticsInMore
import Derived.LoopNIn
import Derived.LoopIn
namespace Go.Proofs.Ytfpcgancmgeagaa
open Go.RowKit Go.Shelf
attribute [local go_sem] Oper.semAt_some

/-- The pairs that Backward hands out: from the last place down. -/
def backs (ys : List Int) : Nat → List (Nat × Int)
  | 0 => []
  | k + 1 => (k, ys.getD k 0) :: backs ys k
theorem backs_length (ys : List Int) : ∀ k, (backs ys k).length = k
  | 0 => rfl
  | k + 1 => by simp [backs, backs_length ys k]
/-- What has come when the places from k on are over. -/
def backTo (ys : List Int) (n k : Nat) : List (Nat × Int) := (backs ys n).take (n - k)
theorem backs_drop (ys : List Int) : ∀ (n k : Nat), k ≤ n → (backs ys n).drop (n - k) = backs ys k := by
  intro n
  induction n with
  | zero => intro k hk; obtain rfl : k = 0 := by omega
            rfl
  | succ n ih =>
    intro k hk
    by_cases h : k = n + 1
    · subst h; simp
    · rw [show n + 1 - k = (n - k) + 1 from by omega, backs, List.drop_succ_cons, ih k (by omega)]
theorem backTo_step (ys : List Int) (n k : Nat) (hk : k + 1 ≤ n) : backTo ys n k = backTo ys n (k + 1) ++ [(k, ys.getD k 0)] := by
  unfold backTo
  have h := backs_drop ys n (k + 1) hk
  rw [show n - k = (n - (k + 1)) + 1 from by omega, List.take_add_one]
  congr 1
  have : (backs ys n)[n - (k + 1)]? = some (k, ys.getD k 0) := by
    have h2 : ((backs ys n).drop (n - (k + 1)))[0]? = some (k, ys.getD k 0) := by rw [h]; simp [backs]
    simpa using h2
  rw [this]; rfl

/-- The iterator's two blocks lie as they lay. -/
def KeepTwo (B g : Nat) (W W' : World) : Prop := W'.heap[B]? = W.heap[B]? ∧ W'.heap[g]? = W.heap[g]?

/-- All has come, or a part, a round having said 'no more'. -/
def BackPost (ys : List Int) (n : Nat) (J Jx : List (Nat × Int) → World → Prop) (e : Ending) (W' : World) : Prop :=
  (∃ v, e = .returned v) ∧ ((∃ zs, zs = backs ys n ∧ J zs W') ∨ (∃ pre, pre <+: backs ys n ∧ Jx pre W'))

set_option maxRecDepth 100000 in
set_option maxHeartbeats 2000000 in
theorem backward1 (l B : Nat) (A : Option Addr) (g n cap : Nat) (ys : List Int) (hn : n ≤ 1073741824) (J Jx : List (Nat × Int) → World → Prop)
    (hY : ∀ pre x W, J pre W → pre.length < n → x.1 < n ∧ x.2 = ys.getD x.1 0 → YieldAt Fence.wide (100 - 1) Try.prog l #[.int .i64 (x.1 : Int), .int .i64 x.2] W fun e W' =>
      (e = .returned (.bool true) ∧ J (pre ++ [x]) W' ∧ KeepTwo B g W W') ∨ (e = .returned (.bool false) ∧ Jx (pre ++ [x]) W'))
    (W : World) (hB : ∀ W', KeepTwo B g W W' → W'.cell? ⟨B, 0, none⟩ = some (.slice A n cap)) (hA : 0 < n → A = some ⟨g, 0, none⟩) (hc : ∀ W', KeepTwo B g W W' → ∀ j, j < n → W'.cell? ⟨g, j, none⟩ = some (.int .i64 (ys.getD j 0))) (h0 : J [] W) :
    CallsIn Fence.wide 100 Try.prog 71 #[.func (.yield l) #[] #[], .pointer (some ⟨B, 0, none⟩)] W (BackPost ys n J Jx) := by
  have HB := Lib.hid hB
  have HC := Lib.hid hc
  have HA := Lib.hid hA
  have hb0 := hB W ⟨rfl, rfl⟩
  clear hB hc hA
  refine callsIn_of_wp Try.func71 rfl trivial ?_ rfl
  simp only [Try.ntmps71, List.size_toArray, List.length_cons, List.length_nil, Nat.reduceAdd, Nat.reduceSub, Array.replicate_succ, Array.replicate_zero, List.push_toArray, List.append_toArray, List.nil_append, List.cons_append]
  gi_wp2
  clear hb0
  gi_loopw [3] (fun i wr => ∃ k : Nat, k ≤ n ∧ i = .int .i64 ((k : Int) - 1) ∧ Hid (J (backTo ys n k) wr ∧ KeepTwo B g W wr))
    (fun i _ => (intOf i + 1).toNat)
  case atStart => exact ⟨n, Nat.le_refl _, by go_num, ⟨by unfold backTo; simpa using h0, rfl, rfl⟩⟩
  case round =>
    obtain ⟨k, hk, rfl, HJ⟩ := hrel
    clear h0
    cases k with
    | zero =>
      have hneg : ¬ (0 : Int) ≤ ((0 : Nat) : Int) - 1 := by omega
      have HF : Hid (J (backs ys n) wr) := by have := HJ.out.1; unfold backTo at this; rw [Nat.sub_zero, List.take_of_length_le (by rw [backs_length]; exact Nat.le_refl _)] at this; exact this
      gi_wp2
      go_end0
      exact ⟨⟨_, rfl⟩, .inl ⟨_, rfl, HF.out⟩⟩
    | succ k =>
      have hneg : (0 : Int) ≤ (k : Int) := by omega
      have hkn : (k : Int) < (n : Int) := by omega
      obtain rfl := HA.out (by omega)
      have c1 := HB.out wr HJ.out.2
      have c2 := HC.out wr HJ.out.2 k (by omega)
      obtain ⟨fn, tmps, assign, body, hy, hR⟩ := hY _ (k, ys.getD k 0) wr HJ.out.1 (by unfold backTo; rw [List.length_take, backs_length]; omega) ⟨hk, rfl⟩
      dsimp only at hy
      have HR := Lib.hid hR
      clear hR
      generalize hyk : ys.getD k 0 = y at *
      have HYK := Lib.hid hyk
      clear hyk
      rw [show (((k + 1 : Nat) : Int) - 1) = (k : Int) from by omega]
      have q1 : IntKind.i64.wrap ((k : Int) - 1) = (k : Int) - 1 := by rw [IntKind.wrap_i64]; omega
      gi_wp2
      refine HR.out.mono ?_
      rintro e W3 (⟨rfl, hJ3, hk3⟩ | ⟨rfl, hJx3⟩)
      · have HN : Hid (J (backTo ys n k) W3 ∧ KeepTwo B g W W3) := ⟨by rw [backTo_step ys n k (by omega), HYK.out]; exact hJ3, hk3.1.trans HJ.out.2.1, hk3.2.trans HJ.out.2.2⟩
        clear hJ3 hk3 HR hy HJ c1 c2
        gi_wp2
        go_roundw
        case rel => exact ⟨k, by omega, by go_num, HN⟩
        case measure => simp [intOf]
      · have HN : Hid (∃ pre, pre <+: backs ys n ∧ Jx pre W3) := ⟨_, by rw [← HYK.out, ← backTo_step ys n k (by omega)]; exact List.take_prefix _ _, hJx3⟩
        clear hJx3 HR hy HJ c1 c2
        gi_wp2
        refine bodyPost_ret (results_none rfl _ _ _) rfl ?_
        exact ⟨⟨_, rfl⟩, .inr HN.out⟩

theorem backs_mem {ys : List Int} {x : Nat × Int} : ∀ {n : Nat}, x ∈ backs ys n → x.1 < n ∧ x.2 = ys.getD x.1 0
  | 0, h => by cases h
  | n + 1, h => by
    rcases List.mem_cons.1 h with rfl | h
    · exact ⟨Nat.lt_succ_self _, rfl⟩
    · have := backs_mem h; exact ⟨by omega, this.2⟩

/-- A place of the row and what stands there. -/
abbrev At (ys : List Int) (n : Nat) := { x : Nat × Int // x.1 < n ∧ x.2 = ys.getD x.1 0 }

/-- **Backward's function value as a range over a function takes it.** -/
theorem backward_stops (B : Nat) (A : Option Addr) (g n cap : Nat) (ys : List Int) (hn : n ≤ 1073741824) (w : World) (hBw : B < w.heap.size) (hgw : 0 < n → g < w.heap.size)
    (hB : w.cell? ⟨B, 0, none⟩ = some (.slice A n cap)) (hA : 0 < n → A = some ⟨g, 0, none⟩) (hc : ∀ j, j < n → w.cell? ⟨g, j, none⟩ = some (.int .i64 (ys.getD j 0))) :
    SeqStopsK Fence.wide 100 Try.prog 71 #[.pointer (some ⟨B, 0, none⟩)] (fun x : At ys n => #[Value.int .i64 (x.1.1 : Int), .int .i64 x.1.2]) (KeepTwo B g) (fun zs => zs.map Subtype.val = backs ys n) (fun pre => pre.map Subtype.val <+: backs ys n) n w := fun l J Jx W hW _ _ hY h0 => by
  refine (backward1 l B A g n cap ys hn (fun pre W => ∃ q : List (At ys n), q.map Subtype.val = pre ∧ J q W) (fun pre W => ∃ q : List (At ys n), q.map Subtype.val = pre ∧ Jx q W) (fun pre x W hJ hlen hx => ?_) W (fun W' hk => ?_) hA (fun W' hk j hj => ?_) ⟨[], rfl, h0⟩).mono ?_
  · obtain ⟨q, rfl, hq⟩ := hJ
    refine (hY q ⟨x, hx⟩ W hq (by simpa using hlen)).mono ?_
    rintro e W' (⟨h1, h2, h3⟩ | ⟨h1, h2⟩)
    · exact .inl ⟨h1, ⟨_, by simp, h2⟩, h3⟩
    · exact .inr ⟨h1, ⟨_, by simp, h2⟩⟩
  · rw [World.cell?_of_block (w := W) hk.1, hW.cell hBw]; exact hB
  · rw [World.cell?_of_block (w := W) hk.2, hW.cell (p := ⟨g, j, none⟩) (hgw (by omega))]; exact hc j hj
  · rintro e W' ⟨hv, ⟨zs, hz, q, hq, hJ⟩ | ⟨pre, hp, q, hq, hJ⟩⟩
    · exact ⟨hv, .inl ⟨q, hq.trans hz, hJ⟩⟩
    · exact ⟨hv, .inr ⟨q, by subst hq; exact hp, hJ⟩⟩

/-- Backward itself: the slice is boxed; the function value captures the box. -/
theorem backward_val (A : Option Addr) (n c : Nat) (w : World) : Calls Try.prog 33 #[.slice A n c] w fun e w' => e = .returned (.func (.func 71) #[] #[.pointer (some ⟨w.heap.size, 0, none⟩)]) ∧ w' = w.alloc (.cells #[.slice A n c] 32) := by
  go_enter Try.func33, Try.ntmps33
  go_wp2
  go_ret
  exact ⟨rfl, rfl⟩

end Go.Proofs.Ytfpcgancmgeagaa
