/- The arguments of the laws opened: a slice of snapshots, a policy by value. -/
import Derived.Test.YtfpcgancmgeagaaAlive
import Derived.Deep.Slices
import Derived.OpenShut
import Derived.ProofKit
namespace Go.Proofs.Ytfpcgancmgeagaa
open Go.RowKit

variable {H : Type} {enc : TypeId × Value → H} {w : World} {base : Nat} {spare : Nat → Bool} {held : Bool}

theorem A_cells_u8 : Try.prog.cellsOf 5 = 1 := by kernel_rfl
theorem A_cells_i64 : Try.prog.cellsOf 2 = 1 := by kernel_rfl
theorem A_cells_int : Try.prog.cellsOf 3 = 1 := by kernel_rfl
theorem A_cells_str : Try.prog.cellsOf 9 = 1 := by kernel_rfl
theorem A_cells_root : Try.prog.cellsOf 40 = 32 := by kernel_rfl
theorem A_cells_snap : Try.prog.cellsOf 42 = 37 := by kernel_rfl

theorem in64_wf {x : Int} (h : (Lit.int .i64 x).wf = true) : In64 x := by
  simp [Lit.wf, IntKind.min, IntKind.max, IntKind.signed, IntKind.bits] at h
  exact ⟨by omega, by omega⟩

theorem slice1 {cs : List Value} {i n : Nat} {v : Value} (h : (cs.drop i).take n = [v]) (hn : n = 1) : cs[i]? = some v := by
  subst hn
  have : ((cs.drop i).take 1)[0]? = some v := by rw [h]; rfl
  simpa using this

theorem open_root {fuel : Nat} {cs : List Value} {x : DataW H × List MemPlace} (h : DataW.trod enc Try.prog w base spare held fuel 40 cs = some x) :
    ∃ r : List UInt8, r.length = 32 ∧ cs = u8s r := by
  obtain ⟨xs, m, rfl, _, hlen, hl, hx⟩ := DataW.trod_array Try.underlying40 h
  rw [A_cells_root] at hlen
  rw [A_cells_u8] at hx
  have each : ∀ i, i < 32 → ∃ b : UInt8, cs[i]? = some (.int .u8 (b.toNat : Int)) := by
    intro i hi
    have h1 := hx i hi
    rw [List.getElem?_eq_getElem (by omega)] at h1
    obtain ⟨n, hc, _, hw⟩ := DataW.trod_int Try.underlying5 h1
    have h2 := slice1 hc rfl
    rw [Nat.mul_one] at h2
    simp [Lit.wf, IntKind.min, IntKind.max, IntKind.signed, IntKind.bits] at hw
    refine ⟨UInt8.ofNat n.toNat, ?_⟩
    have e : ((UInt8.ofNat n.toNat).toNat : Int) = n := by rw [UInt8.toNat_ofNat']; omega
    rw [h2, e]
  have choose : ∀ k, k ≤ 32 → ∃ r : List UInt8, r.length = k ∧ cs.take k = u8s r := by
    intro k
    induction k with
    | zero => intro _; exact ⟨[], rfl, rfl⟩
    | succ k ih =>
      intro hk
      obtain ⟨r, h1, h2⟩ := ih (by omega)
      obtain ⟨b, hb⟩ := each k (by omega)
      refine ⟨r ++ [b], by simp [h1], ?_⟩
      rw [List.take_add_one, h2, hb]
      simp [u8s]
  obtain ⟨r, h1, h2⟩ := choose 32 (Nat.le_refl _)
  rw [List.take_of_length_le (by omega)] at h2
  exact ⟨r, h1, h2⟩

theorem open_sn {fuel : Nat} {cs : List Value} {x : DataW H × List MemPlace} (h : DataW.trod enc Try.prog w base spare held fuel 42 cs = some x) :
    ∃ s : Sn, s.ok ∧ cs = s.cells := by
  obtain ⟨xs, n, rfl, _, hlen, hl, hx⟩ := DataW.trod_struct Try.underlying42 h
  rw [A_cells_snap] at hlen
  have hl' : xs.length = 6 := hl
  have f0 := hx 0 _ rfl
  have f1 := hx 1 _ rfl
  have f2 := hx 2 _ rfl
  have f3 := hx 3 _ rfl
  have f4 := hx 4 _ rfl
  have f5 := hx 5 _ rfl
  rw [List.getElem?_eq_getElem (by omega)] at f0 f1 f2 f3 f4 f5
  obtain ⟨a0, e0, _, w0⟩ := DataW.trod_int Try.underlying2 f0
  obtain ⟨a1, e1, _, _⟩ := DataW.trod_string Try.underlying9 f1
  obtain ⟨a2, e2, _, _⟩ := DataW.trod_string Try.underlying9 f2
  obtain ⟨r, hr, e3⟩ := open_root f3
  obtain ⟨a4, e4, _, w4⟩ := DataW.trod_int Try.underlying3 f4
  obtain ⟨a5, e5, _, w5⟩ := DataW.trod_int Try.underlying2 f5
  refine ⟨⟨a0, a1, a2, r, a4, a5⟩, ⟨hr, in64_wf w0, in64_wf w4, in64_wf w5⟩, ?_⟩
  have g0 : cs[0]? = some (.int .i64 a0) := slice1 e0 A_cells_i64
  have g1 : cs[1]? = some (.string a1) := slice1 e1 A_cells_str
  have g2 : cs[2]? = some (.string a2) := slice1 e2 A_cells_str
  have g4 : cs[35]? = some (.int .i64 a4) := slice1 e4 A_cells_int
  have g5 : cs[36]? = some (.int .i64 a5) := slice1 e5 A_cells_i64
  have c : cs = cs.take 3 ++ ((cs.drop 3).take 32 ++ cs.drop 35) := by
    rw [show cs.drop 35 = (cs.drop 3).drop 32 from by rw [List.drop_drop], List.take_append_drop, List.take_append_drop]
  have c3 : cs.take 3 = [.int .i64 a0, .string a1, .string a2] := by
    rw [show (3 : Nat) = 0 + 1 + 1 + 1 from rfl, List.take_add_one, List.take_add_one, List.take_add_one, List.take_zero, g0, g1, g2]
    rfl
  have c35 : cs.drop 35 = [.int .i64 a4, .int .i64 a5] := by
    have h2 : (cs.drop 35).length = 2 := by simp; omega
    apply List.ext_getElem?
    intro i
    rw [List.getElem?_drop]
    match i with
    | 0 => exact g4
    | 1 => exact g5
    | i + 2 => rw [List.getElem?_eq_none (by omega), List.getElem?_eq_none (by simp)]
  have e3' : (cs.drop 3).take 32 = u8s r := by rw [← A_cells_root]; exact e3
  rw [c, c3, e3', c35]
  rfl

/-- **A slice of snapshots.** -/
theorem open_sns {fuel : Nat} {cs : List Value} {x : DataW H × List MemPlace} (h : DataW.trod enc Try.prog w base spare held fuel 22 cs = some x) :
    ∃ A c, ∃ xs : List Sn, cs = [.slice A xs.length c] ∧ SnsAt w A xs := by
  rcases Go.Deep.open_slice Try.underlying22 h with ⟨rfl, _⟩ | ⟨a, len, cap, m, n, D, Pl, rfl, hb, hl, hm, hmm, _, hx⟩
  · exact ⟨none, 0, [], rfl, fun i hi => by simp at hi⟩
  · rw [A_cells_snap] at hx
    have hlm : len ≤ m := by rw [hmm]; split <;> omega
    have each : ∀ i, i < len → ∃ s : Sn, s.ok ∧ w.cells? base (a.add (i * 37)) 37 = some s.cells := by
      intro i hi
      obtain ⟨cs', h1, h2⟩ := hx i (by omega)
      obtain ⟨s, ok, rfl⟩ := open_sn h2
      exact ⟨s, ok, h1⟩
    have choose : ∀ k, k ≤ len → ∃ xs : List Sn, xs.length = k ∧ ∀ i, i < k → (xs.getD i default).ok ∧ w.cells? base (a.add (i * 37)) 37 = some (xs.getD i default).cells := by
      intro k
      induction k with
      | zero => intro _; exact ⟨[], rfl, fun i hi => by omega⟩
      | succ k ih =>
        intro hk
        obtain ⟨xs, h1, h2⟩ := ih (by omega)
        obtain ⟨s, ok, hs⟩ := each k (by omega)
        refine ⟨xs ++ [s], by simp [h1], fun i hi => ?_⟩
        by_cases e : i = k
        · subst e
          rw [List.getD_eq_getElem?_getD, List.getElem?_append_right (by omega), h1, Nat.sub_self]
          exact ⟨ok, hs⟩
        · rw [List.getD_eq_getElem?_getD, List.getElem?_append_left (by omega), ← List.getD_eq_getElem?_getD]
          exact h2 i (by omega)
    obtain ⟨xs, h1, h2⟩ := choose len (Nat.le_refl _)
    refine ⟨some a, cap, xs, by rw [h1], fun i hi => ?_⟩
    obtain ⟨ok, hc⟩ := h2 i (by omega)
    obtain ⟨_, hcl, hcc⟩ := World.cells?_some hc
    obtain ⟨ok0, hc0⟩ := h2 0 (by omega)
    obtain ⟨_, hcl0, hcc0⟩ := World.cells?_some hc0
    obtain ⟨b, o, sp⟩ := a
    have hsome : ∃ v, w.cell? ⟨b, o, sp⟩ = some v := by
      have h00 := hcc0 0 (by omega)
      rw [Nat.zero_mul] at h00
      exact ⟨_, h00.trans (List.getElem?_eq_getElem (by omega))⟩
    obtain ⟨v, hv⟩ := hsome
    have hsp : sp = none := by
      unfold World.cell? at hv
      split at hv
      · split at hv
        · cases hv
        · rename_i h; simpa using h
      · cases hv
    subst hsp
    refine ⟨b, o, rfl, World.block_lt_of_cell? w _ hv, fun j v hj => ?_, ok⟩
    have := hcc j (by have := (List.getElem?_eq_some_iff.1 hj).1; omega)
    rw [hj, Addr.add_mid, Addr.add_mid] at this
    exact this

end Go.Proofs.Ytfpcgancmgeagaa
