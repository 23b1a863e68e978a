/- Contracts of the document's own small functions: Day, near, top, has, SameInts; equality of two sums of 32 bytes. -/
import Derived.Test.YtfpcgancmgeagaaTagsP
import Derived.Test.YtfpcgancmgeagaaSns
import Derived.ChangeKeysEq
namespace Go.Proofs.Ytfpcgancmgeagaa
open Go.RowKit

theorem emod_self_le (a b : Int) (h : 0 ≤ a) (hb : 0 < b) : a % b ≤ a := by
  have h1 := Int.emod_add_mul_ediv a b
  have h2 := Int.mul_nonneg (show 0 ≤ b by omega) (Int.ediv_nonneg h (show 0 ≤ b by omega))
  omega

set_option maxRecDepth 100000 in
theorem day_any (t day : Int) (ht : In64 t) (h1 : 1 ≤ day) (h2 : day ≤ 9223372036854775807) (w : World) :
    Calls Try.prog 38 #[.int .i64 t, .int .i64 day] w fun e w' => e = .returned (.int .i64 (t / day)) ∧ w = w' := by
  have hq := ediv_in64 t day ht h1
  have ht' := ht
  obtain ⟨ht1, ht2⟩ := ht
  have hmd : t.tdiv day * day = t - t.tmod day := by have := Int.tmod_add_tdiv_mul t day; rw [Int.mul_comm] at this ⊢; rw [Int.mul_comm]; rw [Int.mul_comm] at this; omega
  have hwm : wrap64 (t.tdiv day * day) = t - t.tmod day := by
    rw [hmd]
    refine IntWalk.wrap64_in _ ?_
    by_cases h0 : 0 ≤ t
    · have a := Int.tmod_nonneg day h0
      have b : t.tmod day ≤ t := by rw [Int.tmod_eq_emod_of_nonneg h0]; exact emod_self_le t day h0 (by omega)
      exact ⟨by omega, by omega⟩
    · have a : t.tmod day ≤ 0 := by have := Int.tmod_nonneg (a := -t) day (by omega); rw [Int.neg_tmod] at this; omega
      have b : t ≤ t.tmod day := by have := emod_self_le (-t) day (by omega) (by omega); rw [← Int.tmod_eq_emod_of_nonneg (by omega), Int.neg_tmod] at this; omega
      exact ⟨by omega, by omega⟩
  have HWM := Lib.hid hwm
  clear hmd hwm
  by_cases h : t.tmod day < 0
  · have htn : t < 0 := by
      refine Decidable.by_contra fun hc => ?_
      have := Int.tmod_nonneg day (show 0 ≤ t by omega); omega
    have HE := Lib.hid (ediv_of_tdiv_neg t day (by omega) h)
    have HW : Hid (wrap64 (t.tdiv day - 1) = t / day) := by
      rw [HE.out]; exact IntWalk.wrap64_in _ hq
    have hb : (wrap64 (t.tdiv day * day) != t) = true := by rw [HWM.out, bne_iff_ne]; omega
    have HB := Lib.hid hb
    have hd : decide (t < 0) = true := decide_eq_true htn
    clear hq hb h
    go_enter Try.func38, Try.ntmps38
    have hb := HB.out
    go_wp2
    go_ret
    exact ⟨by rw [← HW.out]; rfl, rfl⟩
  · have HE := Lib.hid (ediv_of_tdiv t day (by omega) h)
    by_cases htn : t < 0
    · have hz : t.tmod day = 0 := by
        have a : t.tmod day ≤ 0 := by have := Int.tmod_nonneg (a := -t) day (by omega); rw [Int.neg_tmod] at this; omega
        omega
      have hb : (wrap64 (t.tdiv day * day) != t) = false := by rw [HWM.out, hz]; simp
      have HB := Lib.hid hb
      have hd : decide (t < 0) = true := decide_eq_true htn
      clear hq hb h hz
      go_enter Try.func38, Try.ntmps38
      have hb := HB.out
      go_wp2
      go_ret
      exact ⟨by rw [← HE.out]; rfl, rfl⟩
    · have hd : decide (t < 0) = false := decide_eq_false htn
      clear hq h
      go_enter Try.func38, Try.ntmps38
      go_wp2
      go_ret
      exact ⟨by rw [← HE.out]; rfl, rfl⟩

set_option maxRecDepth 100000 in
/-- near at a time that is no greater than the last one. -/
theorem near_any (t last less : Int) (ht : In64 t) (hl : In64 last) (hs : In64 less) (hle : t ≤ last) (w : World) :
    Calls Try.prog 39 #[.int .i64 t, .int .i64 last, .int .i64 less] w fun e w' => e = .returned (.bool (aboveW t last less)) ∧ w = w' := by
  obtain ⟨t1, t2⟩ := ht
  obtain ⟨l1, l2⟩ := hl
  obtain ⟨s1, s2⟩ := hs
  by_cases h0 : less ≤ 0
  · have hd : decide (less ≤ 0) = true := decide_eq_true h0
    have hr : aboveW t last less = false := by unfold aboveW; exact decide_eq_false (fun x => by omega)
    rw [hr]
    clear hr
    go_enter Try.func39, Try.ntmps39
    go_wp2
    go_ret
    exact ⟨rfl, rfl⟩
  · have hd : decide (less ≤ 0) = false := decide_eq_false h0
    have hr : aboveW t last less = decide (last - t < less) := by
      unfold aboveW
      rw [Int.emod_eq_of_lt (by omega) (by omega), Bool.eq_iff_iff]
      simp only [decide_eq_true_eq]
      omega
    rw [hr]
    clear hr
    by_cases hc : t < 0 ∧ 0 ≤ last
    · obtain ⟨hc1, hc2⟩ := hc
      have d1 : decide (t < 0) = true := decide_eq_true hc1
      have d2 : decide (last ≥ 0) = true := decide_eq_true hc2
      have HW : Hid (IntKind.u64.wrap (IntKind.u64.wrap last + IntKind.u64.wrap (IntKind.u64.wrap (-(t + 1)) + 1)) = last - t ∧ IntKind.u64.wrap less = less) := by
        rw [wrap_u64' less, wrap_u64' last, wrap_u64' (-(t + 1)), Int.emod_eq_of_lt (show 0 ≤ less by omega) (by omega), Int.emod_eq_of_lt (show 0 ≤ last by omega) (by omega), Int.emod_eq_of_lt (show 0 ≤ -(t + 1) by omega) (by omega)]
        rw [wrap_u64' (-(t + 1) + 1), Int.emod_eq_of_lt (show 0 ≤ -(t + 1) + 1 by omega) (by omega), wrap_u64', Int.emod_eq_of_lt (by omega) (by omega)]
        exact ⟨by omega, rfl⟩
      go_enter Try.func39, Try.ntmps39
      go_wp2
      go_ret
      refine ⟨?_, rfl⟩
      rw [← show decide (last + (-(t + 1) + 1) < less) = decide (last - t < less) from decide_eq_decide.2 (by omega)]
      rfl
    · have hx : wrap64 (last - t) = last - t := IntWalk.wrap64_in _ ⟨by omega, by omega⟩
      have hx2 : IntKind.i64.wrap (last - t) = last - t := by rw [IntKind.wrap_i64]; omega
      by_cases hc1 : t < 0
      · have d1 : decide (t < 0) = true := decide_eq_true hc1
        have d2 : decide (last ≥ 0) = false := decide_eq_false (by omega)
        go_enter Try.func39, Try.ntmps39
        go_wp2
        go_ret
        refine ⟨?_, rfl⟩
        rfl
      · have d1 : decide (t < 0) = false := decide_eq_false hc1
        go_enter Try.func39, Try.ntmps39
        go_wp2
        go_ret
        refine ⟨?_, rfl⟩
        rfl


/-! rows read -/
/-- From the address on the cells are these. -/
def RowAt (w : World) (A : Option Addr) (cs : List Value) : Prop := ∀ i v, cs[i]? = some v → ∃ b o, A = some ⟨b, o, none⟩ ∧ b < w.heap.size ∧ w.cell? ⟨b, o + i, none⟩ = some v
theorem RowAt.below {w w' : World} {A : Option Addr} {cs : List Value} (h : RowAt w A cs) (hb : Below w.heap.size w w') : RowAt w' A cs := fun i v hv => by
  obtain ⟨b, o, e, hlt, hc⟩ := h i v hv
  exact ⟨b, o, e, Nat.lt_of_lt_of_le hlt hb.size, by rw [hb.cell (p := ⟨b, o + i, none⟩) hlt]; exact hc⟩
theorem own_row {w : World} {base n : Nat} {e : TypeId} {v : Value} {xs : List Value} (h : w.ownsRow base e 1 v n xs) : ∃ A c, v = .slice A n c ∧ RowAt w A xs := by
  rcases h.2 with ⟨rfl, h0⟩ | ⟨g, cap, cur, rfl, hb, hg, hn, hc, hs, ht⟩
  · subst h0
    have : xs = [] := by have := h.1; rw [Nat.zero_mul] at this; exact List.length_eq_zero_iff.1 this
    subst this
    exact ⟨_, _, rfl, fun i v hv => by simp at hv⟩
  · refine ⟨_, _, rfl, fun i v hv => ⟨g, 0, rfl, (Array.getElem?_eq_some_iff.1 hg).1, ?_⟩⟩
    rw [← ht, List.getElem?_take] at hv
    split at hv
    · simp only [World.cell?, hg, Nat.zero_add]
      simpa using hv
    · cases hv
theorem RowAt.int {w : World} {A : Option Addr} {k : IntKind} {xs : List Int} (h : RowAt w A (xs.map (Value.int k))) {i : Nat} (hi : i < xs.length) : ∃ b o, A = some ⟨b, o, none⟩ ∧ b < w.heap.size ∧ w.cell? ⟨b, o + i, none⟩ = some (.int k (xs.getD i 0)) := by
  refine h i _ ?_
  rw [List.getElem?_map, List.getElem?_eq_getElem hi, List.getD_eq_getElem?_getD, List.getElem?_eq_getElem hi]; rfl

def mem_upto (xs : List Int) (d : Int) (k : Nat) : Prop := ∀ j, j < k → xs.getD j 0 ≠ d
theorem mem_at {xs : List Int} {d : Int} {k : Nat} (hk : k < xs.length) (h : xs.getD k 0 = d) : decide (d ∈ xs) = true := by
  rw [List.getD_eq_getElem?_getD, List.getElem?_eq_getElem hk] at h
  simp only [Option.getD_some] at h
  rw [← h]
  exact decide_eq_true (List.getElem_mem _)
theorem mem_none {xs : List Int} {d : Int} (h : mem_upto xs d xs.length) : decide (d ∈ xs) = false := by
  refine decide_eq_false fun hm => ?_
  obtain ⟨i, hi, e⟩ := List.getElem_of_mem hm
  have := h i hi
  rw [List.getD_eq_getElem?_getD, List.getElem?_eq_getElem hi] at this
  exact this e

set_option maxRecDepth 100000 in
theorem has_any (xs : List Int) (d : Int) (A : Option Addr) (c : Nat) (w : World) (hl : xs.length ≤ 1073741824) (h : RowAt w A (xs.map (Value.int .i64))) :
    Calls Try.prog 45 #[.slice A xs.length c, .int .i64 d] w fun e w' => e = .returned (.bool (decide (d ∈ xs))) ∧ w = w' := by
  have H := Lib.hid h
  clear h
  go_enter Try.func45, Try.ntmps45
  go_wp2
  go_loop [5] (fun i => ∃ k : Nat, k ≤ xs.length ∧ i = .int .i64 k ∧ Hid (mem_upto xs d k)) (fun i => xs.length - (intOf i).toNat)
  case atStart => exact ⟨0, Nat.zero_le _, rfl, fun _ h => absurd h (by omega)⟩
  case round =>
    obtain ⟨k, hk, rfl, hz⟩ := hrel
    by_cases hlt : k < xs.length
    · have hltz : (k : Int) < (xs.length : Int) := by omega
      obtain ⟨b, o, rfl, _, hc⟩ := H.out.int hlt
      by_cases hn : xs.getD k 0 = d
      · have HA := Lib.hid (mem_at hlt hn)
        rw [hn] at hc
        clear hn
        go_wp2
        go_ret
        exact ⟨by rw [HA.out]; rfl, rfl⟩
      · have hb : (xs.getD k 0 == d) = false := by simpa using hn
        have HN := Lib.hid hn
        have HG : Hid (mem_upto xs d (k + 1)) := fun j hj => by
          by_cases e : j = k
          · rw [e]; exact HN.out
          · exact hz.out j (by omega)
        clear hn HN
        generalize xs.getD k 0 = x at *
        go_wp2
        go_round
        case rel => exact ⟨k + 1, by omega, by go_num, HG⟩
        case measure => simp [intOf]; omega
    · obtain rfl : k = xs.length := by omega
      have hltz : ¬ (xs.length : Int) < (xs.length : Int) := by omega
      have HA := Lib.hid (mem_none hz.out)
      go_wp2
      go_ret
      exact ⟨by rw [HA.out]; rfl, rfl⟩

def MaxTo (xs : List Sn) (k : Nat) (t : Int) : Prop := (∀ m, m < k → (xs.getD m default).time ≤ t) ∧ ∃ m, m < k ∧ (xs.getD m default).time = t
theorem MaxTo.top {xs : List Sn} {t : Int} (h : MaxTo xs xs.length t) : t = topT xs := by
  obtain ⟨h1, m, hm, h2⟩ := h
  obtain ⟨i, i0, i1, i2, _⟩ := topT_mem (xs := xs) (by omega)
  have a := topT_ge (xs := xs) (i := (m : Int)) (by omega) (by omega)
  have b := h1 i.toNat (by omega)
  unfold snAt at a i2
  rw [Int.toNat_natCast, h2] at a
  rw [i2] at b
  omega
theorem MaxTo.up {xs : List Sn} {k : Nat} {t : Int} (h : MaxTo xs k t) (hg : t < (xs.getD k default).time) : MaxTo xs (k + 1) (xs.getD k default).time := by
  refine ⟨fun m hm => ?_, k, by omega, rfl⟩
  by_cases e : m = k
  · rw [e]; exact Int.le_refl _
  · have := h.1 m (by omega); omega
theorem MaxTo.stay {xs : List Sn} {k : Nat} {t : Int} (h : MaxTo xs k t) (hg : ¬ t < (xs.getD k default).time) : MaxTo xs (k + 1) t := by
  obtain ⟨h1, m, hm, h2⟩ := h
  refine ⟨fun j hj => ?_, m, by omega, h2⟩
  by_cases e : j = k
  · rw [e]; omega
  · exact h1 j (by omega)

/-- A snapshot's time, where the walk looks for it. -/
theorem SnsAt.time {w : World} {A : Option Addr} {xs : List Sn} (h : SnsAt w A xs) {k : Nat} (hk : k < xs.length) : ∃ b o, A = some ⟨b, o, none⟩ ∧ b < w.heap.size ∧ w.cell? ⟨b, o + k * 37, none⟩ = some (.int .i64 (xs.getD k default).time) := by
  obtain ⟨b, o, e, hlt, hr, _⟩ := h k hk
  refine ⟨b, o, e, hlt, ?_⟩
  have := hr 0 (.int .i64 (xs.getD k default).time) (by simp [Sn.cells])
  exact this

set_option maxRecDepth 100000 in
theorem top_any (xs : List Sn) (A : Option Addr) (c : Nat) (w : World) (hn : 0 < xs.length) (hl : xs.length ≤ 1073741824) (h : SnsAt w A xs) :
    Calls Try.prog 40 #[.slice A xs.length c] w fun e w' => e = .returned (.int .i64 (topT xs)) ∧ w = w' := by
  have H := Lib.hid h
  obtain ⟨b, o, rfl, _, hc0⟩ := h.time hn
  rw [Nat.zero_mul, Nat.add_zero] at hc0
  have hnz : (0 : Int) < (xs.length : Int) := by omega
  have HM : Hid (MaxTo xs 1 (xs.getD 0 default).time) := ⟨fun m hm => by obtain rfl : m = 0 := by omega
                                                                         exact Int.le_refl _, 0, by omega, rfl⟩
  clear h
  generalize (xs.getD 0 default).time = t0 at *
  go_enter Try.func40, Try.ntmps40
  go_wp2
  go_loop [3, 4] (fun t i => ∃ (k : Nat) (x : Int), k ≤ xs.length ∧ 1 ≤ k ∧ i = .int .i64 k ∧ t = .int .i64 x ∧ Hid (MaxTo xs k x)) (fun _ i => xs.length - (intOf i).toNat)
  case atStart => exact ⟨1, t0, by omega, by omega, rfl, rfl, HM⟩
  case round =>
    obtain ⟨k, x, hk, hk1, rfl, rfl, hz⟩ := hrel
    clear HM hc0
    by_cases hlt : k < xs.length
    · have hltz : (k : Int) < (xs.length : Int) := by omega
      obtain ⟨b', o', e, _, hc⟩ := H.out.time hlt
      obtain ⟨rfl, rfl⟩ : b = b' ∧ o = o' := by simpa using e
      clear e
      by_cases hg : x < (xs.getD k default).time
      · have HG := Lib.hid (hz.out.up hg)
        generalize (xs.getD k default).time = y at *
        go_wp2
        go_round
        case rel => exact ⟨k + 1, y, by omega, by omega, by go_num, rfl, HG⟩
        case measure => simp [intOf]; omega
      · have HG := Lib.hid (hz.out.stay hg)
        generalize (xs.getD k default).time = y at *
        have hg' : ¬ y > x := hg
        go_wp2
        go_round
        case rel => exact ⟨k + 1, x, by omega, by omega, by go_num, rfl, HG⟩
        case measure => simp [intOf]; omega
    · obtain rfl : k = xs.length := by omega
      have hltz : ¬ (xs.length : Int) < (xs.length : Int) := by omega
      have HA := Lib.hid hz.out.top
      go_wp2
      go_ret
      exact ⟨by rw [← HA.out]; rfl, rfl⟩

end Go.Proofs.Ytfpcgancmgeagaa
