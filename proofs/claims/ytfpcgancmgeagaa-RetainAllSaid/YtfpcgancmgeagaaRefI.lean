/- Contract of the document's SameInts at two like rows; rows under any type read as snapshots. -/
import Derived.Test.YtfpcgancmgeagaaRefH
namespace Go.Proofs.Ytfpcgancmgeagaa
open Go.RowKit

set_option maxRecDepth 100000 in
set_option maxHeartbeats 1000000 in
theorem same_ints (xs : List Int) (A B : Option Addr) (c d : Nat) (w : World) (hl : xs.length ≤ 1073741824) (hA : RowAt w A (xs.map (Value.int .i64))) (hB : RowAt w B (xs.map (Value.int .i64))) :
    Calls Try.prog 18 #[.slice A xs.length c, .slice B xs.length d] w fun e w' => e = .returned (.bool true) ∧ Below w.heap.size w w' := by
  have HA := Lib.hid hA
  have HB := Lib.hid hB
  clear hA hB
  go_enter Try.func18, Try.ntmps18
  go_wp2
  go_loopw [5] (fun i wr => ∃ k : Nat, k ≤ xs.length ∧ i = .int .i64 k ∧ Hid (Below w.heap.size w wr)) (fun i _ => xs.length - (intOf i).toNat)
  case atStart => exact ⟨0, Nat.zero_le _, rfl, Below.refl _ _⟩
  case round =>
    obtain ⟨k, hk, rfl, HW⟩ := hrel
    by_cases hlt : k < xs.length
    · have hltz : (k : Int) < (xs.length : Int) := by omega
      obtain ⟨b, o, rfl, _, hc⟩ := (HA.out.below HW.out).int hlt
      obtain ⟨b', o', rfl, _, hc'⟩ := (HB.out.below HW.out).int hlt
      have z1 := one_cell hc
      have z2 := one_cell hc'
      clear hc hc'
      generalize xs.getD k 0 = x at *
      go_wp2_with fail
      refine wp_region_in (fun W' => W' = wr.drew) rfl (by kernel_rfl) (by kernel_rfl) ?_
      repeat (go_big_quiet_step (fail))
      refine wpQuiet_nil ?_
      rintro W6 ⟨⟨_, hW6⟩, rfl⟩
      obtain rfl := hW6
      clear z1 z2
      go_wp2
      go_roundw
      case rel => exact ⟨k + 1, by omega, by go_num, HW.out.drew⟩
      case measure => simp [intOf]; omega
    · obtain rfl : k = xs.length := by omega
      have hltz : ¬ (xs.length : Int) < (xs.length : Int) := by omega
      go_wp2
      go_ret
      exact ⟨rfl, HW.out⟩

/-- What the call has built reads as a slice of snapshots, whatever the row's type. -/
theorem own_sns' {w : World} {base : Nat} {e : TypeId} {v : Value} {xs : List Sn} (hok : ∀ s ∈ xs, s.ok) (h : w.ownsRow base e 37 v xs.length (xs.flatMap Sn.cells)) :
    ∃ A c, v = .slice A xs.length c ∧ SnsAt w A xs := by
  rcases h.2 with ⟨rfl, h0⟩ | ⟨g, cap, cur, rfl, hb, hg, hn, hc, hs, ht⟩
  · exact ⟨none, 0, by rw [h0], fun i hi => by omega⟩
  · refine ⟨_, _, rfl, fun i hi => ⟨g, 0, rfl, (Array.getElem?_eq_some_iff.1 hg).1, fun j u hj => ?_, hok _ (by rw [List.getD_eq_getElem?_getD, List.getElem?_eq_getElem hi]; exact List.getElem_mem _)⟩⟩
    have hso := hok (xs.getD i default) (by rw [List.getD_eq_getElem?_getD, List.getElem?_eq_getElem hi]; exact List.getElem_mem _)
    have hj37 : j < 37 := by have := (List.getElem?_eq_some_iff.1 hj).1; rw [Sn.len _ hso] at this; exact this
    show w.cell? ⟨g, 0 + i * 37 + j, none⟩ = some u
    have h1 := flat_cell xs hok i j hi hj37
    rw [hj, ← ht, List.getElem?_take] at h1
    have h2 : w.cell? ⟨g, 0 + i * 37 + j, none⟩ = cur[i * 37 + j]? := by simp [World.cell?, hg]
    rw [h2]
    split at h1
    · simpa using h1
    · cases h1

theorem own_len0 {W : World} {base n size : Nat} {e : TypeId} {v : Value} {xs : List Value} (h : W.ownsRow base e size v n xs) : ∃ A c, v = .slice A n c := by
  rcases h.2 with ⟨rfl, rfl⟩ | ⟨g, cap, cur, rfl, _⟩
  · exact ⟨_, _, rfl⟩
  · exact ⟨_, _, rfl⟩
theorem sns_oks {xs : List Sn} {w : World} {A : Option Addr} (h : SnsAt w A xs) : ∀ s ∈ xs, s.ok := fun s hs => by
  obtain ⟨i, hi, rfl⟩ := List.getElem_of_mem hs
  obtain ⟨_, _, _, _, _, ok⟩ := h i hi
  rw [List.getD_eq_getElem?_getD, List.getElem?_eq_getElem hi] at ok
  exact ok
theorem keeps_keepL (xs : List Sn) (p : Pol) : keeps xs p xs.length = keepL xs p := by rw [keepL_eq]; rfl
theorem bools_row {w : World} {A : Option Addr} {ks : List Bool} (h : RowAt w A (bools ks)) {i : Nat} (hi : i < ks.length) : ∃ b o, A = some ⟨b, o, none⟩ ∧ b < w.heap.size ∧ w.cell? ⟨b, o + i, none⟩ = some (.bool (ks.getD i true)) := by
  refine h i _ ?_
  unfold bools
  rw [List.getElem?_map, List.getElem?_eq_getElem hi, List.getD_eq_getElem?_getD, List.getElem?_eq_getElem hi]; rfl

end Go.Proofs.Ytfpcgancmgeagaa
