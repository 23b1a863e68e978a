/- The law's example: alive says yes. -/
import Derived.Test.YtfpcgancmgeagaaAliveP
namespace Go.Proofs.Ytfpcgancmgeagaa
open Go.RowKit Go.Shelf

theorem in64_small {x : Int} (h : 0 ≤ x ∧ x ≤ 1000) : In64 x := by unfold In64; omega
theorem sns0 (w : World) (g : Nat) (hg : g < w.heap.size) (t : TypeId) (h : Blk w g t (xs0.flatMap Sn.cells)) : SnsAt w (some ⟨g, 0, none⟩) xs0 := by
  have ok : ∀ s ∈ xs0, s.ok := by
    intro s hs
    simp only [xs0, List.mem_cons, List.not_mem_nil, or_false] at hs
    rcases hs with rfl | rfl | rfl | rfl <;> exact ⟨by simp [sn0], in64_small (by simp [sn0]), in64_small (by simp [sn0]), in64_small (by simp [sn0])⟩
  intro i hi
  refine ⟨g, 0, rfl, hg, fun j v hv => ?_, ?_⟩
  · show w.cell? ⟨g, 0 + i * 37 + j, none⟩ = some v
    rw [h.cell]
    have hj : j < 37 := by
      have := (List.getElem?_eq_some_iff.1 hv).1
      have h2 := (xs0.getD i default).size (ok _ (by rw [List.getD_eq_getElem?_getD, List.getElem?_eq_getElem hi]; exact List.getElem_mem _))
      simp only [Sn.arr, List.size_toArray] at h2
      omega
    have hi4 : i = 0 ∨ i = 1 ∨ i = 2 ∨ i = 3 := by have : xs0.length = 4 := rfl; omega
    have hc : ∀ s ∈ xs0, s.cells.length = 37 := fun s hs => by have := s.size (ok s hs); simpa [Sn.arr] using this
    have e : xs0.flatMap Sn.cells = (sn0 5 ⟨#[]⟩).cells ++ ((sn0 25 ⟨#[]⟩).cells ++ ((sn0 12 ⟨#[120]⟩).cells ++ (sn0 21 ⟨#[]⟩).cells)) := by simp [xs0]
    have l1 := hc (sn0 5 ⟨#[]⟩) (by simp [xs0])
    have l2 := hc (sn0 25 ⟨#[]⟩) (by simp [xs0])
    have l3 := hc (sn0 12 ⟨#[120]⟩) (by simp [xs0])
    rw [e]
    rcases hi4 with rfl | rfl | rfl | rfl
    · rw [List.getElem?_append_left (by omega)]; simpa [xs0] using hv
    · rw [List.getElem?_append_right (by omega), List.getElem?_append_left (by omega), l1]
      rw [show 0 + 1 * 37 + j - 37 = j by omega]; simpa [xs0] using hv
    · rw [List.getElem?_append_right (by omega), List.getElem?_append_right (by omega), List.getElem?_append_left (by omega), l1, l2]
      rw [show 0 + 2 * 37 + j - 37 - 37 = j by omega]; simpa [xs0] using hv
    · rw [List.getElem?_append_right (by omega), List.getElem?_append_right (by omega), List.getElem?_append_right (by omega), l1, l2, l3]
      rw [show 0 + 3 * 37 + j - 37 - 37 - 37 = j by omega]; simpa [xs0] using hv
  · exact ok _ (by rw [List.getD_eq_getElem?_getD, List.getElem?_eq_getElem hi]; exact List.getElem_mem _)

set_option maxHeartbeats 4000000 in
set_option maxRecDepth 100000 in
theorem alive_any (w : World) :
    Calls Try.prog 12 #[] w fun e w' => e = .returned (.bool true) ∧ Below w.heap.size w w' := by
  obtain ⟨w1, hw1⟩ : ∃ w1, w.alloc (.cells (xs0.flatMap Sn.cells).toArray 42) = w1 := ⟨_, rfl⟩
  have hb1 : Below w.heap.size w w1 := by rw [← hw1]; exact (Below.refl _ w).alloc (Nat.le_refl _) _
  have hk1 : Blk w1 w.heap.size 42 (xs0.flatMap Sn.cells) := by rw [← hw1]; exact Blk.new w _ _
  have HS1 := Lib.hid (sns0 w1 w.heap.size hk1.lt _ hk1)
  have HW1 := Lib.hid hw1
  have HB1 := Lib.hid hb1
  have hpA : pA.ok := ⟨in64_small (by simp [pA]), in64_small (by simp [pA]), in64_small (by simp [pA]), in64_small (by simp [pA])⟩
  have hpB : pB.ok := ⟨in64_small (by simp [pB]), in64_small (by simp [pB]), in64_small (by simp [pB]), in64_small (by simp [pB])⟩
  have hpC : pC.ok := ⟨in64_small (by simp [pC]), in64_small (by simp [pC]), in64_small (by simp [pC]), in64_small (by simp [pC])⟩
  have HPP := Lib.hid (And.intro hpA (And.intro hpB hpC))
  clear hw1 hb1 hk1 hpA hpB hpC
  go_enter Try.func12, Try.ntmps12
  go_wp2_with fail
  have hc1 := callsIn_wide.1 (keep_any xs0 (some ⟨w.heap.size, 0, none⟩) 4 pA HPP.out.1 w1 (by decide) HS1.out)
  rw [← HW1.out] at hc1
  refine hc1.mono ?_
  rw [HW1.out]
  clear hc1
  rintro e w2 ⟨rfl, hb2, hk2⟩
  rw [keepA] at hk2
  rw [xs0_len]
  obtain ⟨g1, hg1⟩ : ∃ g1, w1.heap.size + 2 = g1 := ⟨_, rfl⟩
  rw [hg1] at hk2 ⊢
  have HS2 := Lib.hid (HS1.out.below hb2)
  have HK2 := Lib.hid hk2
  have HB2 := Lib.hid (HB1.out.trans (hb2.mono HB1.out.size))
  clear hb2 hk2 hg1 HB1
  go_wp2_with fail
  refine (callsIn_wide.1 (keep_any xs0 (some ⟨w.heap.size, 0, none⟩) 4 pB HPP.out.2.1 w2 (by decide) HS2.out)).mono ?_
  rintro e w3 ⟨rfl, hb3, hk3⟩
  rw [keepBB] at hk3
  rw [xs0_len]
  obtain ⟨g2, hg2⟩ : ∃ g2, w2.heap.size + 2 = g2 := ⟨_, rfl⟩
  rw [hg2] at hk3 ⊢
  have HS3 := Lib.hid (HS2.out.below hb3)
  have HK3 := Lib.hid (And.intro (HK2.out.below hb3 HK2.out.lt) hk3)
  have HB3 := Lib.hid (HB2.out.trans (hb3.mono HB2.out.size))
  clear hb3 hk3 hg2 HB2 HK2
  go_wp2_with fail
  refine (callsIn_wide.1 (keep_any xs0 (some ⟨w.heap.size, 0, none⟩) 4 pC HPP.out.2.2 w3 (by decide) HS3.out)).mono ?_
  rintro e w4 ⟨rfl, hb4, hk4⟩
  rw [keepC] at hk4
  rw [xs0_len]
  obtain ⟨g3, hg3⟩ : ∃ g3, w3.heap.size + 2 = g3 := ⟨_, rfl⟩
  rw [hg3] at hk4 ⊢
  have HS4 := Lib.hid (HS3.out.below hb4)
  have HK4 := Lib.hid (And.intro (HK3.out.1.below hb4 HK3.out.1.lt) (And.intro (HK3.out.2.below hb4 HK3.out.2.lt) hk4))
  have HB4 := Lib.hid (HB3.out.trans (hb4.mono HB3.out.size))
  clear hb4 hk4 hg3 HB3 HK3
  go_wp2_with fail
  refine (days_any xs0 (some ⟨w.heap.size, 0, none⟩) 4 10 (in64_small (by omega)) w4 (by decide) HS4.out).mono ?_
  rintro e w5 ⟨v, rfl, hown, hb5⟩
  rw [days0] at hown
  obtain ⟨g4, cap, rest, rfl, _, _, _, _, hd⟩ := own_dat hown (by decide)
  have HS5 := Lib.hid (HS4.out.below hb5)
  obtain ⟨ka, kb, kc⟩ := HK4.out
  have ka := ka.below hb5 ka.lt
  have kb := kb.below hb5 kb.lt
  have kc := kc.below hb5 kc.lt
  have HB5 := Lib.hid (HB4.out.trans (hb5.mono HB4.out.size))
  have a0 := ka.cell 0
  have a1 := ka.cell 1
  have a2 := ka.cell 2
  have a3 := ka.cell 3
  have b0 := kb.cell 0
  have b1 := kb.cell 1
  have b2 := kb.cell 2
  have b3 := kb.cell 3
  have c0 := kc.cell 0
  have c1 := kc.cell 1
  have c2 := kc.cell 2
  have c3 := kc.cell 3
  have d0 := dat_cell hd (j := 0) (by decide)
  simp only [bools, List.map_cons, List.map_nil, List.getElem?_cons_zero, List.getElem?_cons_succ] at a0 a1 a2 a3 b0 b1 b2 b3 c0 c1 c2 c3
  rw [show ([2, 1, 0] : List Int).getD 0 0 = 2 from rfl] at d0
  have hgone := gone_any xs0 (some ⟨w.heap.size, 0, none⟩) 4 pA 9 HPP.out.1 (by decide) w5 HS5.out
  rw [goneA] at hgone
  have HG := Lib.hid hgone
  clear hb5 HB4 HK4 ka kb kc hown hd hgone
  go_wp2_with fail
  refine HG.out.mono ?_
  rintro e w6 ⟨v, rfl, hown6, hb6⟩
  obtain ⟨g5, cap5, rest5, rfl, _, _, _, _, _⟩ := own_dat hown6 (by decide)
  have HB6 := Lib.hid (HB5.out.trans (hb6.mono HB5.out.size))
  clear hown6 hb6 a0 a1 a2 a3 b0 b1 b2 b3 c0 c1 c2 c3 d0
  go_wp2
  go_ret
  exact ⟨rfl, HB6.out⟩

end Go.Proofs.Ytfpcgancmgeagaa
