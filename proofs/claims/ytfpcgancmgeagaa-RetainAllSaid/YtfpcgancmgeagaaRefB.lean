/- Contracts of the document's Less of two sums and of two snapshots. -/
import Derived.Test.YtfpcgancmgeagaaRefA
namespace Go.Proofs.Ytfpcgancmgeagaa
open Go.RowKit

theorem u8s_get {l : List UInt8} {i : Nat} (h : i < l.length) : (u8s l).toArray[i]? = some (.int .u8 ((l.getD i 0).toNat : Int)) := by
  simp [u8s, h]
theorem plain_u8 : Try.prog.plainKey 5 = true := by kernel_rfl
theorem info_u8 : ∃ i, Try.prog.info? 5 = some i := by
  have : (Try.prog.info? 5).isSome = true := by kernel_rfl
  exact Option.isSome_iff_exists.1 this

theorem run_items (w : World) (d : Nat) (a b : List UInt8) : ∀ (m k : Nat), a.length = k + m → b.length = k + m → (Op.eqItems (d + 1) 5 1 (u8s a).toArray (u8s b).toArray (List.range' k m)).run Try.prog w = .ok (decide (a.drop k = b.drop k)) w
  | 0, k, ha, hb => by
    rw [List.drop_of_length_le (by omega), List.drop_of_length_le (by omega)]
    simp [Op.eqItems]
  | m + 1, k, ha, hb => by
    have h1 := run_part_plain w plain_u8 (xs := (u8s a).toArray) (u8s_get (l := a) (i := k) (by omega))
    have h2 := run_part_plain w plain_u8 (xs := (u8s b).toArray) (u8s_get (l := b) (i := k) (by omega))
    have h3 := run_equalIn_int w d 5 .u8 .u8 ((a.getD k 0).toNat : Int) ((b.getD k 0).toNat : Int) Try.underlying5
    have ih := run_items w d a b m (k + 1) (by omega) (by omega)
    rw [List.range'_succ]
    simp only [Op.eqItems, Nat.mul_one, Sem.run_bind, h1, h2, h3, Result.andThen_ok]
    have ea : a.drop k = a.getD k 0 :: a.drop (k + 1) := by rw [List.drop_eq_getElem_cons (by omega), List.getD_eq_getElem?_getD, List.getElem?_eq_getElem (by omega)]; rfl
    have eb : b.drop k = b.getD k 0 :: b.drop (k + 1) := by rw [List.drop_eq_getElem_cons (by omega), List.getD_eq_getElem?_getD, List.getElem?_eq_getElem (by omega)]; rfl
    rw [ea, eb]
    by_cases e : a.getD k 0 = b.getD k 0
    · rw [e]
      simp only [beq_self_eq_true, Bool.not_true, Bool.false_eq_true, if_false, ih]
      simp
    · have hb' : (((a.getD k 0).toNat : Int) == ((b.getD k 0).toNat : Int)) = false := by
        rw [beq_eq_false_iff_ne]
        intro h
        exact e (UInt8.toNat_inj.1 (by omega))
      rw [hb']
      have : ¬ (a.getD k 0 :: a.drop (k + 1) = b.getD k 0 :: b.drop (k + 1)) := by simp only [List.cons.injEq]; exact fun h => e h.1
      simp only [Bool.not_false, if_true, Sem.run_pure, decide_eq_false this]

/-- Two sums of 32 bytes, held against each other. -/
theorem run_neq_root (w : World) (a b : List UInt8) (ha : a.length = 32) (hb : b.length = 32) :
    (binOp .neq 40 (.agg (u8s a).toArray) (.agg (u8s b).toArray)).run Try.prog w = .ok (.bool (!decide (a = b))) w := by
  obtain ⟨i, hi⟩ := info_u8
  rw [run_neq_struct]
  have h := run_equalIn_array (P := Try.prog) w 9999 (u8s a).toArray (u8s b).toArray Try.underlying40 hi
  rw [show (10000 : Nat) = 9999 + 1 from rfl, h, A_cells_u8]
  have := run_items w 9998 a b 32 0 (by omega) (by omega)
  rw [List.range_eq_range', this]
  simp [Result.andThen]

theorem cmpB_at : ∀ {a b : List UInt8} {k : Nat}, (∀ j, j < k → a.getD j 0 = b.getD j 0) → k < a.length → k < b.length → a.getD k 0 ≠ b.getD k 0 → decide (Lib.compareBytes a b < 0) = decide ((a.getD k 0).toNat < (b.getD k 0).toNat)
  | [], _, _, _, h, _, _ => by simp at h
  | _ :: _, [], _, _, _, h, _ => by simp at h
  | x :: a, y :: b, 0, _, _, _, hn => by
    have hn' : x ≠ y := by simpa using hn
    unfold Lib.compareBytes
    rw [decide_eq_decide]
    show _ ↔ x.toNat < y.toNat
    simp only [UInt8.lt_iff_toNat_lt]
    have : x.toNat ≠ y.toNat := fun e => hn' (UInt8.toNat_inj.1 e)
    split
    · constructor <;> intro <;> omega
    · rw [if_pos (by omega)]; constructor <;> intro <;> omega
  | x :: a, y :: b, k + 1, h, h1, h2, hn => by
    have h0 : x = y := h 0 (by omega)
    subst h0
    have ih := cmpB_at (a := a) (b := b) (k := k) (fun j hj => by have := h (j + 1) (by omega); simpa using this) (by simpa using h1) (by simpa using h2) (by simpa using hn)
    unfold Lib.compareBytes
    simp only [UInt8.lt_iff_toNat_lt, Nat.lt_irrefl, if_false]
    simpa using ih
theorem cmpB_none {a b : List UInt8} (hl : a.length = b.length) (h : ∀ j, j < a.length → a.getD j 0 = b.getD j 0) : a = b := by
  apply List.ext_getElem hl
  intro i h1 h2
  have := h i h1
  simpa [List.getD_eq_getElem?_getD, h1, h2] using this

def SameTo (a b : List UInt8) (k : Nat) : Prop := ∀ j, j < k → a.getD j 0 = b.getD j 0

set_option maxHeartbeats 1000000 in
set_option maxRecDepth 100000 in
theorem less_root (a b : List UInt8) (ha : a.length = 32) (hb : b.length = 32) (w : World) :
    Calls Try.prog 134 #[.agg (u8s a).toArray, .agg (u8s b).toArray] w fun e w' => e = .returned (.bool (decide (Lib.compareBytes a b < 0))) ∧ Below w.heap.size w w' := by
  obtain ⟨w2, hw2⟩ : ∃ w2, (w.alloc (.cells (u8s a).toArray 40)).alloc (.cells (u8s b).toArray 40) = w2 := ⟨_, rfl⟩
  have hb2 : Below w.heap.size w w2 := by rw [← hw2]; exact ((Below.refl _ _).alloc (Nat.le_refl _) _).alloc (by simp) _
  have kA : Blk w2 w.heap.size 40 (u8s a) := by rw [← hw2]; exact (Blk.new w _ _).alloc _
  have kB : Blk w2 (w.heap.size + 1) 40 (u8s b) := by rw [← hw2]; have := Blk.new (w.alloc (.cells (u8s a).toArray 40)) 40 (u8s b); rw [World.size_alloc] at this; exact this
  have HW := Lib.hid hw2
  have HK := Lib.hid (And.intro kA (And.intro kB hb2))
  clear hw2 kA kB hb2
  go_enter Try.func134, Try.ntmps134
  go_wp2_with fail
  rw [HW.out]
  go_loopw [5] (fun i wr => ∃ k : Nat, k ≤ 32 ∧ i = .int .i64 k ∧ Hid (SameTo a b k ∧ Below w2.heap.size w2 wr)) (fun i _ => 32 - (intOf i).toNat)
  case atStart => exact ⟨0, by omega, rfl, ⟨(fun _ h => absurd h (by omega)), Below.refl _ _⟩⟩
  case round =>
    obtain ⟨k, hk, rfl, hz⟩ := hrel
    by_cases hlt : k < 32
    · have hltz : (k : Int) < 32 := by omega
      have hca : wr.cell? ⟨w.heap.size, k, none⟩ = some (.int .u8 ((a.getD k 0).toNat : Int)) := by
        have := (HK.out.1.below hz.out.2 HK.out.1.lt).cell k
        rw [this, ← List.getElem?_toArray]; exact u8s_get (by omega)
      have hcb : wr.cell? ⟨w.heap.size + 1, k, none⟩ = some (.int .u8 ((b.getD k 0).toNat : Int)) := by
        have := (HK.out.2.1.below hz.out.2 HK.out.2.1.lt).cell k
        rw [this, ← List.getElem?_toArray]; exact u8s_get (by omega)
      have q1 := one_cell hca
      have q2 := one_cell hcb
      by_cases hn : a.getD k 0 = b.getD k 0
      · have hne : (((a.getD k 0).toNat : Int) != ((b.getD k 0).toNat : Int)) = false := by rw [hn]; simp
        have HG : Hid (SameTo a b (k + 1)) := fun j hj => by
          by_cases e : j = k
          · rw [e]; exact hn
          · exact hz.out.1 j (by omega)
        clear hn hca hcb
        generalize a.getD k 0 = x at *
        generalize b.getD k 0 = y at *
        go_wp2_with fail
        refine wp_region_in (fun W' => W' = wr.drew) rfl (by kernel_rfl) (by kernel_rfl) ?_
        repeat (go_big_quiet_step (fail))
        refine wpQuiet_nil ?_
        rintro _ ⟨⟨W6, hW6⟩, rfl⟩
        obtain rfl := hW6
        clear q1 q2
        go_wp2
        go_roundw
        case rel => exact ⟨k + 1, by omega, by go_num, HG.out, hz.out.2.drew⟩
        case measure => simp [intOf]; omega
      · have hne : (((a.getD k 0).toNat : Int) != ((b.getD k 0).toNat : Int)) = true := by
          rw [bne_iff_ne]
          intro h
          exact hn (UInt8.toNat_inj.1 (by omega))
        have HA := Lib.hid (cmpB_at hz.out.1 (by omega) (by omega) hn)
        clear hn
        generalize a.getD k 0 = x at *
        generalize b.getD k 0 = y at *
        go_wp2_with fail
        refine wp_region_in (fun W' => W' = wr.drew) rfl (by kernel_rfl) (by kernel_rfl) ?_
        repeat (go_big_quiet_step (fail))
        refine wpQuiet_nil ?_
        rintro _ ⟨⟨W6, hW6⟩, rfl⟩
        obtain rfl := hW6
        have q1 := one_cell (w := wr.drew) hca
        have q2 := one_cell (w := wr.drew) hcb
        clear hca hcb
        go_wp2_with fail
        refine wp_region_in (fun W' => W' = wr.drew.drew) rfl (by kernel_rfl) (by kernel_rfl) ?_
        repeat (go_big_quiet_step (fail))
        refine wpQuiet_nil ?_
        rintro _ ⟨⟨W6, hW6⟩, rfl⟩
        obtain rfl := hW6
        clear q1 q2
        go_wp2
        go_ret
        exact ⟨by rw [HA.out]; rfl, HK.out.2.2.trans ((hz.out.2.drew.drew).mono HK.out.2.2.size)⟩
    · obtain rfl : k = 32 := by omega
      have HA : Hid (decide (Lib.compareBytes a b < 0) = false) := by
        have e : a = b := cmpB_none (by omega) (fun j hj => hz.out.1 j (by omega))
        rw [e]
        have : Lib.compareBytes b b = 0 := by have := compareBytes_anti b b; omega
        rw [this]; rfl
      go_wp2
      go_ret
      exact ⟨by rw [HA.out]; rfl, HK.out.2.2.trans (hz.out.2.mono HK.out.2.2.size)⟩

end Go.Proofs.Ytfpcgancmgeagaa
