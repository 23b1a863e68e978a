/- Contract of the document's latest. -/
import Derived.Test.YtfpcgancmgeagaaRefD
namespace Go.Proofs.Ytfpcgancmgeagaa
open Go.RowKit

def LateTo (xs : List Sn) (day : Int) (i k : Nat) : Prop := ∀ m : Int, 0 ≤ m → m < k → ahead xs i m → dayOf xs day m ≠ dayOf xs day i
theorem LateTo.all {xs : List Sn} {day : Int} {i : Nat} (h : LateTo xs day i xs.length) : latest xs day i = true := latest_iff.2 h
theorem LateTo.next {xs : List Sn} {day : Int} {i k : Nat} (h : LateTo xs day i k) (hn : ahead xs i k → dayOf xs day k ≠ dayOf xs day i) : LateTo xs day i (k + 1) := fun m m0 mk ha => by
  by_cases e : m = (k : Int)
  · subst e; exact hn ha
  · exact h m m0 (by omega) ha
theorem late_no {xs : List Sn} {day : Int} {i k : Nat} (hk : k < xs.length) (ha : ahead xs i k) (hd : dayOf xs day k = dayOf xs day i) : latest xs day i = false := by
  rw [← Bool.not_eq_true, latest_iff]
  exact fun h => h k (by omega) (by omega) ha hd

set_option maxHeartbeats 1000000 in
set_option maxRecDepth 100000 in
theorem latest_any (xs : List Sn) (A : Option Addr) (c i : Nat) (day : Int) (hd1 : 1 ≤ day) (hd2 : day ≤ 9223372036854775807) (w : World) (hlen : xs.length ≤ 1073741824) (h : SnsAt w A xs) (hi : i < xs.length) :
    Calls Try.prog 37 #[.slice A xs.length c, .int .i64 i, .int .i64 day] w fun e w' => e = .returned (.bool (latest xs day i)) ∧ Below w.heap.size w w' := by
  have HS := Lib.hid h
  have HD := Lib.hid (And.intro hd1 hd2)
  clear h hd1 hd2
  go_enter Try.func37, Try.ntmps37
  go_wp2_with fail
  go_loopw [7] (fun j wr => ∃ k : Nat, k ≤ xs.length ∧ j = .int .i64 k ∧ Hid (LateTo xs day i k ∧ Below w.heap.size w wr)) (fun j _ => xs.length - (intOf j).toNat)
  case atStart => exact ⟨0, Nat.zero_le _, rfl, (fun m m0 m1 => by omega), Below.refl _ _⟩
  case round =>
    obtain ⟨k, hk, rfl, HB⟩ := hrel
    by_cases hlt : k < xs.length
    · have hltz : (k : Int) < (xs.length : Int) := by omega
      have hiz : (i : Int) < (xs.length : Int) := by omega
      obtain ⟨b, o, rfl, hblt, hck⟩ := HS.out.time hlt
      obtain ⟨b', o', e, _, hci⟩ := HS.out.time hi
      obtain ⟨rfl, rfl⟩ : b = b' ∧ o = o' := by simpa using e
      clear e
      have hbw : b < wr.heap.size := Nat.lt_of_lt_of_le hblt HB.out.2.size
      have tk : In64 (xs.getD k default).time := by obtain ⟨_, _, _, _, _, ok⟩ := HS.out k hlt; exact ok.2.1
      have ti : In64 (xs.getD i default).time := by obtain ⟨_, _, _, _, _, ok⟩ := HS.out i hi; exact ok.2.1
      have hwk : wr.cell? ⟨b, o + k * 37, none⟩ = some (.int .i64 (xs.getD k default).time) := (HB.out.2.cell (p := ⟨b, _, none⟩) hblt).trans hck
      have hwi : wr.cell? ⟨b, o + i * 37, none⟩ = some (.int .i64 (xs.getD i default).time) := (HB.out.2.cell (p := ⟨b, _, none⟩) hblt).trans hci
      have z1 : ∀ q : In (fun W' => Below wr.heap.size wr W'), q.world.cell? ⟨b, o + k * 37, none⟩ = some (.int .i64 (xs.getD k default).time) := fun q => (q.ok.cell (p := ⟨b, _, none⟩) hbw).trans hwk
      have z2 : ∀ q : In (fun W' => Below wr.heap.size wr W'), q.world.cell? ⟨b, o + i * 37, none⟩ = some (.int .i64 (xs.getD i default).time) := fun q => (q.ok.cell (p := ⟨b, _, none⟩) hbw).trans hwi
      have HF : Hid (Below wr.heap.size wr wr.drew) := (Below.refl _ _).drew
      have HD1 : Hid (∀ q : In (fun W' => Below wr.heap.size wr W'), Calls Try.prog 38 #[.int .i64 (xs.getD k default).time, .int .i64 day] q.world fun e w'' => e = .returned (.int .i64 ((xs.getD k default).time / day)) ∧ ∃ q' : In (fun W' => Below wr.heap.size wr W'), w'' = q'.world) := fun q =>
        Calls.into (day_any _ day tk HD.out.1 HD.out.2 q.world) fun e w' h => ⟨h.1, h.2 ▸ q.ok⟩
      have HD2 : Hid (∀ q : In (fun W' => Below wr.heap.size wr W'), Calls Try.prog 38 #[.int .i64 (xs.getD i default).time, .int .i64 day] q.world fun e w'' => e = .returned (.int .i64 ((xs.getD i default).time / day)) ∧ ∃ q' : In (fun W' => Below wr.heap.size wr W'), w'' = q'.world) := fun q =>
        Calls.into (day_any _ day ti HD.out.1 HD.out.2 q.world) fun e w' h => ⟨h.1, h.2 ▸ q.ok⟩
      have HBH : Hid (∀ q : In (fun W' => Below wr.heap.size wr W'), Calls Try.prog 72 #[.slice (some ⟨b, o, none⟩) xs.length c, .int .i64 k, .int .i64 i] q.world fun e w'' => e = .returned (.bool (decide (ahead xs i k))) ∧ ∃ q' : In (fun W' => Below wr.heap.size wr W'), w'' = q'.world) := fun q =>
        Calls.into (behind_any xs (some ⟨b, o, none⟩) c k i q.world hlen (HS.out.below (HB.out.2.trans (q.ok.mono HB.out.2.size))) hlt hi) fun e w' h => ⟨h.1, q.ok.trans (h.2.mono q.ok.size)⟩
      have e1 : dayOf xs day k = (xs.getD k default).time / day := by unfold dayOf snAt; rw [Int.toNat_natCast]
      have e2 : dayOf xs day i = (xs.getD i default).time / day := by unfold dayOf snAt; rw [Int.toNat_natCast]
      have HE := Lib.hid (And.intro e1 e2)
      have HBB : Hid (∀ W, Below wr.heap.size wr W → Below w.heap.size w W) := fun W hW => HB.out.2.trans (hW.mono HB.out.2.size)
      clear e1 e2 hck hci tk ti hwk hwi
      generalize (xs.getD k default).time = sk at *
      generalize (xs.getD i default).time = si at *
      by_cases e : k = i
      · have hne : ((k : Int) != (i : Int)) = false := by rw [e]; simp
        have HG : Hid (LateTo xs day i (k + 1)) := HB.out.1.next fun ha => by rw [e] at ha; exact absurd ha ahead_irrefl
        clear e
        go_wp2_with fail
        refine wp_region_in (fun W' => Below wr.heap.size wr W') HF.out (by kernel_rfl) (by kernel_rfl) ?_
        repeat (go_big_quiet_step (fail))
        refine wpQuiet_nil ?_
        rintro _ ⟨⟨w2, hw2⟩, rfl⟩
        have HB2 := Lib.hid (HBB.out _ hw2)
        clear hw2 z1 z2 HD1 HD2 HBH
        go_wp2
        go_roundw
        case rel => exact ⟨k + 1, by omega, by go_num, HG.out, HB2.out⟩
        case measure => simp [intOf]; omega
      · have hne : ((k : Int) != (i : Int)) = true := by rw [bne_iff_ne]; omega
        by_cases hdd : sk / day = si / day
        · have hde : (sk / day == si / day) = true := by rw [hdd]; simp
          have HDD := Lib.hid hdd
          clear hdd
          cases hb : decide (ahead xs i k)
          · have HG : Hid (LateTo xs day i (k + 1)) := HB.out.1.next fun ha => absurd ha (of_decide_eq_false hb)
            rw [hb] at HBH
            clear hb
            go_wp2_with fail
            refine wp_region_in (fun W' => Below wr.heap.size wr W') HF.out (by kernel_rfl) (by kernel_rfl) ?_
            repeat (go_big_quiet_step (first | (with_reducible exact HD1.out _) | (with_reducible exact HD2.out _) | (with_reducible exact HBH.out _)))
            refine wpQuiet_nil ?_
            rintro _ ⟨⟨w2, hw2⟩, rfl⟩
            have HB2 := Lib.hid (HBB.out _ hw2)
            clear hw2 z1 z2 HD1 HD2 HBH
            go_wp2
            go_roundw
            case rel => exact ⟨k + 1, by omega, by go_num, HG.out, HB2.out⟩
            case measure => simp [intOf]; omega
          · have HG : Hid (latest xs day i = false) := late_no hlt (of_decide_eq_true hb) (by rw [HE.out.1, HE.out.2]; exact HDD.out)
            rw [hb] at HBH
            clear hb
            go_wp2_with fail
            refine wp_region_in (fun W' => Below wr.heap.size wr W') HF.out (by kernel_rfl) (by kernel_rfl) ?_
            repeat (go_big_quiet_step (first | (with_reducible exact HD1.out _) | (with_reducible exact HD2.out _) | (with_reducible exact HBH.out _)))
            refine wpQuiet_nil ?_
            rintro _ ⟨⟨w2, hw2⟩, rfl⟩
            have HB2 := Lib.hid (HBB.out _ hw2)
            clear hw2 z1 z2 HD1 HD2 HBH
            go_wp2
            go_ret
            exact ⟨by rw [HG.out]; rfl, HB2.out⟩
        · have hde : (sk / day == si / day) = false := by simpa using hdd
          have HG : Hid (LateTo xs day i (k + 1)) := HB.out.1.next fun ha => by rw [HE.out.1, HE.out.2]; exact hdd
          clear hdd
          go_wp2_with fail
          refine wp_region_in (fun W' => Below wr.heap.size wr W') HF.out (by kernel_rfl) (by kernel_rfl) ?_
          repeat (go_big_quiet_step (first | (with_reducible exact HD1.out _) | (with_reducible exact HD2.out _) | (with_reducible exact HBH.out _)))
          refine wpQuiet_nil ?_
          rintro _ ⟨⟨w2, hw2⟩, rfl⟩
          have HB2 := Lib.hid (HBB.out _ hw2)
          clear hw2 z1 z2 HD1 HD2 HBH
          go_wp2
          go_roundw
          case rel => exact ⟨k + 1, by omega, by go_num, HG.out, HB2.out⟩
          case measure => simp [intOf]; omega
    · obtain rfl : k = xs.length := by omega
      have hltz : ¬ (xs.length : Int) < (xs.length : Int) := by omega
      have HA := Lib.hid HB.out.1.all
      go_wp2
      go_ret
      exact ⟨by rw [HA.out]; rfl, HB.out.2⟩

end Go.Proofs.Ytfpcgancmgeagaa
