/- What the library's stable sort by a function does to a row of snapshots. Written by gen_vsort.py. -/
import Derived.Test.YtfpcgancmgeagaaVSortD
namespace Go.Proofs.Ytfpcgancmgeagaa
open Go.RowKit

/-- Where the sort stands: the world, the row, and that its elements are known. -/
def SortAtV (ss : List Sn) (g : Nat) (t : TypeId) (rest : List Value) (E : World → Prop) (N : Nat) (w w' : World) (ys : List Int) : Prop :=
  SortsV ss g t rest E w w' ys ∧ ys.length = N ∧ ∀ z ∈ ys, InV ss z

set_option maxHeartbeats 2000000 in
set_option maxRecDepth 100000 in
theorem stableCmpV (fn : FuncId) (cap : Array Value) (cf : Int → Int → Int) (ss : List Sn) (hok : ∀ s ∈ ss, s.ok) (g : Nat) (E : World → Prop) (hcmp : CmpOkV fn cap cf ss g E) (t : TypeId) (rest : List Value) (xs : List Int) (c N : Nat) (w : World)
    (hE : E w) (hD : ∀ x ∈ xs, InV ss x) (hd : DatV ss w g t rest xs) (hN : xs.length = N) (hn : N ≤ 1073741824) :
    Calls Try.prog 76 #[.slice (some ⟨g, 0, none⟩) N c, .int .i64 N, .func (.func fn) #[] cap] w fun e w' =>
      e = .returned (.tuple #[]) ∧ SortsV ss g t rest E w w' (stable cf xs) := by
  have HC := Lib.hid hcmp
  have H0 : Hid (SortAtV ss g t rest E N w w xs) := ⟨⟨Mod.refl _ _, hd, hE⟩, hN, hD⟩
  have HNN := Lib.hid hN
  have HSY : Hid (∀ (W : World) (l : List Int) (a m b : Nat), SortAtV ss g t rest E N w W l → a < m → m < b → b ≤ N → Calls Try.prog 113 #[.slice (some ⟨g, 0, none⟩) N c, .int .i64 a, .int .i64 m, .int .i64 b, .func (.func fn) #[] cap] W fun e w' =>
      e = .returned (.tuple #[]) ∧ Hid (SortAtV ss g t rest E N w w' (symm cf N a m b l))) := fun W l a m b h h1 h2 h3 =>
    (symm_doesV fn cap cf ss hok g E hcmp t rest N c hn N l a m b W h.1.2.2 h.2.2 h.1.2.1 h.2.1 h1 h2 h3 (by omega)).mono fun e w' r => ⟨r.1, h.1.trans r.2, by rw [symm_length]; exact h.2.1, fun z hz => h.2.2 z (mem_symm cf N a m b l h1 h2 (by rw [h.2.1]; exact h3) z hz)⟩
  have HIN : Hid (∀ (W : World) (l : List Int) (a b : Nat), SortAtV ss g t rest E N w W l → a ≤ b → b ≤ N → Calls Try.prog 112 #[.slice (some ⟨g, 0, none⟩) N c, .int .i64 a, .int .i64 b, .func (.func fn) #[] cap] W fun e w' =>
      e = .returned (.tuple #[]) ∧ Hid (SortAtV ss g t rest E N w w' (ins cf a b l))) := fun W l a b h h1 h2 => by
    have := insertionV fn cap cf ss hok g E hcmp t rest l c a b W h.1.2.2 h.2.2 h.1.2.1 h1 (by rw [h.2.1]; exact h2) (by rw [h.2.1]; exact hn)
    rw [h.2.1] at this
    exact this.mono fun e w' r => ⟨r.1, h.1.trans ⟨r.2.1, r.2.2, hcmp.keeps _ _ h.1.2.2 r.2.1⟩, by rw [ins_length]; exact h.2.1, fun z hz => h.2.2 z (mem_ins cf a b l (by rw [h.2.1]; exact h2) z hz)⟩
  clear hcmp hE hd hD hN hok
  go_enter Try.func76, Try.ntmps76
  go_wp2_with fail
  go_loopg [7, 8] N (fun g1 va vb wr => ∃ (a : Nat) (l : List Int), va = .int .i64 a ∧ vb = .int .i64 ((a : Int) + 20) ∧ a ≤ N ∧ N - a ≤ g1 ∧ Hid (SortAtV ss g t rest E N w wr l) ∧ Hid (st1 cf N a l = st1 cf N 0 xs))
  case atStart => exact ⟨0, xs, by go_num, by go_num, by omega, by omega, H0, rfl⟩
  case round =>
    clear H0
    obtain ⟨a, l, rfl, rfl, haN, hg1, HS, HO⟩ := hrel
    by_cases hlt : a + 20 ≤ N
    · have hltz : (a : Int) + 20 ≤ (N : Int) := by omega
      have HCALL := HIN.out wr l a (a + 20) HS.out (by omega) hlt
      rw [show ((a + 20 : Nat) : Int) = (a : Int) + 20 from by omega] at HCALL
      have HCALL := Lib.hid HCALL
      have HR : Hid (st1 cf N (a + 20) (ins cf a (a + 20) l) = st1 cf N 0 xs) := by rw [← HO.out, st1.eq_1 cf N a l, dif_pos hlt]; exact rfl
      clear HS HO
      go_wp2_with fail
      refine HCALL.out.mono ?_
      rintro _ w1 ⟨rfl, HS1⟩
      clear HCALL
      go_wp2
      go_roundg (N - (a + 20))
      case measure => omega
      case rel => exact ⟨a + 20, ins cf a (a + 20) l, by go_num, by go_num, by omega, by omega, HS1, HR⟩
    · have hltz : ¬ (a : Int) + 20 ≤ (N : Int) := by omega
      have HCALL := Lib.hid (HIN.out wr l a N HS.out (by omega) (Nat.le_refl _))
      have HR : Hid (ins cf a N l = st1 cf N 0 xs) := by rw [← HO.out, st1.eq_1 cf N a l, dif_neg hlt]; exact rfl
      clear HS HO
      go_wp2_with fail
      refine HCALL.out.mono ?_
      rintro _ w1 ⟨rfl, HS1⟩
      clear HCALL
      have HS2 : Hid (SortAtV ss g t rest E N w w1 (st1 cf N 0 xs)) := by rw [← HR.out]; exact HS1
      clear HS1 HR
      go_wp2_with fail
      go_loopg [6, 7, 8, 9] N (fun g1 vs _ _ _ wr => ∃ (bs : Nat) (l : List Int), vs = .int .i64 bs ∧ 20 ≤ bs ∧ bs ≤ 2147483648 ∧ N - bs ≤ g1 ∧ Hid (SortAtV ss g t rest E N w wr l) ∧ Hid (st2 cf N bs l = st2 cf N 20 (st1 cf N 0 xs)))
      case atStart => exact ⟨20, _, by go_num, by omega, by omega, by omega, HS2, rfl⟩
      case round =>
        clear HS2
        obtain ⟨bs, l2, rfl, hbs, hbs2, hg2, HS, HO⟩ := hrel
        by_cases hlt2 : bs < N
        · have hltz2 : (bs : Int) < (N : Int) := by omega
          have HR : Hid (st2 cf N (2 * bs) (st2in cf N bs 0 l2) = st2 cf N 20 (st1 cf N 0 xs)) := by rw [← HO.out, st2.eq_1 cf N bs l2, dif_pos ⟨by omega, hlt2⟩]; exact rfl
          clear HO
          go_wp2_with fail
          go_loopg [7, 8] N (fun g1 va vb wr => ∃ (a : Nat) (l : List Int), va = .int .i64 a ∧ vb = .int .i64 ((a : Int) + 2 * (bs : Int)) ∧ a ≤ N ∧ N - a ≤ g1 ∧ Hid (SortAtV ss g t rest E N w wr l) ∧ Hid (st2in cf N bs a l = st2in cf N bs 0 l2))
          case atStart => exact ⟨0, l2, by go_num, by go_num, by omega, by omega, HS, rfl⟩
          case round =>
            clear HS
            obtain ⟨a, l3, rfl, rfl, haN, hg3, HS, HO⟩ := hrel
            by_cases hlt3 : a + 2 * bs ≤ N
            · have hltz3 : (a : Int) + 2 * (bs : Int) ≤ (N : Int) := by omega
              have HCALL := HSY.out wr l3 a (a + bs) (a + 2 * bs) HS.out (by omega) (by omega) hlt3
              rw [show ((a + 2 * bs : Nat) : Int) = (a : Int) + 2 * (bs : Int) from by omega, show ((a + bs : Nat) : Int) = (a : Int) + (bs : Int) from by omega] at HCALL
              have HCALL := Lib.hid HCALL
              have HR2 : Hid (st2in cf N bs (a + 2 * bs) (symm cf N a (a + bs) (a + 2 * bs) l3) = st2in cf N bs 0 l2) := by rw [← HO.out, st2in.eq_1 cf N bs a l3, dif_pos ⟨by omega, hlt3⟩]; exact rfl
              clear HS HO
              go_wp2_with fail
              refine HCALL.out.mono ?_
              rintro _ w2 ⟨rfl, HS1⟩
              clear HCALL
              go_wp2
              go_roundg (N - (a + 2 * bs))
              case measure => omega
              case rel => exact ⟨a + 2 * bs, _, by go_num, by go_num, by omega, by omega, HS1, HR2⟩
            · have hltz3 : ¬ (a : Int) + 2 * (bs : Int) ≤ (N : Int) := by omega
              by_cases hlt4 : a + bs < N
              · have hltz4 : (a : Int) + (bs : Int) < (N : Int) := by omega
                have HCALL := HSY.out wr l3 a (a + bs) N HS.out (by omega) (by omega) (Nat.le_refl _)
                rw [show ((a + bs : Nat) : Int) = (a : Int) + (bs : Int) from by omega] at HCALL
                have HCALL := Lib.hid HCALL
                have HR2 : Hid (symm cf N a (a + bs) N l3 = st2in cf N bs 0 l2) := by rw [← HO.out, st2in.eq_1 cf N bs a l3, dif_neg (by omega), if_pos hlt4]; exact rfl
                clear HS HO
                go_wp2_with fail
                refine HCALL.out.mono ?_
                rintro _ w2 ⟨rfl, HS1⟩
                clear HCALL
                have HS2 : Hid (SortAtV ss g t rest E N w w2 (st2in cf N bs 0 l2)) := by rw [← HR2.out]; exact HS1
                clear HS1 HR2
                go_wp2
                go_roundg (N - 2 * bs)
                case measure => omega
                case rel => exact ⟨2 * bs, _, by go_num, by omega, by omega, by omega, HS2, HR⟩
              · have hltz4 : ¬ (a : Int) + (bs : Int) < (N : Int) := by omega
                have HR2 : Hid (l3 = st2in cf N bs 0 l2) := by rw [← HO.out, st2in.eq_1 cf N bs a l3, dif_neg (by omega), if_neg hlt4]; exact rfl
                have HS2 : Hid (SortAtV ss g t rest E N w wr (st2in cf N bs 0 l2)) := by rw [← HR2.out]; exact HS
                clear HS HO HR2
                go_wp2
                go_roundg (N - 2 * bs)
                case measure => omega
                case rel => exact ⟨2 * bs, _, by go_num, by omega, by omega, by omega, HS2, HR⟩
        · have hltz2 : ¬ (bs : Int) < (N : Int) := by omega
          have HN : Hid (SortsV ss g t rest E w wr (stable cf xs)) := by
            have e : stable cf xs = l2 := by unfold stable; rw [HNN.out, ← HO.out, st2.eq_1, dif_neg (by omega)]
            rw [e]; exact HS.out.1
          clear HS HO
          go_wp2
          go_end0
          exact ⟨rfl, HN.out⟩

theorem sortStableV (fn : FuncId) (cap : Array Value) (cf : Int → Int → Int) (ss : List Sn) (hok : ∀ s ∈ ss, s.ok) (g : Nat) (E : World → Prop) (hcmp : CmpOkV fn cap cf ss g E) (t : TypeId) (rest : List Value) (xs : List Int) (c N : Nat) (w : World)
    (hE : E w) (hD : ∀ x ∈ xs, InV ss x) (hd : DatV ss w g t rest xs) (hN : xs.length = N) (hn : N ≤ 1073741824) :
    Calls Try.prog 48 #[.slice (some ⟨g, 0, none⟩) N c, .func (.func fn) #[] cap] w fun e w' =>
      e = .returned (.tuple #[]) ∧ SortsV ss g t rest E w w' (stable cf xs) := by
  have HCALL := Lib.hid (stableCmpV fn cap cf ss hok g E hcmp t rest xs c N w hE hD hd hN hn)
  clear hcmp hE hd hD hN hok
  go_enter Try.func48, Try.ntmps48
  go_wp2_with fail
  refine HCALL.out.mono ?_
  rintro _ w1 ⟨rfl, hs⟩
  have HS := Lib.hid hs
  clear hs HCALL
  go_wp2
  go_end0
  exact ⟨rfl, HS.out⟩

end Go.Proofs.Ytfpcgancmgeagaa
