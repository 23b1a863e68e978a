/- What the library's stable sort by a function does to a row of whole numbers. -/
import Derived.Test.YtfpcgancmgeagaaSortD
namespace Go.Proofs.Ytfpcgancmgeagaa
open Go.RowKit

def st1 (cf : Int → Int → Int) (n a : Nat) (l : List Int) : List Int := if _h : a + 20 ≤ n then st1 cf n (a + 20) (ins cf a (a + 20) l) else ins cf a n l
termination_by n - a
def st2in (cf : Int → Int → Int) (n bs a : Nat) (l : List Int) : List Int :=
  if _h : 0 < bs ∧ a + 2 * bs ≤ n then st2in cf n bs (a + 2 * bs) (symm cf n a (a + bs) (a + 2 * bs) l) else if a + bs < n then symm cf n a (a + bs) n l else l
termination_by n - a
def st2 (cf : Int → Int → Int) (n bs : Nat) (l : List Int) : List Int := if _h : 0 < bs ∧ bs < n then st2 cf n (2 * bs) (st2in cf n bs 0 l) else l
termination_by n - bs
def stable (cf : Int → Int → Int) (l : List Int) : List Int := st2 cf l.length 20 (st1 cf l.length 0 l)

theorem insInner_length (cf : Int → Int → Int) (a : Nat) : ∀ (j : Nat) (l : List Int), (insInner cf a j l).length = l.length
  | 0, _ => rfl
  | j + 1, l => by
    rw [insInner]; split
    · rw [insInner_length cf a j, swp_length]
    · rfl
theorem insOuter_length (cf : Int → Int → Int) (a : Nat) : ∀ (i n : Nat) (l : List Int), (insOuter cf a i n l).length = l.length
  | _, 0, _ => rfl
  | i, n + 1, l => by rw [insOuter, insOuter_length cf a, insInner_length]
theorem ins_length (cf : Int → Int → Int) (a b : Nat) (l : List Int) : (ins cf a b l).length = l.length := insOuter_length _ _ _ _ _
theorem mem_insInner (cf : Int → Int → Int) (a : Nat) : ∀ (j : Nat) (l : List Int), j < l.length → ∀ z ∈ insInner cf a j l, z ∈ l
  | 0, _, _, _, h => h
  | j + 1, l, hj, z, h => by
    rw [insInner] at h; split at h
    · exact mem_swp l _ _ (by omega) (by omega) (mem_insInner cf a j _ (by rw [swp_length]; omega) z h)
    · exact h
theorem mem_insOuter (cf : Int → Int → Int) (a : Nat) : ∀ (i n : Nat) (l : List Int), i + n ≤ l.length → ∀ z ∈ insOuter cf a i n l, z ∈ l
  | _, 0, _, _, _, h => h
  | i, n + 1, l, hl, z, h => mem_insInner cf a i l (by omega) z (mem_insOuter cf a (i + 1) n _ (by rw [insInner_length]; omega) z h)
theorem mem_ins (cf : Int → Int → Int) (a b : Nat) (l : List Int) (hb : b ≤ l.length) : ∀ z ∈ ins cf a b l, z ∈ l := by
  intro z h
  by_cases hab : a + 1 ≤ b
  · exact mem_insOuter cf a _ _ l (by omega) z h
  · unfold ins at h
    rw [show b - (a + 1) = 0 from by omega] at h
    exact h

/-- Where the sort stands: the world, the row, and that its elements are known. -/
def SortAt (D : Int → Prop) (g : Nat) (t : TypeId) (rest : List Value) (E : World → Prop) (N : Nat) (w w' : World) (ys : List Int) : Prop :=
  Sorts g t rest E w w' ys ∧ ys.length = N ∧ ∀ z ∈ ys, D z

set_option maxHeartbeats 2000000 in
set_option maxRecDepth 100000 in
theorem stableCmp (fn : FuncId) (cap : Array Value) (cf : Int → Int → Int) (D : Int → Prop) (g : Nat) (E : World → Prop) (hcmp : CmpOk fn cap cf D g E) (t : TypeId) (rest : List Value) (xs : List Int) (c N : Nat) (w : World)
    (hE : E w) (hD : ∀ x ∈ xs, D x) (hd : Dat w g t rest xs) (hN : xs.length = N) (hn : N ≤ 1073741824) :
    Calls Try.prog 99 #[.slice (some ⟨g, 0, none⟩) N c, .int .i64 N, .func (.func fn) #[] cap] w fun e w' =>
      e = .returned (.tuple #[]) ∧ Sorts g t rest E w w' (stable cf xs) := by
  have HC := Lib.hid hcmp
  have H0 : Hid (SortAt D g t rest E N w w xs) := ⟨⟨Mod.refl _ _, hd, hE⟩, hN, hD⟩
  have HNN := Lib.hid hN
  have HSY : Hid (∀ (W : World) (l : List Int) (a m b : Nat), SortAt D g t rest E N w W l → a < m → m < b → b ≤ N → Calls Try.prog 133 #[.slice (some ⟨g, 0, none⟩) N c, .int .i64 a, .int .i64 m, .int .i64 b, .func (.func fn) #[] cap] W fun e w' =>
      e = .returned (.tuple #[]) ∧ Hid (SortAt D g t rest E N w w' (symm cf N a m b l))) := fun W l a m b h h1 h2 h3 =>
    (symm_does fn cap cf D g E hcmp t rest N c hn N l a m b W h.1.2.2 h.2.2 h.1.2.1 h.2.1 h1 h2 h3 (by omega)).mono fun e w' r => ⟨r.1, h.1.trans r.2, by rw [symm_length]; exact h.2.1, fun z hz => h.2.2 z (mem_symm cf N a m b l h1 h2 (by rw [h.2.1]; exact h3) z hz)⟩
  have HIN : Hid (∀ (W : World) (l : List Int) (a b : Nat), SortAt D g t rest E N w W l → a ≤ b → b ≤ N → Calls Try.prog 132 #[.slice (some ⟨g, 0, none⟩) N c, .int .i64 a, .int .i64 b, .func (.func fn) #[] cap] W fun e w' =>
      e = .returned (.tuple #[]) ∧ Hid (SortAt D g t rest E N w w' (ins cf a b l))) := fun W l a b h h1 h2 => by
    have := insertion fn cap cf D g E hcmp t rest l c a b W h.1.2.2 h.2.2 h.1.2.1 h1 (by rw [h.2.1]; exact h2) (by rw [h.2.1]; exact hn)
    rw [h.2.1] at this
    exact this.mono fun e w' r => ⟨r.1, h.1.trans ⟨r.2.1, r.2.2, hcmp.keeps _ _ h.1.2.2 r.2.1⟩, by rw [ins_length]; exact h.2.1, fun z hz => h.2.2 z (mem_ins cf a b l (by rw [h.2.1]; exact h2) z hz)⟩
  clear hcmp hE hd hD hN
  go_enter Try.func99, Try.ntmps99
  go_wp2_with fail
  go_loopg [7, 8] N (fun g1 va vb wr => ∃ (a : Nat) (l : List Int), va = .int .i64 a ∧ vb = .int .i64 ((a : Int) + 20) ∧ a ≤ N ∧ N - a ≤ g1 ∧ Hid (SortAt D g t rest E N w wr l) ∧ Hid (st1 cf N a l = st1 cf N 0 xs))
  case atStart => exact ⟨0, xs, by go_num, by go_num, by omega, by omega, H0, rfl⟩
  case round =>
    clear H0
    obtain ⟨a, l, rfl, rfl, haN, hg1, HS, HO⟩ := hrel
    by_cases hlt : a + 20 ≤ N
    · have hltz : (a : Int) + 20 ≤ (N : Int) := by omega
      have HCALL := HIN.out wr l a (a + 20) HS.out (by omega) hlt
      rw [show ((a + 20 : Nat) : Int) = (a : Int) + 20 from by omega] at HCALL
      have HCALL := Lib.hid HCALL
      have HR : Hid (st1 cf N (a + 20) (ins cf a (a + 20) l) = st1 cf N 0 xs) := by rw [← HO.out, st1.eq_1 cf N a l, dif_pos hlt]; exact rfl
      clear HS HO
      go_wp2_with fail
      refine HCALL.out.mono ?_
      rintro _ w1 ⟨rfl, HS1⟩
      clear HCALL
      go_wp2
      go_roundg (N - (a + 20))
      case measure => omega
      case rel => exact ⟨a + 20, ins cf a (a + 20) l, by go_num, by go_num, by omega, by omega, HS1, HR⟩
    · have hltz : ¬ (a : Int) + 20 ≤ (N : Int) := by omega
      have HCALL := Lib.hid (HIN.out wr l a N HS.out (by omega) (Nat.le_refl _))
      have HR : Hid (ins cf a N l = st1 cf N 0 xs) := by rw [← HO.out, st1.eq_1 cf N a l, dif_neg hlt]; exact rfl
      clear HS HO
      go_wp2_with fail
      refine HCALL.out.mono ?_
      rintro _ w1 ⟨rfl, HS1⟩
      clear HCALL
      have HS2 : Hid (SortAt D g t rest E N w w1 (st1 cf N 0 xs)) := by rw [← HR.out]; exact HS1
      clear HS1 HR
      go_wp2_with fail
      go_loopg [6, 7, 8, 9] N (fun g1 vs _ _ _ wr => ∃ (bs : Nat) (l : List Int), vs = .int .i64 bs ∧ 20 ≤ bs ∧ bs ≤ 2147483648 ∧ N - bs ≤ g1 ∧ Hid (SortAt D g t rest E N w wr l) ∧ Hid (st2 cf N bs l = st2 cf N 20 (st1 cf N 0 xs)))
      case atStart => exact ⟨20, _, by go_num, by omega, by omega, by omega, HS2, rfl⟩
      case round =>
        clear HS2
        obtain ⟨bs, l2, rfl, hbs, hbs2, hg2, HS, HO⟩ := hrel
        by_cases hlt2 : bs < N
        · have hltz2 : (bs : Int) < (N : Int) := by omega
          have HR : Hid (st2 cf N (2 * bs) (st2in cf N bs 0 l2) = st2 cf N 20 (st1 cf N 0 xs)) := by rw [← HO.out, st2.eq_1 cf N bs l2, dif_pos ⟨by omega, hlt2⟩]; exact rfl
          clear HO
          go_wp2_with fail
          go_loopg [7, 8] N (fun g1 va vb wr => ∃ (a : Nat) (l : List Int), va = .int .i64 a ∧ vb = .int .i64 ((a : Int) + 2 * (bs : Int)) ∧ a ≤ N ∧ N - a ≤ g1 ∧ Hid (SortAt D g t rest E N w wr l) ∧ Hid (st2in cf N bs a l = st2in cf N bs 0 l2))
          case atStart => exact ⟨0, l2, by go_num, by go_num, by omega, by omega, HS, rfl⟩
          case round =>
            clear HS
            obtain ⟨a, l3, rfl, rfl, haN, hg3, HS, HO⟩ := hrel
            by_cases hlt3 : a + 2 * bs ≤ N
            · have hltz3 : (a : Int) + 2 * (bs : Int) ≤ (N : Int) := by omega
              have HCALL := HSY.out wr l3 a (a + bs) (a + 2 * bs) HS.out (by omega) (by omega) hlt3
              rw [show ((a + 2 * bs : Nat) : Int) = (a : Int) + 2 * (bs : Int) from by omega, show ((a + bs : Nat) : Int) = (a : Int) + (bs : Int) from by omega] at HCALL
              have HCALL := Lib.hid HCALL
              have HR2 : Hid (st2in cf N bs (a + 2 * bs) (symm cf N a (a + bs) (a + 2 * bs) l3) = st2in cf N bs 0 l2) := by rw [← HO.out, st2in.eq_1 cf N bs a l3, dif_pos ⟨by omega, hlt3⟩]; exact rfl
              clear HS HO
              go_wp2_with fail
              refine HCALL.out.mono ?_
              rintro _ w2 ⟨rfl, HS1⟩
              clear HCALL
              go_wp2
              go_roundg (N - (a + 2 * bs))
              case measure => omega
              case rel => exact ⟨a + 2 * bs, _, by go_num, by go_num, by omega, by omega, HS1, HR2⟩
            · have hltz3 : ¬ (a : Int) + 2 * (bs : Int) ≤ (N : Int) := by omega
              by_cases hlt4 : a + bs < N
              · have hltz4 : (a : Int) + (bs : Int) < (N : Int) := by omega
                have HCALL := HSY.out wr l3 a (a + bs) N HS.out (by omega) (by omega) (Nat.le_refl _)
                rw [show ((a + bs : Nat) : Int) = (a : Int) + (bs : Int) from by omega] at HCALL
                have HCALL := Lib.hid HCALL
                have HR2 : Hid (symm cf N a (a + bs) N l3 = st2in cf N bs 0 l2) := by rw [← HO.out, st2in.eq_1 cf N bs a l3, dif_neg (by omega), if_pos hlt4]; exact rfl
                clear HS HO
                go_wp2_with fail
                refine HCALL.out.mono ?_
                rintro _ w2 ⟨rfl, HS1⟩
                clear HCALL
                have HS2 : Hid (SortAt D g t rest E N w w2 (st2in cf N bs 0 l2)) := by rw [← HR2.out]; exact HS1
                clear HS1 HR2
                go_wp2
                go_roundg (N - 2 * bs)
                case measure => omega
                case rel => exact ⟨2 * bs, _, by go_num, by omega, by omega, by omega, HS2, HR⟩
              · have hltz4 : ¬ (a : Int) + (bs : Int) < (N : Int) := by omega
                have HR2 : Hid (l3 = st2in cf N bs 0 l2) := by rw [← HO.out, st2in.eq_1 cf N bs a l3, dif_neg (by omega), if_neg hlt4]; exact rfl
                have HS2 : Hid (SortAt D g t rest E N w wr (st2in cf N bs 0 l2)) := by rw [← HR2.out]; exact HS
                clear HS HO HR2
                go_wp2
                go_roundg (N - 2 * bs)
                case measure => omega
                case rel => exact ⟨2 * bs, _, by go_num, by omega, by omega, by omega, HS2, HR⟩
        · have hltz2 : ¬ (bs : Int) < (N : Int) := by omega
          have HN : Hid (Sorts g t rest E w wr (stable cf xs)) := by
            have e : stable cf xs = l2 := by unfold stable; rw [HNN.out, ← HO.out, st2.eq_1, dif_neg (by omega)]
            rw [e]; exact HS.out.1
          clear HS HO
          go_wp2
          go_end0
          exact ⟨rfl, HN.out⟩

theorem sortStable (fn : FuncId) (cap : Array Value) (cf : Int → Int → Int) (D : Int → Prop) (g : Nat) (E : World → Prop) (hcmp : CmpOk fn cap cf D g E) (t : TypeId) (rest : List Value) (xs : List Int) (c N : Nat) (w : World)
    (hE : E w) (hD : ∀ x ∈ xs, D x) (hd : Dat w g t rest xs) (hN : xs.length = N) (hn : N ≤ 1073741824) :
    Calls Try.prog 68 #[.slice (some ⟨g, 0, none⟩) N c, .func (.func fn) #[] cap] w fun e w' =>
      e = .returned (.tuple #[]) ∧ Sorts g t rest E w w' (stable cf xs) := by
  have HCALL := Lib.hid (stableCmp fn cap cf D g E hcmp t rest xs c N w hE hD hd hN hn)
  clear hcmp hE hd hD hN
  go_enter Try.func68, Try.ntmps68
  go_wp2_with fail
  refine HCALL.out.mono ?_
  rintro _ w1 ⟨rfl, hs⟩
  have HS := Lib.hid hs
  clear hs HCALL
  go_wp2
  go_end0
  exact ⟨rfl, HS.out⟩

/-! a row of no element: whatever the slice -/
set_option maxRecDepth 100000 in
theorem insertion_zero (v f : Value) (w : World) : Calls Try.prog 132 #[v, .int .i64 0, .int .i64 0, f] w fun e w' => e = .returned (.tuple #[]) ∧ w = w' := by
  go_enter Try.func132, Try.ntmps132
  go_wp2_with fail
  go_loop [8] (fun i => i = .int .i64 1) (fun _ => 0)
  case atStart => exact rfl
  case round =>
    obtain rfl := hrel
    go_wp2
    go_end0
    exact ⟨rfl, rfl⟩

set_option maxRecDepth 100000 in
theorem stableCmp_zero (v f : Value) (w : World) : Calls Try.prog 99 #[v, .int .i64 0, f] w fun e w' => e = .returned (.tuple #[]) ∧ w = w' := by
  go_enter Try.func99, Try.ntmps99
  go_wp2_with fail
  go_loop [7, 8] (fun a b => a = .int .i64 0 ∧ b = .int .i64 20) (fun _ _ => 0)
  case atStart => exact ⟨rfl, rfl⟩
  case round =>
    obtain ⟨rfl, rfl⟩ := hrel
    go_wp2_with fail
    refine (insertion_zero _ _ _).mono ?_
    rintro e w' ⟨rfl, rfl⟩
    go_wp2_with fail
    go_loop [6] (fun a => a = .int .i64 20) (fun _ => 0)
    case atStart => exact rfl
    case round =>
      obtain rfl := hrel
      go_wp2
      go_end0
      exact ⟨rfl, rfl⟩

theorem sortStable_zero (A : Option Addr) (c : Nat) (f : Value) (w : World) : Calls Try.prog 68 #[.slice A 0 c, f] w fun e w' => e = .returned (.tuple #[]) ∧ w = w' := by
  go_enter Try.func68, Try.ntmps68
  go_wp2_with fail
  refine (stableCmp_zero _ _ _).mono ?_
  rintro e w' ⟨rfl, rfl⟩
  go_wp2
  go_end0
  exact ⟨rfl, rfl⟩

end Go.Proofs.Ytfpcgancmgeagaa
