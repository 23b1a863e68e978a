/- What the library's rotate and the merge of its stable sort do to the row. -/
import Derived.Test.YtfpcgancmgeagaaSort
namespace Go.Proofs.Ytfpcgancmgeagaa
open Go.RowKit

set_option maxHeartbeats 1000000 in
set_option maxRecDepth 100000 in
theorem rotate (g : Nat) (E : World → Prop) (hk : ∀ w w', E w → Mod (· = g) w w' → E w') (t : TypeId) (rest : List Value) (f : Value) (xs : List Int) (c a m b : Nat) (w : World)
    (hE : E w) (hd : Dat w g t rest xs) (ha : a < m) (hb : m < b) (hl : b ≤ xs.length) (hn : xs.length ≤ 1073741824) :
    Calls Try.prog 148 #[.slice (some ⟨g, 0, none⟩) xs.length c, .int .i64 a, .int .i64 m, .int .i64 b, f] w fun e w' =>
      e = .returned (.tuple #[]) ∧ Sorts g t rest E w w' (rot m (m - a) (b - m) xs) := by
  have HK := Lib.hid hk
  have H0 : Hid (Sorts g t rest E w w xs) := ⟨Mod.refl _ _, hd, hE⟩
  clear hE hd hk
  go_enter Try.func148, Try.ntmps148
  go_wp2_with fail
  go_loopg [10, 11] (b - a) (fun g1 vi vj wr => ∃ (i j : Nat) (xi : List Int), vi = .int .i64 i ∧ vj = .int .i64 j ∧ 0 < i ∧ i ≤ m ∧ 0 < j ∧ m + j ≤ xs.length ∧ i + j ≤ g1 ∧ xi.length = xs.length ∧ Hid (Sorts g t rest E w wr xi) ∧ Hid (rot m i j xi = rot m (m - a) (b - m) xs))
  case atStart => exact ⟨m - a, b - m, xs, by go_num, by go_num, by omega, by omega, by omega, by omega, by omega, rfl, H0, rfl⟩
  case round =>
    clear H0
    obtain ⟨i, j, xi, rfl, rfl, hi0, him, hj0, hmj, hg1, hsk, HS, HO⟩ := hrel
    have q1 : IntKind.i64.wrap ((m : Int) - (i : Int)) = ((m - i : Nat) : Int) := by rw [IntKind.wrap_i64]; omega
    by_cases hne : i = j
    · subst hne
      have hcall := swapRange g E HK.out t rest f xi c (m - i) m i wr HS.out.2.2 HS.out.2.1 (by omega) (by omega) (by omega)
      rw [hsk] at hcall
      have HC := Lib.hid hcall
      have HE' : Hid (∀ w', Sorts g t rest E wr w' (swapR (m - i) m 0 i xi) → Sorts g t rest E w w' (rot m (m - a) (b - m) xs)) := fun w' h => by rw [← HO.out, rot_eq m i xi hi0]; exact HS.out.trans h
      clear hcall HS HO
      go_wp2_with fail
      refine HC.out.mono ?_
      rintro e w' ⟨rfl, hs⟩
      have HN := Lib.hid (HE'.out w' hs)
      clear hs HE' HC
      go_wp2
      go_end0
      exact ⟨rfl, HN.out⟩
    · have hnb : ((i : Int) == (j : Int)) = false := by simp; omega
      have hnb' : ((i : Int) != (j : Int)) = true := by simp; omega
      by_cases hgt : j < i
      · have hcall := swapRange g E HK.out t rest f xi c (m - i) m j wr HS.out.2.2 HS.out.2.1 (by omega) (by omega) (by omega)
        rw [hsk] at hcall
        have HC := Lib.hid hcall
        have HE' : Hid (∀ w', Sorts g t rest E wr w' (swapR (m - i) m 0 j xi) → Sorts g t rest E w w' (swapR (m - i) m 0 j xi)) := fun w' h => HS.out.trans h
        have HR : Hid (rot m (i - j) j (swapR (m - i) m 0 j xi) = rot m (m - a) (b - m) xs) := by rw [← HO.out, rot_gt m i j xi hj0 hgt]; exact rfl
        clear hcall HS HO
        have q2 : IntKind.i64.wrap ((i : Int) - (j : Int)) = ((i - j : Nat) : Int) := by rw [IntKind.wrap_i64]; omega
        go_wp2_with fail
        refine HC.out.mono ?_
        rintro e w' ⟨rfl, hs⟩
        have HN := Lib.hid (HE'.out w' hs)
        clear hs HE' HC
        go_wp2
        go_roundg (i - j + j)
        case measure => omega
        case rel => exact ⟨i - j, j, swapR (m - i) m 0 j xi, rfl, rfl, by omega, by omega, by omega, by omega, by omega, by rw [swapR_length]; exact hsk, HN, HR⟩
      · have hlt : i < j := by omega
        have hcall := swapRange g E HK.out t rest f xi c (m - i) (m + j - i) i wr HS.out.2.2 HS.out.2.1 (by omega) (by omega) (by omega)
        rw [hsk, show ((m + j - i : Nat) : Int) = (m : Int) + (j : Int) - (i : Int) from by omega] at hcall
        have HC := Lib.hid hcall
        have HE' : Hid (∀ w', Sorts g t rest E wr w' (swapR (m - i) (m + j - i) 0 i xi) → Sorts g t rest E w w' (swapR (m - i) (m + j - i) 0 i xi)) := fun w' h => HS.out.trans h
        have HR : Hid (rot m i (j - i) (swapR (m - i) (m + j - i) 0 i xi) = rot m (m - a) (b - m) xs) := by rw [← HO.out, rot_lt m i j xi hi0 hlt]; exact rfl
        clear hcall HS HO
        have q2 : IntKind.i64.wrap ((j : Int) - (i : Int)) = ((j - i : Nat) : Int) := by rw [IntKind.wrap_i64]; omega
        go_wp2_with fail
        refine HC.out.mono ?_
        rintro e w' ⟨rfl, hs⟩
        have HN := Lib.hid (HE'.out w' hs)
        clear hs HE' HC
        go_wp2
        go_roundg (i + (j - i))
        case measure => omega
        case rel => exact ⟨i, j - i, swapR (m - i) (m + j - i) 0 i xi, rfl, rfl, by omega, by omega, by omega, by omega, by omega, by rw [swapR_length]; exact hsk, HN, HR⟩

end Go.Proofs.Ytfpcgancmgeagaa
