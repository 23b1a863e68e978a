/- Contracts of cmp.Compare, bytes.Compare, cmp.Or and snap.compare over this translation; no conditions beyond the stated ranges. -/
import Derived.Test.YtfpcgancmgeagaaRows
import Derived.WalkKit
import Derived.WalkSpells
import Derived.WalkLawsBesides
import Derived.Lib.Hide
import Derived.Lib.Bytealg
import Derived.StillTailTactics
import Derived.Deep.QuietTactic
import Derived.BigQuiet
import Derived.Outline
import Derived.Deep.MidRow
namespace Go.Proofs.Ytfpcgancmgeagaa
open Go.RowKit

def cmpInt (a b : Int) : Int := if a < b then -1 else if b < a then 1 else 0
def cmpStr (a b : ByteArray) : Int := if Op.bytesLess a.toList b.toList then -1 else if a.toList = b.toList then 0 else 1

theorem compare_i64 (a b : Int) (w : World) : Calls Try.prog 78 #[.int .i64 a, .int .i64 b] w fun e w' => e = .returned (.int .i64 (cmpInt a b)) ∧ w = w' := by
  have h3 : b ≤ a → a ≤ b → cmpInt a b = 0 := fun x y => by unfold cmpInt; rw [if_neg (by omega), if_neg (by omega)]
  by_cases h1 : a < b
  · go_enter Try.func78, Try.ntmps78
    go_wp2
    go_ret
    exact ⟨by simp [cmpInt, h1], rfl⟩
  · by_cases h2 : b < a
    · go_enter Try.func78, Try.ntmps78
      go_wp2
      go_ret
      exact ⟨by simp [cmpInt, h1, h2], rfl⟩
    · go_enter Try.func78, Try.ntmps78
      go_wp2
      go_ret
      exact ⟨rfl, rfl⟩
theorem compare_int (a b : Int) (w : World) : Calls Try.prog 81 #[.int .i64 a, .int .i64 b] w fun e w' => e = .returned (.int .i64 (cmpInt a b)) ∧ w = w' := by
  have h3 : b ≤ a → a ≤ b → cmpInt a b = 0 := fun x y => by unfold cmpInt; rw [if_neg (by omega), if_neg (by omega)]
  by_cases h1 : a < b
  · go_enter Try.func81, Try.ntmps81
    go_wp2
    go_ret
    exact ⟨by simp [cmpInt, h1], rfl⟩
  · by_cases h2 : b < a
    · go_enter Try.func81, Try.ntmps81
      go_wp2
      go_ret
      exact ⟨by simp [cmpInt, h1, h2], rfl⟩
    · go_enter Try.func81, Try.ntmps81
      go_wp2
      go_ret
      exact ⟨rfl, rfl⟩

theorem compare_string (a b : ByteArray) (w : World) : Calls Try.prog 79 #[.string a, .string b] w fun e w' => e = .returned (.int .i64 (cmpStr a b)) ∧ w = w' := by
  go_enter Try.func79, Try.ntmps79
  go_wp2
  · go_ret
    exact ⟨by simp [cmpStr, *], rfl⟩
  · go_ret
    exact ⟨by simp_all [cmpStr], rfl⟩
  · go_ret
    exact ⟨by simp_all [cmpStr], rfl⟩

/-! bytes in memory -/
def u8s (l : List UInt8) : List Value := l.map fun b => .int .u8 (b.toNat : Int)
@[simp] theorem u8s_length (l : List UInt8) : (u8s l).length = l.length := by simp [u8s]

def BytesAt (w : World) (b o : Nat) (l : List UInt8) : Prop := w.rangeAt b o (u8s l)

theorem run_loadBytes {P : Program} (w : World) (b : Nat) (l : List UInt8) : ∀ (o : Nat) (acc : ByteArray), BytesAt w b o l →
    (Extern.Bytes.loadBytes ⟨b, o, none⟩ l.length acc).run P w = .ok ⟨(acc.data.toList ++ l).toArray⟩ w := by
  induction l with
  | nil => intro o acc _; simp [Extern.Bytes.loadBytes]
  | cons x l ih =>
    intro o acc h
    have h0 : w.cell? ⟨b, o, none⟩ = some (.int .u8 (x.toNat : Int)) := by
      have := h 0 (.int .u8 (x.toNat : Int)) (by simp [u8s]); simpa using this
    have ht : BytesAt w b (o + 1) l := fun j v hv => by
      have := h (j + 1) v (by simpa [u8s] using hv)
      rw [show o + 1 + j = o + (j + 1) from by omega]; exact this
    have hadd : (⟨b, o, none⟩ : Addr).add 1 = ⟨b, o + 1, none⟩ := by simp [Addr.add]
    simp [Extern.Bytes.loadBytes, h0, hadd, ih (o + 1) (acc.push x) ht]

theorem run_bytesCompare {P : Program} (w : World) (b1 o1 c1 b2 o2 c2 : Nat) (l1 l2 : List UInt8) (h1 : BytesAt w b1 o1 l1) (h2 : BytesAt w b2 o2 l2) :
    (Extern.BytealgCompare.compare #[.slice (some ⟨b1, o1, none⟩) l1.length c1, .slice (some ⟨b2, o2, none⟩) l2.length c2]).run P w = .ok (.int .i64 (Lib.compareBytes l1 l2)) w := by
  change Sem.run P (do pure (goInt (Extern.BytealgCompare.cmp (← Extern.Bytes.bytesOf (.slice (some ⟨b1, o1, none⟩) l1.length c1)) (← Extern.Bytes.bytesOf (.slice (some ⟨b2, o2, none⟩) l2.length c2))))) w = _
  simp only [Extern.Bytes.bytesOf, Sem.run_bind, Sem.run_pure, Result.andThen, run_loadBytes w b1 l1 o1 .empty h1, run_loadBytes w b2 l2 o2 .empty h2]
  rw [Lib.cmp_eq]
  rfl

set_option maxRecDepth 100000 in
theorem bytes_compare (w : World) (b1 o1 c1 b2 o2 c2 : Nat) (l1 l2 : List UInt8) (h1 : BytesAt w b1 o1 l1) (h2 : BytesAt w b2 o2 l2) :
    Calls Try.prog 80 #[.slice (some ⟨b1, o1, none⟩) l1.length c1, .slice (some ⟨b2, o2, none⟩) l2.length c2] w fun e w' => e = .returned (.int .i64 (Lib.compareBytes l1 l2)) ∧ w = w' := by
  go_enter Try.func80, Try.ntmps80
  go_wp2
  rw [run_callFunc_extern Try.func116 (by kernel_rfl) (by kernel_rfl) (by kernel_rfl) (e := Extern.BytealgCompare.compare) (by kernel_rfl), run_bytesCompare w b1 o1 c1 b2 o2 c2 l1 l2 h1 h2]
  simp only [Result.andThen]
  rw [Oper.upon_value]
  go_wp2
  go_ret
  exact ⟨rfl, rfl⟩

theorem bytes_compare_n (w : World) (b1 o1 c1 b2 o2 c2 : Nat) (l1 l2 : List UInt8) (n1 n2 : Nat) (e1 : l1.length = n1) (e2 : l2.length = n2) (h1 : BytesAt w b1 o1 l1) (h2 : BytesAt w b2 o2 l2) :
    Calls Try.prog 80 #[.slice (some ⟨b1, o1, none⟩) n1 c1, .slice (some ⟨b2, o2, none⟩) n2 c2] w fun e w' => e = .returned (.int .i64 (Lib.compareBytes l1 l2)) ∧ w = w' := by
  subst e1 e2
  exact bytes_compare w b1 o1 c1 b2 o2 c2 l1 l2 h1 h2

/-! cmp.Or over ints -/
def orInt : List Int → Int
  | [] => 0
  | x :: l => if x = 0 then orInt l else x

theorem getD_lt {α : Type} (l : List α) (d : α) {k : Nat} (h : k < l.length) : l.getD k d = l[k] := by simp [List.getD, List.getElem?_eq_getElem h]
theorem orInt_drop (l : List Int) (k : Nat) (h : k < l.length) (h0 : ∀ j, j < k → l.getD j 0 = 0) : orInt l = orInt (l.drop k) := by
  induction k with
  | zero => simp
  | succ k ih =>
    rw [ih (by omega) (fun j hj => h0 j (by omega)), List.drop_eq_getElem_cons (by omega : k < l.length)]
    have := h0 k (by omega)
    rw [getD_lt l 0 (by omega : k < l.length)] at this
    simp [orInt, this]
theorem orInt_at (l : List Int) (k : Nat) (h : k < l.length) (h0 : ∀ j, j < k → l.getD j 0 = 0) (hn : l.getD k 0 ≠ 0) : orInt l = l.getD k 0 := by
  rw [orInt_drop l k h h0, List.drop_eq_getElem_cons h]
  rw [getD_lt l 0 h] at hn ⊢
  simp [orInt, hn]
theorem orInt_none (l : List Int) (h0 : ∀ j, j < l.length → l.getD j 0 = 0) : orInt l = 0 := by
  induction l with
  | nil => rfl
  | cons x l ih =>
    have hx := h0 0 (by simp)
    simp at hx
    simp only [orInt, hx, if_true]
    exact ih (fun j hj => by have := h0 (j + 1) (by simpa using hj); simpa using this)

theorem cmp_or (w : World) (b o c : Nat) (l : List Int) (hl : l.length ≤ 1000) (h : w.rangeAt b o (l.map (.int .i64))) :
    Calls Try.prog 77 #[.slice (some ⟨b, o, none⟩) l.length c] w fun e w' => e = .returned (.int .i64 (orInt l)) ∧ w = w' := by
  have hcell : ∀ k, k < l.length → w.cell? ⟨b, o + k, none⟩ = some (.int .i64 (l.getD k 0)) := fun k hk => h k _ (by simp [hk])
  have H := Lib.hid hcell
  clear hcell h
  go_enter Try.func77, Try.ntmps77
  go_wp2
  go_loop [8] (fun i => ∃ k : Nat, k ≤ l.length ∧ i = .int .i64 k ∧ ∀ j, j < k → l.getD j 0 = 0) (fun i => l.length - (intOf i).toNat)
  case atStart => exact ⟨0, Nat.zero_le _, rfl, fun _ h => absurd h (by omega)⟩
  case round =>
    obtain ⟨k, hk, rfl, hz⟩ := hrel
    have HZ := Lib.hid hz
    clear hz
    by_cases hlt : k < l.length
    · have hc := H.out k hlt
      by_cases hn : l.getD k 0 = 0
      · rw [hn] at hc
        have HN := Lib.hid hn
        clear hn
        go_wp2
        go_round
        case rel => exact ⟨k + 1, by omega, by go_num, fun j hj => by
          by_cases e : j = k
          · rw [e]; exact HN.out
          · exact HZ.out j (by omega)⟩
        case measure => simp [intOf]; omega
      · have HA := Lib.hid (orInt_at l k hlt HZ.out hn)
        generalize l.getD k 0 = x at *
        have hx : (x == 0) = false := by simpa using hn
        go_wp2
        go_ret
        exact ⟨by rw [HA.out]; rfl, rfl⟩
    · have HA := Lib.hid (orInt_none l (fun j hj => HZ.out j (by omega)))
      go_wp2
      go_ret
      exact ⟨by rw [HA.out]; rfl, rfl⟩

theorem cmp_or_n (w : World) (b o c : Nat) (l : List Int) (n : Nat) (hn : l.length = n) (hl : n ≤ 1000) (h : w.rangeAt b o (l.map (.int .i64))) :
    Calls Try.prog 77 #[.slice (some ⟨b, o, none⟩) n c] w fun e w' => e = .returned (.int .i64 (orInt l)) ∧ w = w' := by
  subst hn
  exact cmp_or w b o c l hl h

theorem rangeAt_new (w : World) (cs : List Value) (t : TypeId) : (w.alloc (.cells cs.toArray t)).rangeAt w.heap.size 0 cs := fun j v hv => by
  have := cell_of_row (w.alloc (.cells cs.toArray t)) w.heap.size j cs.toArray t (0, 0) (heap_alloc_new w _)
  rw [Nat.zero_add, this]
  simpa using hv

end Go.Proofs.Ytfpcgancmgeagaa
