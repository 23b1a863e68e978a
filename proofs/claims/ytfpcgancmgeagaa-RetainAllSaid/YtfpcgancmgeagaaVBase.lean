/- A row of snapshots that is sorted: told by the numbers that they have in a list that stands still. -/
import Derived.Test.YtfpcgancmgeagaaRefI
import Derived.Test.YtfpcgancmgeagaaSortE
namespace Go.Proofs.Ytfpcgancmgeagaa
open Go.RowKit

theorem Mod.setCells {S : Nat → Prop} {w w1 : World} (h : Mod S w w1) {b : Nat} (hb : b < w.heap.size → S b) : ∀ (vs : List Value) (o : Nat), Mod S w (w1.setCells b o vs)
  | [], _ => h
  | v :: vs, o => by
    rw [World.setCells]
    exact Mod.setCells (h.setCell (p := ⟨b, o, none⟩) hb v) hb vs (o + 1)
theorem Blk.setCells {g : Nat} {t : TypeId} : ∀ (vs : List Value) (o : Nat) {w : World} {cs : List Value}, Blk w g t cs → o + vs.length ≤ cs.length → Blk (w.setCells g o vs) g t (cs.take o ++ vs ++ cs.drop (o + vs.length))
  | [], o, w, cs, h, _ => by
    simp only [List.append_nil, List.length_nil, Nat.add_zero, List.take_append_drop]
    exact h
  | v :: vs, o, w, cs, h, hl => by
    rw [World.setCells]
    rw [List.length_cons] at hl
    have ih := Blk.setCells vs (o + 1) (h.set_ o v) (by rw [List.length_set]; omega)
    have e1 : (cs.set o v).take (o + 1) = cs.take o ++ [v] := by
      rw [List.take_add_one, List.take_set_of_le (Nat.le_refl o), List.getElem?_set_self (by omega)]
      rfl
    have e2 : (cs.set o v).drop (o + 1 + vs.length) = cs.drop (o + (v :: vs).length) := by
      rw [List.drop_set_of_lt (by omega), List.length_cons]
      congr 1
      omega
    rw [e1, e2] at ih
    rw [List.append_assoc (cs.take o) [v] vs] at ih
    exact ih

/-- The row: block g holds the snapshots of these numbers from its head on, and then the rest. -/
def DatV (ss : List Sn) (w : World) (g : Nat) (t : TypeId) (rest : List Value) (ys : List Int) : Prop := Blk w g t (ys.flatMap (fun y => (snAt ss y).cells) ++ rest)
def InV (ss : List Sn) (y : Int) : Prop := 0 ≤ y ∧ y < ss.length

section
variable {ss : List Sn} {w w' : World} {g : Nat} {t : TypeId} {rest : List Value} {ys : List Int}
theorem snAt_ok (hok : ∀ s ∈ ss, s.ok) {y : Int} (h : InV ss y) : (snAt ss y).ok := by
  refine hok _ ?_
  unfold snAt
  rw [List.getD_eq_getElem?_getD, List.getElem?_eq_getElem (by have := h.1; have := h.2; omega)]
  exact List.getElem_mem _
theorem flatV_len (hok : ∀ s ∈ ss, s.ok) : ∀ (ys : List Int), (∀ y ∈ ys, InV ss y) → (ys.flatMap (fun y => (snAt ss y).cells)).length = ys.length * 37
  | [], _ => rfl
  | y :: ys, h => by
    rw [List.flatMap_cons, List.length_append, (snAt ss y).len (snAt_ok hok (h y (List.mem_cons_self ..))), flatV_len hok ys (fun z hz => h z (List.mem_cons_of_mem _ hz)), List.length_cons]
    omega
theorem flatV_cell (hok : ∀ s ∈ ss, s.ok) : ∀ (ys : List Int), (∀ y ∈ ys, InV ss y) → ∀ i j, i < ys.length → j < 37 → (ys.flatMap (fun y => (snAt ss y).cells))[i * 37 + j]? = (snAt ss (ys.getD i 0)).cells[j]?
  | [], _, i, _, hi, _ => by simp at hi
  | y :: ys, h, 0, j, _, hj => by
    rw [List.flatMap_cons, Nat.zero_mul, Nat.zero_add, List.getElem?_append_left (by rw [(snAt ss y).len (snAt_ok hok (h y (List.mem_cons_self ..)))]; exact hj)]
    rfl
  | y :: ys, h, i + 1, j, hi, hj => by
    have hl := (snAt ss y).len (snAt_ok hok (h y (List.mem_cons_self ..)))
    rw [List.flatMap_cons, List.getElem?_append_right (by rw [hl]; omega), hl, show (i + 1) * 37 + j - 37 = i * 37 + j by omega,
      flatV_cell hok ys (fun z hz => h z (List.mem_cons_of_mem _ hz)) i j (by simpa using hi) hj]
    rfl
theorem DatV.range (h : DatV ss w g t rest ys) (hok : ∀ s ∈ ss, s.ok) (hy : ∀ y ∈ ys, InV ss y) {i : Nat} (hi : i < ys.length) : w.rangeAt g (i * 37) (snAt ss (ys.getD i 0)).cells := fun j v hv => by
  have hj : j < 37 := by
    have := (List.getElem?_eq_some_iff.1 hv).1
    rwa [(snAt ss (ys.getD i 0)).len (snAt_ok hok (hy _ (getD_mem ys i hi)))] at this
  rw [Blk.cell h, List.getElem?_append_left (by rw [flatV_len hok ys hy]; omega), flatV_cell hok ys hy i j hi hj]
  exact hv
theorem DatV.there (h : DatV ss w g t rest ys) (hok : ∀ s ∈ ss, s.ok) (hy : ∀ y ∈ ys, InV ss y) {i : Nat} (hi : i < ys.length) : w.there g (i * 37) 37 := fun j hj => by
  refine ⟨?_, Blk.frozen h _⟩
  rw [Blk.cell h, List.getElem?_append_left (by rw [flatV_len hok ys hy]; omega), List.getElem?_eq_getElem (by rw [flatV_len hok ys hy]; omega)]
  rfl
theorem flatV_set (hok : ∀ s ∈ ss, s.ok) (ys : List Int) (hy : ∀ y ∈ ys, InV ss y) (rest : List Value) (i : Nat) (hi : i < ys.length) (z : Int) (hz : InV ss z) :
    (ys.flatMap (fun y => (snAt ss y).cells) ++ rest).take (i * 37) ++ (snAt ss z).cells ++ (ys.flatMap (fun y => (snAt ss y).cells) ++ rest).drop (i * 37 + 37) = (ys.set i z).flatMap (fun y => (snAt ss y).cells) ++ rest := by
  have hs : ys = ys.take i ++ ys[i] :: ys.drop (i + 1) := by rw [← List.drop_eq_getElem_cons hi, List.take_append_drop]
  have h1 : ((ys.take i).flatMap (fun y => (snAt ss y).cells)).length = i * 37 := by
    rw [flatV_len hok _ (fun y h => hy y (List.mem_of_mem_take h)), List.length_take, Nat.min_eq_left (by omega)]
  have h2 : (snAt ss ys[i]).cells.length = 37 := (snAt ss ys[i]).len (snAt_ok hok (hy _ (List.getElem_mem hi)))
  have e : ys.flatMap (fun y => (snAt ss y).cells) = (ys.take i).flatMap (fun y => (snAt ss y).cells) ++ ((snAt ss ys[i]).cells ++ (ys.drop (i + 1)).flatMap (fun y => (snAt ss y).cells)) := by
    conv => lhs; rw [hs]
    rw [List.flatMap_append, List.flatMap_cons]
  rw [e, List.set_eq_take_append_cons_drop, if_pos hi, List.flatMap_append, List.flatMap_cons]
  generalize (ys.take i).flatMap (fun y => (snAt ss y).cells) = A at *
  generalize (ys.drop (i + 1)).flatMap (fun y => (snAt ss y).cells) = C at *
  generalize (snAt ss ys[i]).cells = B at *
  rw [List.append_assoc A, List.append_assoc B]
  have t1 : (A ++ (B ++ (C ++ rest))).take (i * 37) = A := List.take_left' h1
  have t2 : (A ++ (B ++ (C ++ rest))).drop (i * 37 + 37) = C ++ rest := by
    rw [← List.append_assoc A B]
    exact List.drop_left' (by rw [List.length_append]; omega)
  rw [t1, t2]
  simp only [List.append_assoc]
theorem set_in {ys : List Int} (hy : ∀ y ∈ ys, InV ss y) {z : Int} (hz : InV ss z) (i : Nat) : ∀ y ∈ ys.set i z, InV ss y := fun y h => (List.mem_or_eq_of_mem_set h).elim (hy y) (fun e => by rw [e]; exact hz)
theorem DatV.store (h : DatV ss w g t rest ys) (hok : ∀ s ∈ ss, s.ok) (hy : ∀ y ∈ ys, InV ss y) {i : Nat} (hi : i < ys.length) {z : Int} (hz : InV ss z) : DatV ss (w.setCells g (i * 37) (snAt ss z).cells) g t rest (ys.set i z) := by
  have hl := (snAt ss z).len (snAt_ok hok hz)
  have := Blk.setCells (snAt ss z).cells (i * 37) h (by rw [List.length_append, flatV_len hok ys hy, hl]; omega)
  rw [hl, flatV_set hok ys hy rest i hi z hz] at this
  exact this
theorem DatV.mod {S : Nat → Prop} (h : DatV ss w g t rest ys) (hm : Mod S w w') (hs : ¬ S g) : DatV ss w' g t rest ys := Blk.mod h hm hs
theorem DatV.below {B : Nat} (h : DatV ss w g t rest ys) (hb : Below B w w') (hg : g < B) : DatV ss w' g t rest ys := Blk.below h hb hg
end

/-! ### One operation of a region that draws its order, its slot written out -/
section
variable {P : Program} {md : Region.Mode} {ops : Array Oper} {Q : Exit → Act → World → Prop}
theorem put_some {a : Act} {d : Option Tmp} {n : Tmp} (h : d = some n) (v : Value) : a.put d v = { a with tmps := a.tmps.setIfInBounds n v } := by subst h; rfl
theorem put_none {a : Act} {d : Option Tmp} (h : d = none) (v : Value) : a.put d v = a := by subst h; rfl
theorem any_take {i : Nat} {oi : Oper} {v : Value} {fuel : Nat} {listed : Array Bool} {a : Act} {w : World} (n : Tmp) (hi : ops[i]? = some oi) (hn : oi.dst = some n)
    (hs : Region.noSelect ops = true) (hf : Region.free md ops listed i = true) (hr : (Region.ready md ops listed).contains i = true)
    (hQ : ∀ c a w, Q (.panic c) (a.put oi.dst v) w → Q (.panic c) a w) (hy : Yields P ops oi v a)
    (h : wpAny P md ops Q fuel (listed.setIfInBounds i true) { a with tmps := a.tmps.setIfInBounds n v } w) : wpAny P md ops Q (fuel + 1) listed a w :=
  wpAny_take hi hs hf hr hQ hy (by rw [put_some hn]; exact h)
theorem any_one {i : Nat} {o : Oper} {fuel : Nat} {listed : Array Bool} {a : Act} {w : World} (hr : Region.ready md ops listed = [i]) (ho : ops[i]? = some o)
    (hw : Region.wanted o (yielded ops a.tmps) = true)
    (h : ∀ K' : Act → World → Prop, (∀ a w, wpAny P md ops Q fuel (listed.setIfInBounds i true) a w → K' a w) → Oper.wp P o a w K' Q) : wpAny P md ops Q (fuel + 1) listed a w :=
  wpAny_ready hr (by simp) (AllReady.cons ho (fun K hK => by rw [if_pos hw]; exact h K hK) AllReady.nil)
theorem any_two {i j : Nat} {o o' : Oper} {fuel : Nat} {listed : Array Bool} {a : Act} {w : World} (hr : Region.ready md ops listed = [i, j]) (ho : ops[i]? = some o) (ho' : ops[j]? = some o')
    (hw : Region.wanted o (yielded ops a.tmps) = true) (hw' : Region.wanted o' (yielded ops a.tmps) = true)
    (h : ∀ K' : Act → World → Prop, (∀ a w, wpAny P md ops Q fuel (listed.setIfInBounds i true) a w → K' a w) → Oper.wp P o a w K' Q)
    (h' : ∀ K' : Act → World → Prop, (∀ a w, wpAny P md ops Q fuel (listed.setIfInBounds j true) a w → K' a w) → Oper.wp P o' a w K' Q) : wpAny P md ops Q (fuel + 1) listed a w :=
  wpAny_ready hr (by simp) (AllReady.cons ho (fun K hK => by rw [if_pos hw]; exact h K hK) (AllReady.cons ho' (fun K hK => by rw [if_pos hw']; exact h' K hK) AllReady.nil))
theorem load_mid {op : Oper} {a : Act} {w : World} {K : Act → World → Prop} (n : Tmp) (hn : op.dst = some n) (ty : TypeId) (x : Operand) (ho : op.op = .load ty x)
    (b o : Nat) (hx : a.eval x = .pointer (some ⟨b, o, none⟩)) (cs : List Value) (d : TypeDesc) (hc : w.rangeAt b o cs)
    (hu : P.underlying ty = some d) (hd : d.isRow = true) (hi : (P.info? ty).map (·.size) = some cs.length)
    (h : K { a with tmps := a.tmps.setIfInBounds n (.agg cs.toArray) } w) : op.wp P a w K Q :=
  wp_load_mid ty x ho b o hx cs d hc hu hd hi (by rw [put_some hn]; exact h)
theorem store_mid {op : Oper} {a : Act} {w : World} {K : Act → World → Prop} (hn : op.dst = none) (ty : TypeId) (x y : Operand) (ho : op.op = .store ty x y)
    (b o : Nat) (cells : Array Value) (hx : a.eval x = .pointer (some ⟨b, o, none⟩)) (hy : a.eval y = .agg cells)
    (ht : w.there b o cells.size) (hi : (P.info? ty).map (·.size) = some cells.size) (h1 : cells.all (·.oneCell') = true)
    (h : K a (w.setCells b o cells.toList)) : op.wp P a w K Q :=
  wp_store_mid ty x y ho b o cells hx hy ht hi h1 (by rw [put_none hn]; exact h)
end

end Go.Proofs.Ytfpcgancmgeagaa
