/- Regions that draw their order, in the body of a range over a function: what is shown of them anywhere holds there too, if they defer nothing. No program in sight. -/
import Derived.Test.YtfpcgancmgeagaaBase
import Derived.OrdersIn
import Derived.RangeFuncCalls
import Derived.StillTail
import Derived.BigQuiet
namespace Go.Proofs.Ytfpcgancmgeagaa
open Go.RowKit

variable {P : Program}

theorem rows_in {n : Nat} {l : Nat} {row : String} {args : Array Value} {w : World} {R : Value → World → Prop} (h : Rows P row args w R) : RowsIn (Fence.wide.inRound l) n P row args w R := fun c cs _ =>
  let ⟨v, w', r, s⟩ := h c cs
  ⟨v, w', r, stepsIn_wide.2 s⟩
theorem calls_in {n : Nat} {l : Nat} {f : FuncId} {args : Array Value} {w : World} {R : Ending → World → Prop} (h : Calls P f args w R) : CallsIn (Fence.wide.inRound l) n P f args w R := (callsIn_wide.2 h : CallsIn Fence.wide n P f args w R)

theorem upon_in {n l : Nat} {o : Oper} {a : Act} {K K' : Act → World → Prop} {Q : Exit → Act → World → Prop} (hK : ∀ a w, K a w → K' a w) (hQ : ¬ LetsOut Q) (r : Result Next) (h : o.upon P a K Q r) : o.uponIn (Fence.wide.inRound l) n P a K' Q r := by
  cases r with
  | ok x w' =>
    cases x with
    | value v => exact hK _ _ h
    | skip => exact hK _ _ h
    | defer d => exact hK _ _ h
    | enter f args =>
      refine ⟨(fun hh => by cases hh), calls_in (Calls.mono h fun e w'' he => ?_)⟩
      cases e with
      | returned v => exact hK _ _ he
      | panicked c => exact he
      | outgrown => exact he
    | row row args => exact ⟨(fun hh => by cases hh), rows_in (Rows.mono h fun v w'' he => hK _ _ he)⟩
    | _ => exact h.elim
  | halt x w' =>
    cases x with
    | panic v => exact h
    | _ => exact h.elim

/-- No operation of the region is a defer statement. -/
def noDefer (ops : Array Oper) : Bool := ops.all fun o => match o.op with | .defer _ => false | _ => true
theorem noDefer_spec {ops : Array Oper} (h : noDefer ops = true) {i : Nat} {o : Oper} (ho : ops[i]? = some o) : ∀ c, o.op ≠ .defer c := fun c e => by
  obtain ⟨hi, rfl⟩ := Array.getElem?_eq_some_iff.1 ho
  have := Array.all_eq_true.1 h i hi
  rw [e] at this
  cases this

theorem wpOp_in {n l : Nat} {ops : Array Oper} {Q : Exit → Act → World → Prop} {i : Nat} {K K' : Act → World → Prop} {a : Act} {w : World} (hd : noDefer ops = true) (hQ : ¬ LetsOut Q) (hK : ∀ a w, K a w → K' a w)
    (h : wpOp P ops Q i K a w) : wpOpIn (Fence.wide.inRound l) n P ops Q i K' a w := by
  unfold wpOp at h
  unfold wpOpIn
  split
  · rename_i ho; simp only [ho] at h; exact hK _ _ h
  · rename_i o ho
    simp only [ho] at h
    split
    · rename_i hw
      simp only [hw, if_true] at h
      rcases h with h | h
      · refine ⟨fun _ _ => trivial, ?_⟩
        rw [Oper.semAt_eq _ _ _ (noDefer_spec hd ho)]
        exact upon_in hK hQ _ h
      · exact absurd h.2 hQ
    · rename_i hw
      simp only [hw] at h
      exact ⟨fun _ _ => trivial, hK _ _ h⟩

theorem wpAny_in {n l : Nat} {md : Region.Mode} {ops : Array Oper} {Q : Exit → Act → World → Prop} (hd : noDefer ops = true) (hQ : ¬ LetsOut Q) : ∀ (fuel : Nat) (listed : Array Bool) (a : Act) (w : World),
    wpAny P md ops Q fuel listed a w → wpAnyIn (Fence.wide.inRound l) n P md ops Q fuel listed a w
  | 0, _, _, _, h => h
  | fuel + 1, _, _, _, h => ⟨h.1, fun i hi => wpOp_in hd hQ (fun a w h => wpAny_in hd hQ fuel _ a w h) (h.2 i hi)⟩

/-- **In a round: by any order, as everywhere.** -/
theorem wpIn_region_any' {n l id : Nat} {ops : Array Oper} {Q : Exit → Act → World → Prop} {a : Act} {w : World} (hd : noDefer ops = true) (hQ : ¬ LetsOut Q) (hm : P.follows .mixedOrders = true)
    (h : wpAny P .any ops Q ops.size (Array.replicate ops.size false) a { w with drawn := w.drawn + 1 }) : (Code.region id ops true).wpIn (Fence.wide.inRound l) n P Q a w :=
  wpIn_region_any hm (wpAny_in hd hQ _ _ _ _ h)

/-- **In a round: a region whose operations read and call quietly in a class of worlds.** -/
theorem wpIn_region_in {n r id : Nat} {Q : Exit → Act → World → Prop} {a : Act} {w : World} {l : List Oper} (C : World → Prop) (hC : C w.drew) (hd : noDefer l.toArray = true) (hQ : ¬ LetsOut Q) (hm : P.follows .mixedOrders = true) (hB : Region.lexB .any l.toArray = true)
    (h : wpQuiet P l.toArray (fun W => ∃ p : In C, W = p.world) (fun a' => ∀ W, (∃ p : In C, W = p.world) → Q .normal a' W) l a) : (Code.region id l.toArray true).wpIn (Fence.wide.inRound r) n P Q a w := by
  refine wpIn_region_any' hd hQ hm ?_
  simp only [Region.lexB, Bool.and_eq_true] at hB
  refine wpAny_of_quiet (C := fun W => ∃ p : In C, W = p.world) (Q := fun a' => ∀ W, (∃ p : In C, W = p.world) → Q .normal a' W) (fun _ w' hw' h => h w' hw') _ _ _ _ ⟨⟨_, hC⟩, rfl⟩ ?_
  have := wpAnyQ_lex (P := P) (Q := fun a' => ∀ W, (∃ p : In C, W = p.world) → Q .normal a' W) (C := fun W => ∃ p : In C, W = p.world) (md := .any) hB.1 l.toArray.toList 0 (Array.replicate l.toArray.size false) a (by simp) (by simpa using hB.2) (by simpa using h)
  simpa using this

/-- **In a round: reads and quiet calls, then a tail in one order.** -/
theorem wpIn_region_still_tail {m r id : Nat} {Q : Exit → Act → World → Prop} {a : Act} {w : World} {l : List Oper} (n : Nat) (hd : noDefer l.toArray = true) (hQ : ¬ LetsOut Q) (hm : P.follows .mixedOrders = true) (hB : Region.lexTailB .any l.toArray n = true)
    (h : wpStill P l.toArray { w with drawn := w.drawn + 1 } (fun a' => wpList P l.toArray Q (l.drop n) a' { w with drawn := w.drawn + 1 }) (l.take n) a) : (Code.region id l.toArray true).wpIn (Fence.wide.inRound r) m P Q a w := by
  refine wpIn_region_any' hd hQ hm ?_
  simp only [Region.lexTailB, Bool.and_eq_true, decide_eq_true_eq] at hB
  obtain ⟨⟨⟨⟨hsel, hn⟩, hs⟩, hc⟩, hlex⟩ := hB
  have hn' : n < l.length := by simpa using hn
  have htl : (l.take n).length = n := by simp; omega
  have hdl : (l.drop n).length = l.toArray.size - n := by simp
  have inv0 : HeadInv .any l.toArray n (Array.replicate l.toArray.size false) :=
    ⟨by simp, fun j oj _ hl => (by rw [getD_replicate_false] at hl; cases hl), fun t _ ht => getD_in (by simpa using ht) (getD_replicate_false _ _)⟩
  have H := wpAnyL_lex (md := .any) (g := l.toArray.size - n) hsel hs hc hn (l.take n) 0 _ a (fun j hj => by
    have hj' : j < n := by rw [htl] at hj; exact hj
    simp [hj']) (by simpa using htl) inv0 (by rw [htl]; exact hlex) h
  have := wpAny_of_head (Q' := Q) (g := l.toArray.size - n) (fun listed a' hL => by
    have := wpAny_of_seq (md := .any) (Q' := Q) (l.drop n) n listed a' { w with drawn := w.drawn + 1 } (fun j => by simp [List.getElem?_drop]) (by rw [hdl]; exact hL.1) hL.2
    rwa [hdl] at this) _ _ _ H
  rw [htl, show n + (l.toArray.size - n) = l.toArray.size by omega] at this
  exact this

theorem wpList_in {n l : Nat} {ops : Array Oper} {Q : Exit → Act → World → Prop} (hQ : ¬ LetsOut Q) : ∀ (rest : List Oper) (a : Act) (w : World), (∀ o ∈ rest, ∀ c, o.op ≠ .defer c) → wpList P ops Q rest a w → wpListIn (Fence.wide.inRound l) n P ops Q rest a w
  | [], _, _, _, h => h
  | o :: rest, a, w, hd, h => by
    have ih := fun (a : Act) (w : World) => wpList_in (n := n) (l := l) (ops := ops) hQ rest a w (fun o ho => hd o (List.mem_cons_of_mem _ ho))
    unfold wpList at h
    unfold wpListIn
    split
    · rename_i hw
      simp only [hw, if_true] at h
      rcases h with h | h
      · refine ⟨fun _ _ => trivial, ?_⟩
        rw [Oper.semAt_eq _ _ _ (hd o (List.mem_cons_self ..))]
        exact upon_in (fun a w h => ih a w h) hQ _ h
      · exact absurd h.2 hQ
    · rename_i hw
      simp only [hw] at h
      exact ⟨fun _ _ => trivial, ih _ _ h⟩

/-- **In a round: a region in its one order, walked as anywhere.** -/
theorem wpIn_region_seq' {m r id : Nat} {Q : Exit → Act → World → Prop} {a : Act} {w : World} {l : List Oper} (hd : noDefer l.toArray = true) (hQ : ¬ LetsOut Q) (h : wpList P l.toArray Q l a w) : (Code.region id l.toArray false).wpIn (Fence.wide.inRound r) m P Q a w := by
  refine wpIn_region_lit ?_
  refine wpList_in hQ l a w (fun o ho => ?_) h
  obtain ⟨i, hi, rfl⟩ := List.getElem_of_mem ho
  exact noDefer_spec (ops := l.toArray) hd (i := i) (by simp [hi])

/-- A quiet walk in the class of one world is a still one. -/
theorem wpStill_of_quiet {ops : Array Oper} {w : World} {C : World → Prop} (hw : C w) (hC : ∀ W, C W → W = w) {Q : Act → Prop} : ∀ (l : List Oper) (a : Act), wpQuiet P ops C Q l a → wpStill P ops w Q l a
  | [], _, h => h
  | o :: l, a, h => by
    unfold wpQuiet at h
    unfold wpStill
    split
    · rename_i hh
      rw [if_pos hh] at h
      obtain ⟨v, h1, h2⟩ := h
      have h3 := h1 w hw
      unfold Oper.quietAt at h3
      unfold Oper.still
      cases hr : (execOp a.eval o).run P w with
      | halt x w' => rw [hr] at h3; exact h3.elim
      | ok x w' =>
        rw [hr] at h3
        cases x with
        | value u => obtain ⟨rfl, rfl⟩ := h3; exact ⟨rfl, wpStill_of_quiet hw hC l _ h2⟩
        | skip => obtain ⟨rfl, rfl⟩ := h3; exact ⟨rfl, wpStill_of_quiet hw hC l _ h2⟩
        | enter f args => obtain ⟨rfl, h4⟩ := h3; exact ⟨rfl, v, h4.mono (fun _ _ hh => ⟨hh.1, hC _ hh.2⟩), wpStill_of_quiet hw hC l _ h2⟩
        | _ => exact h3.elim
    · rename_i hh
      rw [if_neg hh] at h
      exact wpStill_of_quiet hw hC l _ h

theorem in_one {w : World} : (∃ p : In (fun W' => W' = w), w = p.world) ∧ ∀ W, (∃ p : In (fun W' => W' = w), W = p.world) → W = w := ⟨⟨⟨w, rfl⟩, rfl⟩, fun _ ⟨p, h⟩ => h.trans p.ok⟩
instance oneIn (w : World) : Nonempty (In (fun W' => W' = w)) := ⟨⟨w, rfl⟩⟩

/-- **In a round: reads and pure calls by the cheap step, then a tail in one order.** -/
theorem wpIn_region_quiet_tail {m r id : Nat} {Q : Exit → Act → World → Prop} {a : Act} {w : World} {l : List Oper} (n : Nat) (hd : noDefer l.toArray = true) (hQ : ¬ LetsOut Q) (hm : P.follows .mixedOrders = true) (hB : Region.lexTailB .any l.toArray n = true)
    (h : wpQuiet P l.toArray (fun W => ∃ p : In (fun W' => W' = w.drew), W = p.world) (fun a' => wpList P l.toArray Q (l.drop n) a' w.drew) (l.take n) a) : (Code.region id l.toArray true).wpIn (Fence.wide.inRound r) m P Q a w :=
  wpIn_region_still_tail n hd hQ hm hB (wpStill_of_quiet (w := w.drew) in_one.1 in_one.2 _ _ h)

/-- The same outside a round. -/
theorem wp_region_quiet_tail {id : Nat} {Q : Exit → Act → World → Prop} {a : Act} {w : World} {l : List Oper} (n : Nat) (hm : P.follows .mixedOrders = true) (hB : Region.lexTailB .any l.toArray n = true)
    (h : wpQuiet P l.toArray (fun W => ∃ p : In (fun W' => W' = w.drew), W = p.world) (fun a' => wpList P l.toArray Q (l.drop n) a' w.drew) (l.take n) a) : (Code.region id l.toArray true).wp P Q a w :=
  wp_region_still_tail n hm hB (wpStill_of_quiet (w := w.drew) in_one.1 in_one.2 _ _ h)

end Go.Proofs.Ytfpcgancmgeagaa
