/- Small laws on worlds in which some blocks may have been written; no program in sight. -/
import Derived.WalkKit
import Derived.WalkSpells
import Derived.WalkLawsBesides
import Derived.Lib.Hide
import Derived.Lib.Bytealg
import Derived.StillTailTactics
import Derived.Deep.QuietTactic
import Derived.BigQuiet
import Derived.Outline
import Derived.Deep.MidRow
import Derived.Deep.Draws
import Derived.Laws.Rows
namespace Go.Proofs.Ytfpcgancmgeagaa
open Go.RowKit

/-- Of what was there only the blocks in S may have been written. -/
structure Mod (S : Nat → Prop) (w w' : World) : Prop where
  os : w'.os = w.os
  tape : w'.tape = w.tape
  output : w'.output = w.output
  size : w.heap.size ≤ w'.heap.size
  block : ∀ k, k < w.heap.size → ¬ S k → w'.heap[k]? = w.heap[k]?

section
variable {S S' : Nat → Prop} {w w1 w2 : World}
theorem Mod.refl (S : Nat → Prop) (w : World) : Mod S w w := ⟨rfl, rfl, rfl, Nat.le_refl _, fun _ _ _ => rfl⟩
theorem Mod.trans (h : Mod S w w1) (k : Mod S w1 w2) : Mod S w w2 :=
  ⟨k.os.trans h.os, k.tape.trans h.tape, k.output.trans h.output, Nat.le_trans h.size k.size, fun i hi hs => (k.block i (Nat.lt_of_lt_of_le hi h.size) hs).trans (h.block i hi hs)⟩
theorem Mod.mono (h : Mod S w w1) (hs : ∀ k, k < w.heap.size → S k → S' k) : Mod S' w w1 := ⟨h.os, h.tape, h.output, h.size, fun i hi hn => h.block i hi (fun e => hn (hs i hi e))⟩
/-- What is written only beyond the start counts for nothing. -/
theorem Mod.then (h : Mod S w w1) (k : Mod S' w1 w2) (hs : ∀ i, i < w.heap.size → S' i → S i) : Mod S w w2 :=
  ⟨k.os.trans h.os, k.tape.trans h.tape, k.output.trans h.output, Nat.le_trans h.size k.size, fun i hi hn => (k.block i (Nat.lt_of_lt_of_le hi h.size) (fun e => hn (hs i hi e))).trans (h.block i hi hn)⟩
theorem Mod.of_below (h : Below w.heap.size w w1) (S : Nat → Prop) : Mod S w w1 := ⟨h.os, h.tape, h.output, h.size, fun i hi _ => h.block i hi⟩
theorem Mod.below (h : Mod S w w1) (hs : ∀ k, k < w.heap.size → ¬ S k) : Below w.heap.size w w1 := ⟨h.os, h.tape, h.output, h.size, fun i hi => h.block i hi (hs i hi)⟩
theorem Mod.belowB {B : Nat} (h : Mod S w w1) (hB : B ≤ w.heap.size) (hs : ∀ k, k < B → ¬ S k) : Below B w w1 := ⟨h.os, h.tape, h.output, h.size, fun i hi => h.block i (by omega) (hs i hi)⟩
theorem Mod.alloc (h : Mod S w w1) (o : Obj) : Mod S w (w1.alloc o) :=
  h.trans ⟨rfl, rfl, rfl, by simp, fun k hk _ => Below.heap_alloc _ _ _ hk⟩
theorem Mod.drew (h : Mod S w w1) : Mod S w w1.drew := ⟨h.os, h.tape, h.output, h.size, h.block⟩
theorem Mod.drewN (h : Mod S w w1) (n : Nat) : Mod S w (w1.drewN n) := ⟨h.os, h.tape, h.output, h.size, h.block⟩
theorem Mod.setCell (h : Mod S w w1) {p : Addr} (hp : p.block < w.heap.size → S p.block) (u : Value) : Mod S w (w1.setCell p u) :=
  h.then (S' := (· = p.block)) ⟨rfl, rfl, rfl, by simp [World.setCell], fun k _ hn => Below.heap_setCell _ _ _ _ hn⟩ (fun i hi e => by subst e; exact hp hi)
theorem Mod.cell (h : Mod S w w1) {p : Addr} (hp : p.block < w.heap.size) (hs : ¬ S p.block) : w1.cell? p = w.cell? p := World.cell?_of_block (w := w) (h.block p.block hp hs)
theorem Mod.cell_some (h : Mod S w w1) {p : Addr} {v : Value} (hc : w.cell? p = some v) (hs : ¬ S p.block) : w1.cell? p = some v := by
  rw [h.cell (World.block_lt_of_cell? w _ hc) hs]; exact hc
theorem Mod.frozen (h : Mod S w w1) {p : Addr} (hp : p.block < w.heap.size) (hs : ¬ S p.block) : w1.frozen? p = w.frozen? p := World.frozen?_of_block (w := w) (h.block p.block hp hs)
theorem Mod.grown (h : Mod S w w1) {row : Option Nat} (hg : w1.grownBy w2 row) (hr : ∀ k, row = some k → k < w.heap.size → S k) : Mod S w w2 :=
  h.then (S' := fun k => row = some k) ⟨hg.os, hg.tape, hg.output, hg.size, fun k hk hn => hg.block k hk (fun e => hn e.symm)⟩ (fun i hi e => hr i e hi)
end

/-- The block g is just these cells, none frozen. -/
def Blk (w : World) (g : Nat) (t : TypeId) (cs : List Value) : Prop := w.heap[g]? = some (.cells cs.toArray t (0, 0))
section
variable {S : Nat → Prop} {w w' : World} {g : Nat} {t : TypeId} {cs : List Value}
theorem Blk.lt (h : Blk w g t cs) : g < w.heap.size := by
  rcases Nat.lt_or_ge g w.heap.size with hlt | hge
  · exact hlt
  · unfold Blk at h; rw [Array.getElem?_eq_none hge] at h; cases h
theorem Blk.cell (h : Blk w g t cs) (i : Nat) : w.cell? ⟨g, i, none⟩ = cs[i]? := by
  have := cell_of_row w g i cs.toArray t (0, 0) h; simpa using this
theorem Blk.frozen (h : Blk w g t cs) (i : Nat) : w.frozen? ⟨g, i, none⟩ = false := by
  unfold Blk at h; simp [World.frozen?, h]
theorem Blk.new (w : World) (t : TypeId) (cs : List Value) : Blk (w.alloc (.cells cs.toArray t)) w.heap.size t cs := heap_alloc_new w _
theorem Blk.drew (h : Blk w g t cs) : Blk w.drew g t cs := h
theorem Blk.drewN (h : Blk w g t cs) (n : Nat) : Blk (w.drewN n) g t cs := h
theorem Blk.alloc (h : Blk w g t cs) (o : Obj) : Blk (w.alloc o) g t cs := (Below.heap_alloc w o g h.lt).trans h
theorem Blk.set_ (h : Blk w g t cs) (i : Nat) (u : Value) : Blk (w.setCell ⟨g, i, none⟩ u) g t (cs.set i u) := by
  unfold Blk at h ⊢
  simp [World.setCell, Array.getElem?_modify, h]
theorem Blk.far (h : Blk w g t cs) {p : Addr} (hp : g ≠ p.block) (u : Value) : Blk (w.setCell p u) g t cs := (Below.heap_setCell w p u g hp).trans h
theorem Blk.mod (h : Blk w g t cs) (hm : Mod S w w') (hs : ¬ S g) : Blk w' g t cs := (hm.block g h.lt hs).trans h
theorem Blk.below {B : Nat} (h : Blk w g t cs) (hb : Below B w w') (hg : g < B) : Blk w' g t cs := (hb.block g hg).trans h
theorem Blk.ne_ {g' : Nat} {t' : TypeId} {cs' : List Value} (h : Blk w g t cs) (h' : Blk w g' t' cs') (hne : t ≠ t') : g ≠ g' := by
  rintro rfl
  unfold Blk at h h'
  rw [h] at h'
  injection h' with h'
  injection h' with _ ht
  exact hne ht
end

/-- A whole struct or array stored into a block of its own: the world behind it by what it holds. -/
theorem wpList_store_row {P : Program} {ops : Array Oper} {rest : List Oper} {o : Oper} {a : Act} {w : World} {Q : Exit → Act → World → Prop} (hgd : o.guard = none) (ty : TypeId) (x y : Operand) (ho : o.op = .store ty x y)
    (g : Nat) (cells : Array Value) (hx : a.eval x = .pointer (some ⟨g, 0, none⟩)) (hy : a.eval y = .agg cells) (t : TypeId) (old : List Value) (hb : Blk w g t old) (hi : (P.info? ty).map (·.size) = some cells.size) (hl : old.length = cells.size)
    (h1 : cells.all (·.oneCell') = true) (h : ∀ w', Mod (· = g) w w' → Blk w' g t cells.toList → wpList P ops Q rest (a.put o.dst undef) w') : wpList P ops Q (o :: rest) a w :=
  wpList_plain hgd fun _ hK => by
    unfold Oper.wp execOp
    have hs := run_storeVar_row (P := P) w g t ty old.toArray cells hb hi (by simpa using hl) h1
    simp only [ho, hx, hy, Instr.storeAt, Instr.sureAddr, Sem.run_bind, Sem.run_pure, Result.andThen_ok, hs]
    refine hK _ _ (h _ ⟨rfl, rfl, rfl, by simp, fun k _ hn => setRow_other w g k cells (fun e => hn e)⟩ ?_)
    have := setRow_heap w g old.toArray cells t (0, 0) hb
    unfold Blk
    simpa using this

/-! ### Regions that draw their order, their callees laying blocks: any class of worlds -/
structure In (C : World → Prop) where
  world : World
  ok : C world

theorem wp_region_in {P : Program} {id : Nat} {Q : Exit → Act → World → Prop} {a : Act} {w : World} {l : List Oper} (C : World → Prop) (hC : C w.drew) (hm : P.follows .mixedOrders = true) (hB : Region.lexB .any l.toArray = true)
    (h : wpQuiet P l.toArray (fun W => ∃ p : In C, W = p.world) (fun a' => ∀ W, (∃ p : In C, W = p.world) → Q .normal a' W) l a) : (Code.region id l.toArray true).wp P Q a w :=
  wp_region_quiet (C := fun W => ∃ p : In C, W = p.world) hm hB ⟨⟨_, hC⟩, rfl⟩ (by simpa using h)

instance belowIn (B : Nat) (w : World) : Nonempty (In (fun W => Below B w W)) := ⟨⟨w, Below.refl _ _⟩⟩

theorem Calls.into {P : Program} {f : FuncId} {args : Array Value} {w : World} {v : Value} {C : World → Prop} {R : Ending → World → Prop} (h : Calls P f args w R) (hR : ∀ e w', R e w' → e = .returned v ∧ C w') :
    Calls P f args w fun e w'' => e = .returned v ∧ ∃ p : In C, w'' = p.world :=
  h.mono fun _ _ h => ⟨(hR _ _ h).1, ⟨⟨_, (hR _ _ h).2⟩, rfl⟩⟩

end Go.Proofs.Ytfpcgancmgeagaa
