/- The library's stable sort of whole numbers by a function: what each part of it does to the row, over any comparing function that lays blocks of its own. -/
import Derived.Test.YtfpcgancmgeagaaBase
import Derived.Test.YtfpcgancmgeagaaSortP
import Derived.Test.YtfpcgancmgeagaaRows
import Derived.Deep.LoopGhost
import Derived.Shelf.RegionOpenPlain
import Derived.BigRegion
namespace Go.Proofs.Ytfpcgancmgeagaa
open Go.RowKit

/-- The row of numbers that is sorted: block g holds them from its head on, and then the rest. -/
def Dat (w : World) (g : Nat) (t : TypeId) (rest : List Value) (xs : List Int) : Prop := Blk w g t (xs.map (Value.int .i64) ++ rest)
section
variable {w w' : World} {g : Nat} {t : TypeId} {rest : List Value} {xs : List Int}
theorem Dat.cell (h : Dat w g t rest xs) (i : Nat) (hi : i < xs.length) : w.cell? ⟨g, i, none⟩ = some (.int .i64 (xs.getD i 0)) := by
  rw [Blk.cell h, List.getElem?_append_left (by simpa using hi)]
  simp [hi]
theorem Dat.set_ (h : Dat w g t rest xs) (i : Nat) (hi : i < xs.length) (u : Int) : Dat (w.setCell ⟨g, i, none⟩ (.int .i64 u)) g t rest (xs.set i u) := by
  have := Blk.set_ h i (.int .i64 u)
  unfold Dat
  rw [List.set_append_left _ _ (by simpa using hi)] at this
  simpa [List.map_set] using this
theorem Dat.mod {S : Nat → Prop} (h : Dat w g t rest xs) (hm : Mod S w w') (hs : ¬ S g) : Dat w' g t rest xs := Blk.mod h hm hs
theorem Dat.below {B : Nat} (h : Dat w g t rest xs) (hb : Below B w w') (hg : g < B) : Dat w' g t rest xs := Blk.below h hb hg

theorem Dat.there (h : Dat w g t rest xs) (i j : Nat) (hi : i < xs.length) (hj : j < xs.length) (u : Int) : ∃ v, (w.setCell ⟨g, i, none⟩ (.int .i64 u)).cell? ⟨g, j, none⟩ = some v :=
  ⟨_, (h.set_ i hi u).cell j (by simpa using hj)⟩

end

/-- What is asked of the comparing function: in every world that the sort passes through it answers cf, laying blocks of its own alone. -/
structure CmpOk (fn : FuncId) (cap : Array Value) (cf : Int → Int → Int) (D : Int → Prop) (g : Nat) (E : World → Prop) : Prop where
  enters : ∀ args w, (callFunc fn args).run Try.prog w = .ok (.enter fn args) w
  keeps : ∀ w w', E w → Mod (· = g) w w' → E w'
  calls : ∀ w x y, E w → D x → D y → Calls Try.prog fn (#[.int .i64 x, .int .i64 y] ++ cap) w fun e w' => e = .returned (.int .i64 (cf x y)) ∧ Below w.heap.size w w'

set_option maxHeartbeats 1000000 in
set_option maxRecDepth 100000 in
theorem insertion (fn : FuncId) (cap : Array Value) (cf : Int → Int → Int) (D : Int → Prop) (g : Nat) (E : World → Prop) (hcmp : CmpOk fn cap cf D g E) (t : TypeId) (rest : List Value) (xs : List Int) (c a b : Nat) (w : World)
    (hE : E w) (hD : ∀ x ∈ xs, D x) (hd : Dat w g t rest xs) (hab : a ≤ b) (hb : b ≤ xs.length) (hn : xs.length ≤ 1073741824) :
    Calls Try.prog 132 #[.slice (some ⟨g, 0, none⟩) xs.length c, .int .i64 a, .int .i64 b, .func (.func fn) #[] cap] w fun e w' =>
      e = .returned (.tuple #[]) ∧ Mod (· = g) w w' ∧ Dat w' g t rest (insOuter cf a (a + 1) (b - (a + 1)) xs) := by
  have HC := Lib.hid hcmp
  have HE := Lib.hid hE
  have HD := Lib.hid hd
  have HX := Lib.hid hD
  clear hcmp hE hd hD
  go_enter Try.func132, Try.ntmps132
  go_wp2_with fail
  go_loopg [8] (b - a) (fun g1 vi wr => ∃ (i : Nat) (xi : List Int), vi = .int .i64 i ∧ a < i ∧ i ≤ b + 1 ∧ b - i ≤ g1 ∧ xi.length = xs.length ∧ Hid (Mod (· = g) w wr ∧ Dat wr g t rest xi ∧ E wr ∧ (∀ x ∈ xi, D x) ∧ insOuter cf a i (b - i) xi = insOuter cf a (a + 1) (b - (a + 1)) xs))
  case atStart => exact ⟨a + 1, xs, by go_num, by omega, by omega, by omega, rfl, ⟨Mod.refl _ _, HD.out, HE.out, HX.out, rfl⟩⟩
  case round =>
    obtain ⟨i, xi, rfl, hai, hib, hg1, hsk, HI⟩ := hrel
    by_cases hlt : i < b
    · have hltz : (i : Int) < (b : Int) := by omega
      go_wp2_with fail
      obtain ⟨HM, HDi, HEi, HXi, HOi⟩ := HI.out
      have HI2 : Hid (Mod (· = g) w wr ∧ Dat wr g t rest xi ∧ E wr ∧ (∀ x ∈ xi, D x) ∧ insInner cf a i xi = insInner cf a i xi) := ⟨HM, HDi, HEi, HXi, rfl⟩
      have HO := Lib.hid HOi
      clear HM HDi HEi HXi HOi HI
      go_loopg [9] i (fun g2 vj wr2 => ∃ (j : Nat) (xj : List Int), vj = .int .i64 j ∧ a ≤ j ∧ j ≤ i ∧ j ≤ g2 ∧ xj.length = xs.length ∧ Hid (Mod (· = g) w wr2 ∧ Dat wr2 g t rest xj ∧ E wr2 ∧ (∀ x ∈ xj, D x) ∧ insInner cf a j xj = insInner cf a i xi))
      case atStart => exact ⟨i, xi, rfl, by omega, Nat.le_refl _, Nat.le_refl _, hsk, HI2⟩
      case round =>
        clear HI2
        obtain ⟨j, xj, rfl, haj, hji, hg2, hsj, HI⟩ := hrel
        by_cases hja : a < j
        · obtain ⟨jp, rfl⟩ : ∃ q, j = q + 1 := ⟨j - 1, by omega⟩
          have hjad : decide ((jp : Int) + 1 > (a : Int)) = true := decide_eq_true (by omega)
          have hjaz' : (a : Int) < (jp : Int) + 1 := by omega
          have hb0 : (0 : Int) ≤ (jp : Int) + 1 := by omega
          have hb1 : (jp : Int) + 1 < (xs.length : Int) := by omega
          have hb2 : (jp : Int) < (xs.length : Int) := by omega
          have hw1 : IntKind.i64.wrap (jp : Int) = (jp : Int) := by rw [IntKind.wrap_i64]; omega
          obtain ⟨HM, HDi, HEi, HXi, HOi⟩ := HI.out
          have l1 : ∀ p : In (fun W => Below wr.heap.size wr W), p.world.cell? ⟨g, jp + 1, none⟩ = some (.int .i64 (xj.getD (jp + 1) 0)) := fun p => (HDi.below p.ok (Blk.lt HDi)).cell _ (by omega)
          have l2 : ∀ p : In (fun W => Below wr.heap.size wr W), p.world.cell? ⟨g, jp, none⟩ = some (.int .i64 (xj.getD jp 0)) := fun p => (HDi.below p.ok (Blk.lt HDi)).cell _ (by omega)
          have hx : xj.getD (jp + 1) 0 ∈ xj := by rw [List.getD_eq_getElem?_getD, List.getElem?_eq_getElem (by omega)]; simp
          have hy : xj.getD jp 0 ∈ xj := by rw [List.getD_eq_getElem?_getD, List.getElem?_eq_getElem (by omega)]; simp
          have ecall := HC.out.enters
          have hcall : Hid (∀ p : In (fun W => Below wr.heap.size wr W), Calls Try.prog fn (#[.int .i64 (xj.getD (jp + 1) 0), .int .i64 (xj.getD jp 0)] ++ cap) p.world fun e w'' => e = .returned (.int .i64 (cf (xj.getD (jp + 1) 0) (xj.getD jp 0))) ∧ ∃ q : In (fun W => Below wr.heap.size wr W), w'' = q.world) := fun p =>
            Calls.into (HC.out.calls p.world _ _ (HC.out.keeps _ _ HEi (Mod.of_below p.ok _)) (HXi _ hx) (HXi _ hy)) fun e w' h => ⟨h.1, p.ok.trans (h.2.mono p.ok.size)⟩
          clear HM HDi HEi HXi HOi hx hy
          generalize hx1 : xj.getD (jp + 1) 0 = x at *
          generalize hy1 : xj.getD jp 0 = y at *
          have HX1 := Lib.hid hx1
          have HY1 := Lib.hid hy1
          clear hx1 hy1
          by_cases hlv : cf x y < 0
          · have hd1 : decide (cf x y < 0) = true := decide_eq_true hlv
            go_wp2_with fail
            refine wp_region_in (fun W => Below wr.heap.size wr W) (Below.refl _ _).drew (by kernel_rfl) (by kernel_rfl) ?_
            repeat (quiet_step (exact hcall.out _))
            refine wpQuiet_nil ?_
            rintro w2 ⟨⟨_, hw2⟩, rfl⟩
            have l3 := l1 ⟨w2, hw2⟩
            have l4 := l2 ⟨w2, hw2⟩
            dsimp only at l3 l4
            clear l1 l2 hcall ecall
            obtain ⟨HM, HDi, HEi, HXi, HOi⟩ := HI.out
            have HD2 := HDi.below hw2 (Blk.lt HDi)
            have HM2 : Mod (· = g) w w2 := HM.trans (Mod.of_below hw2 _)
            have HE2 : E w2 := HC.out.keeps _ _ HEi (Mod.of_below hw2 _)
            have f3 := Blk.frozen HD2 (jp + 1)
            have f4 := Blk.frozen HD2 jp
            have HA := Lib.hid (And.intro HD2 (And.intro HM2 (And.intro HE2 (And.intro HXi HOi))))
            clear HD2 HM2 HE2 HM HDi HEi HXi HOi HI hw2
            have l5 : ∃ u, (w2.setCell ⟨g, jp + 1, none⟩ (.int .i64 y)).cell? ⟨g, jp, none⟩ = some u := ⟨.int .i64 y, by rw [World.cell?_setCell_other _ _ _ _ (by simp)]; exact l4⟩
            obtain ⟨u, l5⟩ := l5
            go_wp2_with fail
            go_region
            obtain ⟨HD2, HM2, HE2, HXi, HOi⟩ := HA.out
            have hsg : Mod (· = g) w2 ((w2.setCell ⟨g, jp + 1, none⟩ (.int .i64 y)).setCell ⟨g, jp, none⟩ (.int .i64 x)).drew := (((Mod.refl (· = g) w2).setCell (p := ⟨g, jp + 1, none⟩) (fun _ => rfl) _).setCell (p := ⟨g, jp, none⟩) (fun _ => rfl) _).drew
            have HN : Hid (Mod (· = g) w ((w2.setCell ⟨g, jp + 1, none⟩ (.int .i64 y)).setCell ⟨g, jp, none⟩ (.int .i64 x)).drew ∧ Dat ((w2.setCell ⟨g, jp + 1, none⟩ (.int .i64 y)).setCell ⟨g, jp, none⟩ (.int .i64 x)).drew g t rest (swp xj (jp + 1) jp) ∧ E ((w2.setCell ⟨g, jp + 1, none⟩ (.int .i64 y)).setCell ⟨g, jp, none⟩ (.int .i64 x)).drew ∧ (∀ z ∈ swp xj (jp + 1) jp, D z) ∧ insInner cf a jp (swp xj (jp + 1) jp) = insInner cf a i xi) := by
              refine ⟨HM2.trans hsg, ?_, HC.out.keeps _ _ HE2 hsg, ?_, ?_⟩
              · rw [swp_of _ _ _ _ _ HX1.out HY1.out]; exact Blk.drew ((HD2.set_ (jp + 1) (by omega) y).set_ jp (by simp; omega) x)
              · intro z hz
                exact HXi z (mem_swp xj (jp + 1) jp (by omega) (by omega) hz)
              · rw [← HOi, insInner_go _ _ _ _ _ _ HX1.out HY1.out (by omega) hlv]
            clear HD2 HM2 HE2 HXi HOi hsg HA l3 l4 l5 f3 f4
            generalize ((w2.setCell ⟨g, jp + 1, none⟩ (.int .i64 y)).setCell ⟨g, jp, none⟩ (.int .i64 x)).drew = w3 at *
            go_wp2
            go_roundg jp
            case measure => omega
            case rel => exact ⟨jp, swp xj (jp + 1) jp, rfl, by omega, by omega, Nat.le_refl _, by rw [swp_length]; exact hsj, HN⟩
          · have hd1 : decide (cf x y < 0) = false := decide_eq_false hlv
            go_wp2_with fail
            refine wp_region_in (fun W => Below wr.heap.size wr W) (Below.refl _ _).drew (by kernel_rfl) (by kernel_rfl) ?_
            repeat (quiet_step (exact hcall.out _))
            refine wpQuiet_nil ?_
            rintro w2 ⟨⟨_, hw2⟩, rfl⟩
            clear l1 l2 hcall ecall
            obtain ⟨HM, HDi, HEi, HXi, HOi⟩ := HI.out
            have HN : Hid (Mod (· = g) w w2 ∧ Dat w2 g t rest xj ∧ E w2 ∧ (∀ x ∈ xj, D x) ∧ insOuter cf a (i + 1) (b - (i + 1)) xj = insOuter cf a (a + 1) (b - (a + 1)) xs) :=
              ⟨HM.trans (Mod.of_below hw2 _), HDi.below hw2 (Blk.lt HDi), HC.out.keeps _ _ HEi (Mod.of_below hw2 _), HXi, by
                rw [← HO.out, show b - i = (b - (i + 1)) + 1 from by omega, insOuter, ← HOi, insInner_stop _ _ _ _ _ _ HX1.out HY1.out (by omega)]⟩
            clear HM HDi HEi HXi HOi HI hw2
            go_wp2
            go_roundg (b - (i + 1))
            case measure => omega
            case rel => exact ⟨i + 1, xj, by go_num, by omega, by omega, Nat.le_refl _, hsj, HN⟩
        · have hjaz : decide ((j : Int) > (a : Int)) = false := decide_eq_false (by omega)
          have hjaz' : ¬ (a : Int) < (j : Int) := by omega
          obtain ⟨HM, HDi, HEi, HXi, HOi⟩ := HI.out
          have HN : Hid (∀ q, Mod (· = g) w (wr.drewN q) ∧ Dat (wr.drewN q) g t rest xj ∧ E (wr.drewN q) ∧ (∀ x ∈ xj, D x) ∧ insOuter cf a (i + 1) (b - (i + 1)) xj = insOuter cf a (a + 1) (b - (a + 1)) xs) := fun q =>
            ⟨HM.drewN q, HDi.drewN q, HC.out.keeps _ _ HEi ((Mod.refl _ _).drewN q), HXi, by
              obtain rfl : j = a := by omega
              rw [← HO.out, show b - i = (b - (i + 1)) + 1 from by omega, insOuter, ← HOi]
              cases j with
              | zero => rfl
              | succ j => rw [insInner, if_neg (fun h => by omega)]⟩
          clear HM HDi HEi HXi HOi HI
          go_wp2_with fail
          go_quiet (fail)
          have HN1 := Lib.hid (HN.out nq)
          clear HN
          go_wp2
          go_roundg (b - (i + 1))
          case measure => omega
          case rel => exact ⟨i + 1, xj, by go_num, by omega, by omega, Nat.le_refl _, hsj, HN1⟩
    · have hltz : ¬ (i : Int) < (b : Int) := by omega
      obtain ⟨HM, HDi, HEi, HXi, HOi⟩ := HI.out
      have HN : Hid (Mod (· = g) w wr ∧ Dat wr g t rest (insOuter cf a (a + 1) (b - (a + 1)) xs)) := ⟨HM, by rw [← HOi, show b - i = 0 from by omega]; exact HDi⟩
      clear HM HDi HEi HXi HOi HI
      go_wp2
      go_end0
      exact ⟨rfl, HN.out⟩

/-- What a part of the sort has done to the world. -/
def Sorts (g : Nat) (t : TypeId) (rest : List Value) (E : World → Prop) (w w' : World) (ys : List Int) : Prop := Mod (· = g) w w' ∧ Dat w' g t rest ys ∧ E w'

theorem Sorts.below {g : Nat} {t : TypeId} {rest : List Value} {E : World → Prop} (hk : ∀ w w', E w → Mod (· = g) w w' → E w') {w W W' : World} {l : List Int} (h : Sorts g t rest E w W l) (hb : Below W.heap.size W W') : Sorts g t rest E w W' l :=
  ⟨h.1.trans (Mod.of_below hb _), h.2.1.below hb (Blk.lt h.2.1), hk _ _ h.2.2 (Mod.of_below hb _)⟩
theorem Sorts.trans {g : Nat} {t : TypeId} {rest : List Value} {E : World → Prop} {w W W' : World} {l l' : List Int} (h : Sorts g t rest E w W l) (h' : Sorts g t rest E W W' l') : Sorts g t rest E w W' l' :=
  ⟨h.1.trans h'.1, h'.2⟩

theorem exchanged {g : Nat} {t : TypeId} {rest : List Value} {E : World → Prop} (hk : ∀ w w', E w → Mod (· = g) w w' → E w') {w W : World} {l : List Int} (h : Sorts g t rest E w W l) (i j : Nat) (hi : i < l.length) (hj : j < l.length) (x y : Int) (hx : l.getD i 0 = x) (hy : l.getD j 0 = y) :
    Sorts g t rest E w ((W.setCell ⟨g, i, none⟩ (.int .i64 y)).setCell ⟨g, j, none⟩ (.int .i64 x)).drew (swp l i j) := by
  obtain ⟨hm, hd, he⟩ := h
  have hs : Mod (· = g) W ((W.setCell ⟨g, i, none⟩ (.int .i64 y)).setCell ⟨g, j, none⟩ (.int .i64 x)).drew := (((Mod.refl (· = g) W).setCell (p := ⟨g, i, none⟩) (fun _ => rfl) _).setCell (p := ⟨g, j, none⟩) (fun _ => rfl) _).drew
  exact ⟨hm.trans hs, by rw [swp_of _ _ _ _ _ hx hy]; exact Blk.drew ((hd.set_ i hi y).set_ j (by simpa using hj) x), hk _ _ he hs⟩

set_option maxHeartbeats 1000000 in
set_option maxRecDepth 100000 in
theorem swapRange (g : Nat) (E : World → Prop) (hk : ∀ w w', E w → Mod (· = g) w w' → E w') (t : TypeId) (rest : List Value) (f : Value) (xs : List Int) (c a b n : Nat) (w : World)
    (hE : E w) (hd : Dat w g t rest xs) (ha : a + n ≤ xs.length) (hb : b + n ≤ xs.length) (hn : xs.length ≤ 1073741824) :
    Calls Try.prog 155 #[.slice (some ⟨g, 0, none⟩) xs.length c, .int .i64 a, .int .i64 b, .int .i64 n, f] w fun e w' =>
      e = .returned (.tuple #[]) ∧ Sorts g t rest E w w' (swapR a b 0 n xs) := by
  have HK := Lib.hid hk
  have H0 : Hid (Sorts g t rest E w w xs) := ⟨Mod.refl _ _, hd, hE⟩
  clear hE hd hk
  go_enter Try.func155, Try.ntmps155
  go_wp2_with fail
  go_loopg [10] n (fun g1 vi wr => ∃ (i : Nat) (xi : List Int), vi = .int .i64 i ∧ i ≤ n ∧ n - i ≤ g1 ∧ xi.length = xs.length ∧ Hid (Sorts g t rest E w wr xi) ∧ Hid (swapR a b i (n - i) xi = swapR a b 0 n xs))
  case atStart => exact ⟨0, xs, by go_num, by omega, by omega, rfl, H0, rfl⟩
  case round =>
    clear H0
    obtain ⟨i, xi, rfl, hin, hg1, hsk, HS, HO⟩ := hrel
    by_cases hlt : i < n
    · have hltz : (i : Int) < (n : Int) := by omega
      have p1 : (0 : Int) ≤ (a : Int) + (i : Int) := by omega
      have p2 : (0 : Int) ≤ (b : Int) + (i : Int) := by omega
      have p3 : (a : Int) + (i : Int) < (xs.length : Int) := by omega
      have p4 : (b : Int) + (i : Int) < (xs.length : Int) := by omega
      have q1 : IntKind.i64.wrap ((a : Int) + (i : Int)) = (a : Int) + (i : Int) := by rw [IntKind.wrap_i64]; omega
      have q2 : IntKind.i64.wrap ((b : Int) + (i : Int)) = (b : Int) + (i : Int) := by rw [IntKind.wrap_i64]; omega
      obtain ⟨HM, HDi, HEi⟩ := HS.out
      have l3 := HDi.cell (a + i) (by omega)
      have l4 := HDi.cell (b + i) (by omega)
      have f3 := Blk.frozen HDi (a + i)
      have f4 := Blk.frozen HDi (b + i)
      obtain ⟨u, l5⟩ := HDi.there (a + i) (b + i) (by omega) (by omega) (xi.getD (b + i) 0)
      have HN := Lib.hid (exchanged HK.out HS.out (a + i) (b + i) (by omega) (by omega) _ _ rfl rfl)
      clear HM HDi HEi HS
      generalize xi.getD (a + i) 0 = x at *
      generalize xi.getD (b + i) 0 = y at *
      go_wp2_with fail
      go_region
      clear l3 l4 l5 f3 f4
      generalize ((wr.setCell ⟨g, a + i, none⟩ (.int .i64 y)).setCell ⟨g, b + i, none⟩ (.int .i64 x)).drew = w3 at *
      go_wp2
      go_roundg (n - (i + 1))
      case measure => omega
      case rel => exact ⟨i + 1, swp xi (a + i) (b + i), by go_num, by omega, Nat.le_refl _, by rw [swp_length]; exact hsk, HN, by rw [← HO.out, show n - i = (n - (i + 1)) + 1 from by omega, swapR]; exact rfl⟩
    · have hltz : ¬ (i : Int) < (n : Int) := by omega
      have HN : Hid (Sorts g t rest E w wr (swapR a b 0 n xs)) := by rw [← HO.out, show n - i = 0 from by omega]; exact HS.out
      clear HS
      go_wp2
      go_end0
      exact ⟨rfl, HN.out⟩

end Go.Proofs.Ytfpcgancmgeagaa
