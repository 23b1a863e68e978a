/- Contract of retain.order: the places of a list, sorted; the row is the call's own. -/
import Derived.Test.YtfpcgancmgeagaaOrd
import Derived.Test.YtfpcgancmgeagaaSortS
import Derived.Maps.AppendAt
namespace Go.Proofs.Ytfpcgancmgeagaa
open Go.RowKit

/-! rows of the call's own and the sort's rows -/
theorem own_dat {w : World} {base n : Nat} {e : TypeId} {v : Value} {xs : List Int} (h : w.ownsRow base e 1 v n (xs.map (Value.int .i64))) (hn : 0 < n) :
    ∃ g cap rest, v = .slice (some ⟨g, 0, none⟩) n cap ∧ base ≤ g ∧ n ≤ cap ∧ cap ≤ maxLen ∧ rest.length + n = cap ∧ Dat w g e rest xs := by
  obtain ⟨hl, h⟩ := h
  rcases h with ⟨_, h0⟩ | ⟨g, cap, cur, rfl, hb, hh, hnc, hc, hs, ht⟩
  · omega
  · refine ⟨g, cap, cur.toList.drop n, rfl, hb, hnc, hc, by simp; omega, ?_⟩
    unfold Dat Blk
    rw [hh, ← ht, Nat.mul_one, List.take_append_drop]
theorem dat_own {w : World} {g cap base n : Nat} {e : TypeId} {rest : List Value} {xs : List Int} (h : Dat w g e rest xs) (hb : base ≤ g) (hn : xs.length = n) (hr : rest.length + n = cap) (hc : cap ≤ maxLen) :
    w.ownsRow base e 1 (.slice (some ⟨g, 0, none⟩) n cap) n (xs.map (Value.int .i64)) := by
  refine ⟨by simp [hn], .inr ⟨g, cap, _, rfl, hb, h, by omega, hc, by simp; omega, ?_⟩⟩
  simp [← hn]
theorem own_mono {w : World} {base base' n size : Nat} {e : TypeId} {v : Value} {xs : List Value} (h : w.ownsRow base e size v n xs) (hb : base' ≤ base) : w.ownsRow base' e size v n xs := by
  obtain ⟨hl, h⟩ := h
  refine ⟨hl, h.imp id ?_⟩
  rintro ⟨g, cap, cur, rfl, h1, h2⟩
  exact ⟨g, cap, cur, rfl, by omega, h2⟩
theorem own_below {w w' : World} {base B n size : Nat} {e : TypeId} {v : Value} {xs : List Value} (h : w.ownsRow base e size v n xs) (hb : Below B w w') (hB : w.heap.size ≤ B) : w'.ownsRow base e size v n xs := by
  obtain ⟨hl, h⟩ := h
  refine ⟨hl, h.imp id ?_⟩
  rintro ⟨g, cap, cur, rfl, h1, h2, h3⟩
  exact ⟨g, cap, cur, rfl, h1, by rw [hb.block g (Nat.lt_of_lt_of_le (Array.getElem?_eq_some_iff.1 h2).1 hB)]; exact h2, h3⟩

def rng (n : Nat) : List Int := (List.range n).map fun (i : Nat) => (i : Int)
theorem rng_length (n : Nat) : (rng n).length = n := by simp [rng]
theorem rng_succ (n : Nat) : rng (n + 1) = rng n ++ [(n : Int)] := by simp [rng, List.range_succ]
theorem rng_rising (n : Nat) : (rng n).Pairwise (· < ·) := by
  unfold rng
  rw [List.pairwise_map]
  exact List.pairwise_lt_range.imp (fun h => by omega)
theorem mem_rng {n : Nat} {x : Int} (h : x ∈ rng n) : 0 ≤ x ∧ x < n := by
  obtain ⟨i, hi, rfl⟩ := List.mem_map.1 h
  have := List.mem_range.1 hi
  omega

/-- The comparing function of retain.order. -/
def ordCf (xs : List Sn) (x y : Int) : Int := ordCmp xs x.toNat y.toNat
/-- The places of a list, as it would be sorted. -/
def order (xs : List Sn) : List Int := stable (ordCf xs) (rng xs.length)

theorem order_length (xs : List Sn) : (order xs).length = xs.length := by unfold order; rw [stable_length, rng_length]
theorem own_zero {w : World} {base n size : Nat} {e : TypeId} {v : Value} {xs : List Value} (h : w.ownsRow base e size v n xs) (hn : n = 0) : ∃ A c, v = .slice A 0 c := by
  subst hn
  rcases h.2 with ⟨rfl, _⟩ | ⟨g, cap, cur, rfl, _⟩
  · exact ⟨_, _, rfl⟩
  · exact ⟨_, _, rfl⟩

theorem A_info_int : (Try.prog.info? 3).map (fun i => (i.zero, i.size, i.bytes)) = some (some (.int .i64 0), 1, 8) := by kernel_rfl

theorem order_cmpOk (xs : List Sn) (A : Option Addr) (c g : Nat) (w : World) (hlen : xs.length ≤ 1073741824) (h : SnsAt w A xs) (hg : w.heap.size + 1 ≤ g) :
    CmpOk 69 #[.pointer (some ⟨w.heap.size, 0, none⟩)] (ordCf xs) (fun x => 0 ≤ x ∧ x < xs.length) g (fun W => Below w.heap.size w W ∧ Blk W w.heap.size 22 [.slice A xs.length c]) where
  enters := enters_of Try.func69 (by kernel_rfl) rfl
  keeps := fun W W' hE hm => ⟨hE.1.trans (hm.belowB (hE.1.size) (fun k hk e => by omega)), hE.2.mod hm (by omega)⟩
  calls := fun W x y hE hx hy => by
    obtain ⟨i, rfl⟩ := Int.eq_ofNat_of_zero_le hx.1
    obtain ⟨j, rfl⟩ := Int.eq_ofNat_of_zero_le hy.1
    have := order_cmp xs A c w.heap.size W (hE.2.cell 0) hlen (h.below hE.1) i j (by omega) (by omega)
    simpa [ordCf] using this

set_option maxHeartbeats 1000000 in
set_option maxRecDepth 100000 in
theorem order_any (xs : List Sn) (A : Option Addr) (c : Nat) (w : World) (hlen : xs.length ≤ 1073741824) (h : SnsAt w A xs) :
    Calls Try.prog 32 #[.slice A xs.length c] w fun e w' => ∃ v, e = .returned v ∧ w'.ownsRow w.heap.size 3 1 v xs.length ((order xs).map (Value.int .i64)) ∧ Below w.heap.size w w' := by
  obtain ⟨i0, hi, hz0, hz1, hz2⟩ := info_parts A_info_int
  have HS := Lib.hid h
  clear h
  go_enter Try.func32, Try.ntmps32
  have hb0 : Blk (w.alloc (.cells #[.slice A xs.length c] 22)) w.heap.size 22 [.slice A xs.length c] := Blk.new _ _ _
  have HB := Lib.hid hb0
  clear hb0
  go_wp2_with fail
  go_loopw [3, 4, 7] (fun v _ i wr => ∃ k : Nat, k ≤ xs.length ∧ i = .int .i64 k ∧ Hid (wr.ownsRow (w.heap.size + 1) 3 1 v k ((rng k).map (Value.int .i64)) ∧ Below w.heap.size w wr ∧ Blk wr w.heap.size 22 [.slice A xs.length c])) (fun _ _ i _ => xs.length - (intOf i).toNat)
  case atStart => exact ⟨0, Nat.zero_le _, by go_num, ⟨World.ownsRow_nil _ _ _ _, (Below.refl _ _).alloc (Nat.le_refl _) _, HB.out⟩⟩
  case round =>
    obtain ⟨k, hk, rfl, HK⟩ := hrel
    clear HB
    by_cases hlt : k < xs.length
    · have hltz : (k : Int) < (xs.length : Int) := by omega
      obtain ⟨hown, hbel, hblk⟩ := HK.out
      have HBEL := Lib.hid hbel
      have HBLK := Lib.hid hblk
      have HOWN := Lib.hid hown
      clear hown hbel hblk HK
      go_wp2_with (at_builtin; refine wpList_append_own _ rfl _ _ 32 rfl (w.heap.size + 1) 3 i0 (.int .i64 0) 1 8 Try.underlying32 hi hz0 hz1 hz2 rfl (by decide) _ _ _ rfl (HOWN.out.alloc _) ⟨wr.heap.size, 0, none⟩ 1 1 [.int .i64 k] rfl rfl ?c1 ?c2 ?c3 ?c4 ?c5 ?_)
      case c1 => exact cell_one_new _ _ _
      case c2 => simp [Value.oneCell']
      case c3 => unfold maxLen; omega
      case c4 => omega
      case c5 => have := HBLK.out.lt; simp; omega
      intro v' w1 hown' hgrow _
      have HN : Hid (w1.ownsRow (w.heap.size + 1) 3 1 v' (k + 1) ((rng (k + 1)).map (Value.int .i64)) ∧ Below w.heap.size w w1 ∧ Blk w1 w.heap.size 22 [.slice A xs.length c]) := by
        refine ⟨by rw [rng_succ, List.map_append]; exact hown', ?_, ?_⟩
        · exact ((HBEL.out.alloc HBEL.out.size _)).grown hgrow (by have := HBEL.out.size; simp; omega) (fun j hj => by have := HOWN.out.lt j hj; omega)
        · refine (hgrow.block w.heap.size (by have := HBLK.out.lt; simp; omega) (fun e => ?_)).trans (HBLK.out.alloc _)
          have := HOWN.out.lt _ e.symm
          omega
      clear hown' hgrow HBEL HBLK HOWN
      go_wp2
      go_roundw
      case rel => exact ⟨k + 1, by omega, by go_num, HN⟩
      case measure => simp [intOf]; omega
    · obtain rfl : k = xs.length := by omega
      have hltz : ¬ (xs.length : Int) < (xs.length : Int) := by omega
      obtain ⟨hown, hbel, hblk⟩ := HK.out
      rcases Nat.eq_zero_or_pos xs.length with h0 | h0
      · obtain ⟨A', c', hv⟩ := own_zero hown h0
        have HO : Hid (wr.ownsRow w.heap.size 3 1 (.slice A' 0 c') xs.length ((order xs).map (Value.int .i64)) ∧ Below w.heap.size w wr) := by
          refine ⟨?_, hbel⟩
          rw [← hv]
          have e : order xs = rng xs.length := by unfold order stable st2 st1 ins insOuter; rw [h0]; simp [rng]
          rw [e]
          exact own_mono hown (by omega)
        clear hown hbel hblk HK h0
        subst hv
        go_wp2_with fail
        refine (sortStable_zero _ _ _ _).mono ?_
        rintro _ w1 ⟨rfl, rfl⟩
        go_wp2
        go_ret
        exact ⟨_, rfl, HO.out⟩
      · obtain ⟨g, cap, rest, hv, hg, hnc, hcm, hrest, hdat⟩ := own_dat hown h0
        have hcall := sortStable 69 _ (ordCf xs) _ g _ (order_cmpOk xs A c g w hlen HS.out hg) 3 rest (rng xs.length) cap xs.length wr ⟨hbel, hblk⟩ (fun x hx => mem_rng hx) hdat (rng_length _) hlen
        have HC := Lib.hid hcall
        have HO : Hid (∀ W, Sorts g 3 rest (fun W => Below w.heap.size w W ∧ Blk W w.heap.size 22 [.slice A xs.length c]) wr W (stable (ordCf xs) (rng xs.length)) → W.ownsRow w.heap.size 3 1 (.slice (some ⟨g, 0, none⟩) xs.length cap) xs.length ((order xs).map (Value.int .i64)) ∧ Below w.heap.size w W) := fun W hW =>
          ⟨dat_own hW.2.1 (by omega) (by exact order_length xs) (by omega) hcm, hW.2.2.1⟩
        clear hcall hown hbel hblk HK hdat
        subst hv
        go_wp2_with fail
        refine HC.out.mono ?_
        rintro _ w1 ⟨rfl, hs⟩
        have HF := Lib.hid (HO.out w1 hs)
        clear hs HO HC
        go_wp2
        go_ret
        exact ⟨_, rfl, HF.out⟩

end Go.Proofs.Ytfpcgancmgeagaa
