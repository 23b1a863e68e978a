/- The parts of the library's stable sort as plain functions on lists of numbers; what each leaves of the elements. No program in sight. -/
import Derived.WalkKit
namespace Go.Proofs.Ytfpcgancmgeagaa

def swp (l : List Int) (i j : Nat) : List Int := (l.set i (l.getD j 0)).set j (l.getD i 0)
theorem swp_length (l : List Int) (i j : Nat) : (swp l i j).length = l.length := by simp [swp]
theorem getD_mem (l : List Int) (i : Nat) (hi : i < l.length) : l.getD i 0 ∈ l := by rw [List.getD_eq_getElem?_getD, List.getElem?_eq_getElem hi]; simp
theorem mem_swp (l : List Int) (i j : Nat) (hi : i < l.length) (hj : j < l.length) {z : Int} (h : z ∈ swp l i j) : z ∈ l := by
  unfold swp at h
  rcases List.mem_or_eq_of_mem_set h with h | rfl
  · rcases List.mem_or_eq_of_mem_set h with h | rfl
    · exact h
    · exact getD_mem l j hj
  · exact getD_mem l i hi
theorem swp_of (l : List Int) (i j : Nat) (x y : Int) (hx : l.getD i 0 = x) (hy : l.getD j 0 = y) : swp l i j = (l.set i y).set j x := by rw [swp, hx, hy]

def insInner (cf : Int → Int → Int) (a : Nat) : Nat → List Int → List Int
  | 0, l => l
  | j + 1, l => if a < j + 1 ∧ cf (l.getD (j + 1) 0) (l.getD j 0) < 0 then insInner cf a j (swp l (j + 1) j) else l
theorem insInner_go (cf : Int → Int → Int) (a j : Nat) (l : List Int) (x y : Int) (hx : l.getD (j + 1) 0 = x) (hy : l.getD j 0 = y) (h : a < j + 1) (hc : cf x y < 0) : insInner cf a (j + 1) l = insInner cf a j (swp l (j + 1) j) := by
  rw [insInner, hx, hy, if_pos ⟨h, hc⟩]
theorem insInner_stop (cf : Int → Int → Int) (a j : Nat) (l : List Int) (x y : Int) (hx : l.getD (j + 1) 0 = x) (hy : l.getD j 0 = y) (hc : ¬ cf x y < 0) : insInner cf a (j + 1) l = l := by
  rw [insInner, hx, hy, if_neg (fun h => hc h.2)]
def insOuter (cf : Int → Int → Int) (a : Nat) : Nat → Nat → List Int → List Int
  | _, 0, l => l
  | i, n + 1, l => insOuter cf a (i + 1) n (insInner cf a i l)
/-- data[a:b] sorted by insertion. -/
def ins (cf : Int → Int → Int) (a b : Nat) (l : List Int) : List Int := insOuter cf a (a + 1) (b - (a + 1)) l

def swapR (a b : Nat) : Nat → Nat → List Int → List Int
  | _, 0, l => l
  | i, n + 1, l => swapR a b (i + 1) n (swp l (a + i) (b + i))
theorem swapR_length (a b : Nat) : ∀ (i n : Nat) (l : List Int), (swapR a b i n l).length = l.length
  | _, 0, _ => rfl
  | i, n + 1, l => by rw [swapR, swapR_length, swp_length]
theorem mem_swapR (a b : Nat) : ∀ (i n : Nat) (l : List Int), a + i + n ≤ l.length → b + i + n ≤ l.length → ∀ z ∈ swapR a b i n l, z ∈ l
  | _, 0, _, _, _, _, h => h
  | i, n + 1, l, ha, hb, z, h => mem_swp l _ _ (by omega) (by omega) (mem_swapR a b (i + 1) n _ (by rw [swp_length]; omega) (by rw [swp_length]; omega) z h)

/-- The exchange of two blocks, of i cells and of j, that meet at m. -/
def rot (m i j : Nat) (l : List Int) : List Int :=
  if _h : 0 < i ∧ 0 < j then
    if i = j then swapR (m - i) m 0 i l
    else if j < i then rot m (i - j) j (swapR (m - i) m 0 j l)
    else rot m i (j - i) (swapR (m - i) (m + j - i) 0 i l)
  else l
termination_by i + j
theorem rot_eq (m i : Nat) (l : List Int) (h : 0 < i) : rot m i i l = swapR (m - i) m 0 i l := by rw [rot, dif_pos ⟨h, h⟩, if_pos rfl]
theorem rot_gt (m i j : Nat) (l : List Int) (hj : 0 < j) (h : j < i) : rot m i j l = rot m (i - j) j (swapR (m - i) m 0 j l) := by rw [rot, dif_pos ⟨by omega, hj⟩, if_neg (by omega), if_pos h]
theorem rot_lt (m i j : Nat) (l : List Int) (hi : 0 < i) (h : i < j) : rot m i j l = rot m i (j - i) (swapR (m - i) (m + j - i) 0 i l) := by rw [rot, dif_pos ⟨hi, by omega⟩, if_neg (by omega), if_neg (by omega)]
theorem rot_length (m : Nat) : ∀ (n i j : Nat) (l : List Int), i + j ≤ n → (rot m i j l).length = l.length := by
  intro n
  induction n with
  | zero => intro i j l h; rw [rot, dif_neg (by omega)]
  | succ n ih =>
    intro i j l h
    rw [rot]
    split
    · split
      · exact swapR_length _ _ _ _ _
      · split
        · rw [ih _ _ _ (by omega), swapR_length]
        · rw [ih _ _ _ (by omega), swapR_length]
    · rfl
theorem mem_rot (m : Nat) : ∀ (n i j : Nat) (l : List Int), i + j ≤ n → i ≤ m → m + j ≤ l.length → ∀ z ∈ rot m i j l, z ∈ l := by
  intro n
  induction n with
  | zero => intro i j l h _ _ z hz; rw [rot, dif_neg (by omega)] at hz; exact hz
  | succ n ih =>
    intro i j l h him hj z hz
    rw [rot] at hz
    split at hz
    · split at hz
      · exact mem_swapR _ _ _ _ _ (by omega) (by omega) z hz
      · split at hz
        · exact mem_swapR _ _ _ _ _ (by omega) (by omega) z (ih _ _ _ (by omega) (by omega) (by rw [swapR_length]; omega) z hz)
        · exact mem_swapR _ _ _ _ _ (by omega) (by omega) z (ih _ _ _ (by omega) (by omega) (by rw [swapR_length]; omega) z hz)
    · exact hz

/-- The library's search between i and j: to the right where p says so. -/
def bs (p : Nat → Bool) (i j : Nat) : Nat :=
  if _h : i < j then (if p ((i + j) / 2) then bs p ((i + j) / 2 + 1) j else bs p i ((i + j) / 2)) else i
termination_by j - i
theorem bs_yes (p : Nat → Bool) (i j : Nat) (h : i < j) (hp : p ((i + j) / 2) = true) : bs p i j = bs p ((i + j) / 2 + 1) j := by rw [bs, dif_pos h, if_pos hp]
theorem bs_no (p : Nat → Bool) (i j : Nat) (h : i < j) (hp : p ((i + j) / 2) = false) : bs p i j = bs p i ((i + j) / 2) := by rw [bs, dif_pos h, if_neg (by rw [hp]; simp)]
theorem bs_end (p : Nat → Bool) (i : Nat) : bs p i i = i := by rw [bs, dif_neg (by omega)]
theorem bs_range (p : Nat → Bool) : ∀ (n i j : Nat), j - i ≤ n → i ≤ j → i ≤ bs p i j ∧ bs p i j ≤ j := by
  intro n
  induction n with
  | zero => intro i j h hij; rw [bs, dif_neg (by omega)]; omega
  | succ n ih =>
    intro i j h hij
    rw [bs]
    split
    · split
      · have := ih ((i + j) / 2 + 1) j (by omega) (by omega); omega
      · have := ih i ((i + j) / 2) (by omega) (by omega); omega
    · omega

def shR : Nat → Nat → List Int → List Int
  | _, 0, l => l
  | k, n + 1, l => shR (k + 1) n (swp l k (k + 1))
def shL (i : Nat) : Nat → List Int → List Int
  | 0, l => l
  | n + 1, l => shL i n (swp l (i + n + 1) (i + n))
theorem shR_length : ∀ (k n : Nat) (l : List Int), (shR k n l).length = l.length
  | _, 0, _ => rfl
  | k, n + 1, l => by rw [shR, shR_length, swp_length]
theorem shL_length (i : Nat) : ∀ (n : Nat) (l : List Int), (shL i n l).length = l.length
  | 0, _ => rfl
  | n + 1, l => by rw [shL, shL_length, swp_length]
theorem mem_shR : ∀ (k n : Nat) (l : List Int), k + n < l.length → ∀ z ∈ shR k n l, z ∈ l
  | _, 0, _, _, _, h => h
  | k, n + 1, l, ha, z, h => mem_swp l _ _ (by omega) (by omega) (mem_shR (k + 1) n _ (by rw [swp_length]; omega) z h)
theorem mem_shL (i : Nat) : ∀ (n : Nat) (l : List Int), i + n < l.length → ∀ z ∈ shL i n l, z ∈ l
  | 0, _, _, _, h => h
  | n + 1, l, ha, z, h => mem_swp l _ _ (by omega) (by omega) (mem_shL i n _ (by rw [swp_length]; omega) z h)

/-! the merge -/
def mid (a b : Nat) : Nat := (a + b) / 2
def smS (a m b : Nat) : Nat := if mid a b < m then mid a b + m - b else a
def smR (a m b : Nat) : Nat := if mid a b < m then mid a b else m
/-- Does the search of the merge go to the right? -/
def smP (cf : Int → Int → Int) (l : List Int) (q c : Nat) : Bool := !decide (cf (l.getD (q - c) 0) (l.getD c 0) < 0)
def smStart (cf : Int → Int → Int) (a m b : Nat) (l : List Int) : Nat := bs (smP cf l (mid a b + m - 1)) (smS a m b) (smR a m b)
def symm (cf : Int → Int → Int) : Nat → Nat → Nat → Nat → List Int → List Int
  | 0, _, _, _, l => l
  | f + 1, a, m, b, l =>
    if m - a = 1 then shR a (bs (fun h => decide (cf (l.getD h 0) (l.getD a 0) < 0)) m b - 1 - a) l
    else if b - m = 1 then shL (bs (fun h => !decide (cf (l.getD m 0) (l.getD h 0) < 0)) a m) (m - bs (fun h => !decide (cf (l.getD m 0) (l.getD h 0) < 0)) a m) l
    else
      let s := smStart cf a m b l
      let e := mid a b + m - s
      let l1 := if s < m ∧ m < e then rot m (m - s) (e - m) l else l
      let l2 := if a < s ∧ s < mid a b then symm cf f a s (mid a b) l1 else l1
      if mid a b < e ∧ e < b then symm cf f (mid a b) e b l2 else l2

theorem smS_le (a m b : Nat) (h1 : a < m) (h2 : m < b) : a ≤ smS a m b ∧ smS a m b ≤ smR a m b ∧ smR a m b ≤ m ∧ smR a m b ≤ mid a b + m - smS a m b ∧ mid a b + m - smS a m b ≤ b := by
  unfold smS smR mid; split <;> omega
theorem smStart_range (cf : Int → Int → Int) (a m b : Nat) (l : List Int) (h1 : a < m) (h2 : m < b) : smS a m b ≤ smStart cf a m b l ∧ smStart cf a m b l ≤ smR a m b :=
  bs_range _ _ _ _ (Nat.le_refl _) (smS_le a m b h1 h2).2.1
theorem symm_length (cf : Int → Int → Int) : ∀ (f a m b : Nat) (l : List Int), (symm cf f a m b l).length = l.length
  | 0, _, _, _, _ => rfl
  | f + 1, a, m, b, l => by
    rw [symm]
    split
    · exact shR_length _ _ _
    · split
      · exact shL_length _ _ _
      · dsimp only
        repeat' split
        all_goals simp only [symm_length cf f, rot_length m _ _ _ _ (Nat.le_refl _)]
theorem mem_symm (cf : Int → Int → Int) : ∀ (f a m b : Nat) (l : List Int), a < m → m < b → b ≤ l.length → ∀ z ∈ symm cf f a m b l, z ∈ l
  | 0, _, _, _, _, _, _, _, _, h => h
  | f + 1, a, m, b, l, h1, h2, hb, z, h => by
    have hs := smS_le a m b h1 h2
    have hr := smStart_range cf a m b l h1 h2
    rw [symm] at h
    split at h
    · have := bs_range (fun h => decide (cf (l.getD h 0) (l.getD a 0) < 0)) _ m b (Nat.le_refl _) (by omega)
      exact mem_shR _ _ _ (by omega) z h
    · split at h
      · have := bs_range (fun h => !decide (cf (l.getD m 0) (l.getD h 0) < 0)) _ a m (Nat.le_refl _) (by omega)
        exact mem_shL _ _ _ (by omega) z h
      · dsimp only at h
        generalize smStart cf a m b l = s at h hr
        have g1 : ∀ z ∈ (if s < m ∧ m < mid a b + m - s then rot m (m - s) (mid a b + m - s - m) l else l), z ∈ l := by
          intro z hz
          split at hz
          · exact mem_rot m _ _ _ l (Nat.le_refl _) (by omega) (by omega) z hz
          · exact hz
        have gl : (if s < m ∧ m < mid a b + m - s then rot m (m - s) (mid a b + m - s - m) l else l).length = l.length := by
          split
          · exact rot_length m _ _ _ _ (Nat.le_refl _)
          · rfl
        generalize (if s < m ∧ m < mid a b + m - s then rot m (m - s) (mid a b + m - s - m) l else l) = l1 at h g1 gl
        have g2 : ∀ z ∈ (if a < s ∧ s < mid a b then symm cf f a s (mid a b) l1 else l1), z ∈ l1 := by
          intro z hz
          split at hz
          · exact mem_symm cf f _ _ _ l1 (by omega) (by omega) (by unfold mid at *; omega) z hz
          · exact hz
        have gl2 : (if a < s ∧ s < mid a b then symm cf f a s (mid a b) l1 else l1).length = l1.length := by
          split
          · exact symm_length cf f _ _ _ _
          · rfl
        generalize (if a < s ∧ s < mid a b then symm cf f a s (mid a b) l1 else l1) = l2 at h g2 gl2
        split at h
        · exact g1 z (g2 z (mem_symm cf f _ _ _ l2 (by omega) (by omega) (by omega) z h))
        · exact g1 z (g2 z h)

end Go.Proofs.Ytfpcgancmgeagaa
