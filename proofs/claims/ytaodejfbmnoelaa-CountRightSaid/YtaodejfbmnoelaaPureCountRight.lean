/- Numbers that stop at their end: Hold, Up, Down and Total answer as the reference does, for every input of at most 300 numbers. No further condition. -/
import Derived.Test.YtaodejfbmnoelaaPCountRightx1
namespace Go.Proofs.Ytaodejfbmnoelaa.Pure
open Go.RowKit Go.Proofs.Ytaodejfbmnoelaa.PCountRight Go.Proofs.YtaodejfbmnoelaaW.PrintWords Go.Proofs.YtaodejfbmnoelaaW.PrintLast

def up (a b : Int) : Int := min (min (max a 0) 1099511627776 + min (max b 0) 1099511627776) 1099511627776
def held (a : Int) : Int := min (max a 0) 1099511627776
theorem hold_eq (a : Int) : count_Hold.f a = some (held a) := by
  unfold count_Hold.f mn mx held
  congr 1
  split <;> split <;> omega
theorem held_rng (a : Int) : 0 ≤ held a ∧ held a ≤ 1099511627776 := by unfold held; omega
theorem up_eq (a b : Int) : count_Up.f a b = some (up a b) := by
  unfold count_Up.f
  have ha := held_rng a
  have hb := held_rng b
  simp only [hold_eq, Option.bind_some]
  have hw : wrap64 (held a + held b) = held a + held b := by unfold wrap64; omega
  rw [hw]
  unfold held up
  congr 1
  omega
theorem down_eq (a b : Int) : count_Down.f a b = some (max (held a - held b) 0) := by
  unfold count_Down.f
  have ha := held_rng a
  have hb := held_rng b
  simp only [hold_eq, Option.bind_some]
  have hw : wrap64 (held a - held b) = held a - held b := by unfold wrap64; omega
  rw [hw]
  congr 1
  unfold held at *
  omega
def total (s : Int) (l : List Int) : Int := l.foldl up s
def sumH : List Int → Int
  | [] => 0
  | x :: l => held x + sumH l
theorem sumH_nonneg (l : List Int) : 0 ≤ sumH l := by
  induction l with
  | nil => exact Int.le_refl _
  | cons x l ih => have := held_rng x; simp only [sumH]; omega
theorem sumH_append (l m : List Int) : sumH (l ++ m) = sumH l + sumH m := by
  induction l with
  | nil => simp [sumH]
  | cons x l ih => simp only [List.cons_append, sumH, ih]; omega
theorem sumH_reverse (l : List Int) : sumH l.reverse = sumH l := by
  induction l with
  | nil => rfl
  | cons x l ih => rw [List.reverse_cons, sumH_append, ih]; simp only [sumH]; omega
theorem total_eq (l : List Int) : ∀ s, 0 ≤ s → s ≤ 1099511627776 → total s l = min (s + sumH l) 1099511627776 := by
  induction l with
  | nil => intro s h0 h1; simp only [total, List.foldl_nil, sumH]; omega
  | cons x l ih =>
    intro s h0 h1
    have hx := held_rng x
    have hs := sumH_nonneg l
    have e : total s (x :: l) = total (up s x) l := rfl
    have hu : up s x = min (s + held x) 1099511627776 := by unfold up held; omega
    rw [e, hu, ih _ (by omega) (by omega)]
    simp only [sumH]
    omega
theorem total_loop (xs : List Int) (hn : xs.length ≤ 9223372036854775807) (d : Nat) : ∀ (k : Nat) (s : Int) (i : Int), 0 ≤ i → i + d = xs.length → d < k →
    count_Total.l0 k s xs (xs.length : Int) i = some (total s (xs.drop i.toNat)) := by
  induction d with
  | zero =>
    intro k s i h0 hd hk
    obtain ⟨k, rfl⟩ : ∃ m, k = m + 1 := ⟨k - 1, by omega⟩
    simp only [count_Total.l0]
    rw [if_neg (by omega), List.drop_eq_nil_of_le (by omega)]
    rfl
  | succ d ih =>
    intro k s i h0 hd hk
    obtain ⟨k, rfl⟩ : ∃ m, k = m + 1 := ⟨k - 1, by omega⟩
    simp only [count_Total.l0]
    rw [if_pos (by omega), if_pos h0, if_pos (by omega), up_eq]
    simp only [Option.bind_some]
    have hw : wrap64 (i + 1) = i + 1 := by unfold wrap64; omega
    rw [hw, ih k _ (i + 1) (by omega) (by omega) (by omega)]
    have hi : i.toNat < xs.length := by omega
    have hr : rd xs i = xs[i.toNat] := by unfold rd; rw [List.getD_eq_getElem?_getD, List.getElem?_eq_getElem hi]; rfl
    rw [List.drop_eq_getElem_cons hi, hr, show (i + 1).toNat = i.toNat + 1 by omega]
    rfl
theorem total_f (xs : List Int) (hn : xs.length ≤ 9223372036854775807) (k : Nat) (hk : xs.length < k) : count_Total.f k xs = some (min (sumH xs) 1099511627776) := by
  unfold count_Total.f
  rw [total_loop xs hn xs.length k 0 0 (Int.le_refl _) (by omega) hk, total_eq _ _ (Int.le_refl _) (by omega)]
  simp
theorem awake_eq (k : Nat) (hk : 3 < k) : fuseboxlaw01_awake.f k = some true := by
  unfold fuseboxlaw01_awake.f
  simp only [hold_eq, up_eq, down_eq, Option.bind_some]
  rw [total_f [1, 2, 3] (by decide) k hk]
  decide

theorem rhold_eq (a : Int) : fuseboxref01_Hold.f a = some (held a) := by
  unfold fuseboxref01_Hold.f held
  split
  · congr 1; omega
  · split <;> (congr 1; omega)
theorem rup_eq (a b : Int) : fuseboxref01_Up.f a b = some (up a b) := by
  unfold fuseboxref01_Up.f
  have ha := held_rng a
  have hb := held_rng b
  simp only [rhold_eq, Option.bind_some]
  have hw : wrap64 (1099511627776 - held b) = 1099511627776 - held b := by unfold wrap64; omega
  have hv : wrap64 (held a + held b) = held a + held b := by unfold wrap64; omega
  rw [hw, hv]
  have hu : up a b = min (held a + held b) 1099511627776 := rfl
  rw [hu]
  split <;> (congr 1; omega)
theorem rdown_eq (a b : Int) : fuseboxref01_Down.f a b = some (max (held a - held b) 0) := by
  unfold fuseboxref01_Down.f
  have ha := held_rng a
  have hb := held_rng b
  simp only [rhold_eq, Option.bind_some]
  have hw : wrap64 (held a - held b) = held a - held b := by unfold wrap64; omega
  rw [hw]
  split <;> (congr 1; omega)
theorem right_loop (a b : Int) (xs : List Int) (hn : xs.length ≤ 9223372036854775807) (d : Nat) : ∀ (k : Nat) (s : Int) (i : Int), 0 ≤ i → i + d = xs.length → d + xs.length + 4 < k →
    s = total 0 (xs.take i.toNat) →
    fuseboxlaw01_CountRight.l0 k a b xs s i = some true := by
  induction d with
  | zero =>
    intro k s i h0 hd hk hs
    obtain ⟨k, rfl⟩ : ∃ m, k = m + 1 := ⟨k - 1, by omega⟩
    simp only [fuseboxlaw01_CountRight.l0]
    rw [if_neg (by omega)]
    simp only [hold_eq, rhold_eq, up_eq, rup_eq, down_eq, rdown_eq, Option.bind_some, if_true]
    rw [total_f xs hn k (by omega), hs, List.take_of_length_le (by omega), total_eq _ _ (Int.le_refl _) (by omega)]
    simp
  | succ d ih =>
    intro k s i h0 hd hk hs
    obtain ⟨k, rfl⟩ : ∃ m, k = m + 1 := ⟨k - 1, by omega⟩
    simp only [fuseboxlaw01_CountRight.l0]
    rw [if_pos (by omega), if_pos h0, rup_eq]
    simp only [Option.bind_some]
    have hw : wrap64 (i + 1) = i + 1 := by unfold wrap64; omega
    rw [hw]
    refine ih k _ (i + 1) (by omega) (by omega) (by omega) ?_
    have hi : i.toNat < xs.length := by omega
    have hr : rd xs i = xs[i.toNat] := by unfold rd; rw [List.getD_eq_getElem?_getD, List.getElem?_eq_getElem hi]; rfl
    rw [show (i + 1).toNat = i.toNat + 1 by omega, List.take_succ_eq_append_getElem hi, hr, hs]
    unfold total
    rw [List.foldl_append]
    rfl
theorem CountRight : fuseboxlaw01_CountRight.Pure := by
  intro a b xs _ _ hl _ _
  have hn : xs.length ≤ 9223372036854775807 := by unfold maxLen at hl; exact hl
  refine ⟨xs.length + xs.length + 5, ?_⟩
  unfold fuseboxlaw01_CountRight.f
  rw [awake_eq _ (by omega)]
  simp only [Option.bind_some, if_true]
  split
  · rfl
  · exact right_loop a b xs hn xs.length _ 0 0 (Int.le_refl _) (by omega) (by omega) (by simp [total])

end Go.Proofs.Ytaodejfbmnoelaa.Pure
