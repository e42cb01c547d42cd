/- Numbers that stop at their end: a total is that of its two parts and of the reversed list, for every list of at most 300 numbers. No further condition. -/
import Derived.Test.YtaodejfbmnoelaaPCountTotalx2
namespace Go.Proofs.Ytaodejfbmnoelaa.Pure
open Go.RowKit Go.Proofs.Ytaodejfbmnoelaa.PCountTotal Go.Proofs.YtaodejfbmnoelaaW.PrintWords Go.Proofs.YtaodejfbmnoelaaW.PrintLast

def up (a b : Int) : Int := min (min (max a 0) 1099511627776 + min (max b 0) 1099511627776) 1099511627776
def held (a : Int) : Int := min (max a 0) 1099511627776
theorem hold_eq (a : Int) : count_Hold.f a = some (held a) := by
  unfold count_Hold.f mn mx held
  congr 1
  split <;> split <;> omega
theorem held_rng (a : Int) : 0 ≤ held a ∧ held a ≤ 1099511627776 := by unfold held; omega
theorem up_eq (a b : Int) : count_Up.f a b = some (up a b) := by
  unfold count_Up.f
  have ha := held_rng a
  have hb := held_rng b
  simp only [hold_eq, Option.bind_some]
  have hw : wrap64 (held a + held b) = held a + held b := by unfold wrap64; omega
  rw [hw]
  unfold held up
  congr 1
  omega
theorem down_eq (a b : Int) : count_Down.f a b = some (max (held a - held b) 0) := by
  unfold count_Down.f
  have ha := held_rng a
  have hb := held_rng b
  simp only [hold_eq, Option.bind_some]
  have hw : wrap64 (held a - held b) = held a - held b := by unfold wrap64; omega
  rw [hw]
  congr 1
  unfold held at *
  omega
def total (s : Int) (l : List Int) : Int := l.foldl up s
def sumH : List Int → Int
  | [] => 0
  | x :: l => held x + sumH l
theorem sumH_nonneg (l : List Int) : 0 ≤ sumH l := by
  induction l with
  | nil => exact Int.le_refl _
  | cons x l ih => have := held_rng x; simp only [sumH]; omega
theorem sumH_append (l m : List Int) : sumH (l ++ m) = sumH l + sumH m := by
  induction l with
  | nil => simp [sumH]
  | cons x l ih => simp only [List.cons_append, sumH, ih]; omega
theorem sumH_reverse (l : List Int) : sumH l.reverse = sumH l := by
  induction l with
  | nil => rfl
  | cons x l ih => rw [List.reverse_cons, sumH_append, ih]; simp only [sumH]; omega
theorem total_eq (l : List Int) : ∀ s, 0 ≤ s → s ≤ 1099511627776 → total s l = min (s + sumH l) 1099511627776 := by
  induction l with
  | nil => intro s h0 h1; simp only [total, List.foldl_nil, sumH]; omega
  | cons x l ih =>
    intro s h0 h1
    have hx := held_rng x
    have hs := sumH_nonneg l
    have e : total s (x :: l) = total (up s x) l := rfl
    have hu : up s x = min (s + held x) 1099511627776 := by unfold up held; omega
    rw [e, hu, ih _ (by omega) (by omega)]
    simp only [sumH]
    omega
theorem total_loop (xs : List Int) (hn : xs.length ≤ 9223372036854775807) (d : Nat) : ∀ (k : Nat) (s : Int) (i : Int), 0 ≤ i → i + d = xs.length → d < k →
    count_Total.l0 k s xs (xs.length : Int) i = some (total s (xs.drop i.toNat)) := by
  induction d with
  | zero =>
    intro k s i h0 hd hk
    obtain ⟨k, rfl⟩ : ∃ m, k = m + 1 := ⟨k - 1, by omega⟩
    simp only [count_Total.l0]
    rw [if_neg (by omega), List.drop_eq_nil_of_le (by omega)]
    rfl
  | succ d ih =>
    intro k s i h0 hd hk
    obtain ⟨k, rfl⟩ : ∃ m, k = m + 1 := ⟨k - 1, by omega⟩
    simp only [count_Total.l0]
    rw [if_pos (by omega), if_pos h0, if_pos (by omega), up_eq]
    simp only [Option.bind_some]
    have hw : wrap64 (i + 1) = i + 1 := by unfold wrap64; omega
    rw [hw, ih k _ (i + 1) (by omega) (by omega) (by omega)]
    have hi : i.toNat < xs.length := by omega
    have hr : rd xs i = xs[i.toNat] := by unfold rd; rw [List.getD_eq_getElem?_getD, List.getElem?_eq_getElem hi]; rfl
    rw [List.drop_eq_getElem_cons hi, hr, show (i + 1).toNat = i.toNat + 1 by omega]
    rfl
theorem total_f (xs : List Int) (hn : xs.length ≤ 9223372036854775807) (k : Nat) (hk : xs.length < k) : count_Total.f k xs = some (min (sumH xs) 1099511627776) := by
  unfold count_Total.f
  rw [total_loop xs hn xs.length k 0 0 (Int.le_refl _) (by omega) hk, total_eq _ _ (Int.le_refl _) (by omega)]
  simp
theorem awake_eq (k : Nat) (hk : 3 < k) : fuseboxlaw01_awake.f k = some true := by
  unfold fuseboxlaw01_awake.f
  simp only [hold_eq, up_eq, down_eq, Option.bind_some]
  rw [total_f [1, 2, 3] (by decide) k hk]
  decide

theorem total_back (xs : List Int) (hn : xs.length ≤ 300) (c : Int) (hc0 : 0 ≤ c) (hc1 : c ≤ xs.length) (d : Nat) : ∀ (k : Nat) (ys : List Int) (i : Int), i + 1 = d → i < xs.length → d + xs.length + 5 < k →
    ys = (xs.drop d).reverse →
    fuseboxlaw01_CountTotal.l0 k xs c ys i = some true := by
  induction d with
  | zero =>
    intro k ys i hd hi hk hy
    obtain ⟨k, rfl⟩ : ∃ m, k = m + 1 := ⟨k - 1, by omega⟩
    have hlen : ys.length = xs.length := by rw [hy]; simp
    simp only [fuseboxlaw01_CountTotal.l0]
    rw [if_neg (by omega), total_f xs (by omega) k (by omega)]
    simp only [Option.bind_some]
    rw [if_pos hc0, if_pos hc1, total_f (xs.take c.toNat) (by rw [List.length_take]; omega) k (by rw [List.length_take]; omega)]
    simp only [Option.bind_some]
    rw [total_f (xs.drop c.toNat) (by rw [List.length_drop]; omega) k (by rw [List.length_drop]; omega)]
    simp only [Option.bind_some, up_eq]
    rw [total_f ys (by omega) k (by omega)]
    have e1 : sumH xs = sumH (xs.take c.toNat) + sumH (xs.drop c.toNat) := by rw [← sumH_append, List.take_append_drop]
    have e2 : sumH ys = sumH xs := by rw [hy, List.drop_zero, sumH_reverse]
    have h1 := sumH_nonneg (xs.take c.toNat)
    have h2 := sumH_nonneg (xs.drop c.toNat)
    simp only [Option.bind_some]
    rw [if_pos (by unfold up; omega), if_pos (by rw [e2]), if_pos (by omega)]
    congr 1
    rw [decide_eq_true_eq]
    omega
  | succ d ih =>
    intro k ys i hd hi hk hy
    obtain ⟨k, rfl⟩ : ∃ m, k = m + 1 := ⟨k - 1, by omega⟩
    have hlen : ys.length = xs.length - (d + 1) := by rw [hy]; simp
    simp only [fuseboxlaw01_CountTotal.l0]
    rw [if_pos (by omega), if_pos (by omega), if_pos (by omega), if_pos (by omega)]
    have hw : wrap64 (i - 1) = i - 1 := by unfold wrap64; omega
    rw [hw]
    refine ih k _ (i - 1) (by omega) (by omega) (by omega) ?_
    have hi' : d < xs.length := by omega
    have hr : rd xs i = xs[d] := by unfold rd; rw [show i.toNat = d by omega, List.getD_eq_getElem?_getD, List.getElem?_eq_getElem hi']; rfl
    rw [hr, hy, List.drop_eq_getElem_cons hi', List.reverse_cons]
theorem CountTotal : fuseboxlaw01_CountTotal.Pure := by
  intro xs a hl _ _ ha
  refine ⟨xs.length + xs.length + 7, ?_⟩
  unfold fuseboxlaw01_CountTotal.f
  rw [awake_eq _ (by omega)]
  simp only [Option.bind_some, if_true]
  split
  · rfl
  · rename_i hn
    have ha' : 0 ≤ a ∧ a ≤ 65535 := by
      simp only [Lit.wf, IntKind.min, IntKind.max, IntKind.signed, IntKind.bits] at ha
      simp at ha
      omega
    have hw : wrap64 a = a := by unfold wrap64; omega
    have hw1 : wrap64 ((xs.length : Int) + 1) = xs.length + 1 := by unfold wrap64; omega
    have hw2 : wrap64 ((xs.length : Int) - 1) = xs.length - 1 := by unfold wrap64; omega
    rw [hw, hw1, hw2, if_neg (by omega)]
    have hm : Int.tmod a ((xs.length : Int) + 1) = a % ((xs.length : Int) + 1) := Int.tmod_eq_emod_of_nonneg ha'.1
    have h1 := Int.emod_nonneg a (show (xs.length : Int) + 1 ≠ 0 by omega)
    have h2 := Int.emod_lt_of_pos a (show 0 < (xs.length : Int) + 1 by omega)
    rw [hm]
    exact total_back xs (by omega) _ h1 (by omega) xs.length _ [] _ (by omega) (by omega) (by omega) (by simp)

end Go.Proofs.Ytaodejfbmnoelaa.Pure
