/- Numbers that stop at their end: adding commutes, is undone by taking away, and stays in bounds, for all pairs. No further condition. -/
import Derived.Test.YtaodejfbmnoelaaPCountBackx1
namespace Go.Proofs.Ytaodejfbmnoelaa.Pure
open Go.RowKit Go.Proofs.Ytaodejfbmnoelaa.PCountBack Go.Proofs.YtaodejfbmnoelaaW.PrintWords Go.Proofs.YtaodejfbmnoelaaW.PrintLast

def up (a b : Int) : Int := min (min (max a 0) 1099511627776 + min (max b 0) 1099511627776) 1099511627776
def held (a : Int) : Int := min (max a 0) 1099511627776
theorem hold_eq (a : Int) : count_Hold.f a = some (held a) := by
  unfold count_Hold.f mn mx held
  congr 1
  split <;> split <;> omega
theorem held_rng (a : Int) : 0 ≤ held a ∧ held a ≤ 1099511627776 := by unfold held; omega
theorem up_eq (a b : Int) : count_Up.f a b = some (up a b) := by
  unfold count_Up.f
  have ha := held_rng a
  have hb := held_rng b
  simp only [hold_eq, Option.bind_some]
  have hw : wrap64 (held a + held b) = held a + held b := by unfold wrap64; omega
  rw [hw]
  unfold held up
  congr 1
  omega
theorem down_eq (a b : Int) : count_Down.f a b = some (max (held a - held b) 0) := by
  unfold count_Down.f
  have ha := held_rng a
  have hb := held_rng b
  simp only [hold_eq, Option.bind_some]
  have hw : wrap64 (held a - held b) = held a - held b := by unfold wrap64; omega
  rw [hw]
  congr 1
  unfold held at *
  omega
def total (s : Int) (l : List Int) : Int := l.foldl up s
def sumH : List Int → Int
  | [] => 0
  | x :: l => held x + sumH l
theorem sumH_nonneg (l : List Int) : 0 ≤ sumH l := by
  induction l with
  | nil => exact Int.le_refl _
  | cons x l ih => have := held_rng x; simp only [sumH]; omega
theorem sumH_append (l m : List Int) : sumH (l ++ m) = sumH l + sumH m := by
  induction l with
  | nil => simp [sumH]
  | cons x l ih => simp only [List.cons_append, sumH, ih]; omega
theorem sumH_reverse (l : List Int) : sumH l.reverse = sumH l := by
  induction l with
  | nil => rfl
  | cons x l ih => rw [List.reverse_cons, sumH_append, ih]; simp only [sumH]; omega
theorem total_eq (l : List Int) : ∀ s, 0 ≤ s → s ≤ 1099511627776 → total s l = min (s + sumH l) 1099511627776 := by
  induction l with
  | nil => intro s h0 h1; simp only [total, List.foldl_nil, sumH]; omega
  | cons x l ih =>
    intro s h0 h1
    have hx := held_rng x
    have hs := sumH_nonneg l
    have e : total s (x :: l) = total (up s x) l := rfl
    have hu : up s x = min (s + held x) 1099511627776 := by unfold up held; omega
    rw [e, hu, ih _ (by omega) (by omega)]
    simp only [sumH]
    omega
theorem total_loop (xs : List Int) (hn : xs.length ≤ 9223372036854775807) (d : Nat) : ∀ (k : Nat) (s : Int) (i : Int), 0 ≤ i → i + d = xs.length → d < k →
    count_Total.l0 k s xs (xs.length : Int) i = some (total s (xs.drop i.toNat)) := by
  induction d with
  | zero =>
    intro k s i h0 hd hk
    obtain ⟨k, rfl⟩ : ∃ m, k = m + 1 := ⟨k - 1, by omega⟩
    simp only [count_Total.l0]
    rw [if_neg (by omega), List.drop_eq_nil_of_le (by omega)]
    rfl
  | succ d ih =>
    intro k s i h0 hd hk
    obtain ⟨k, rfl⟩ : ∃ m, k = m + 1 := ⟨k - 1, by omega⟩
    simp only [count_Total.l0]
    rw [if_pos (by omega), if_pos h0, if_pos (by omega), up_eq]
    simp only [Option.bind_some]
    have hw : wrap64 (i + 1) = i + 1 := by unfold wrap64; omega
    rw [hw, ih k _ (i + 1) (by omega) (by omega) (by omega)]
    have hi : i.toNat < xs.length := by omega
    have hr : rd xs i = xs[i.toNat] := by unfold rd; rw [List.getD_eq_getElem?_getD, List.getElem?_eq_getElem hi]; rfl
    rw [List.drop_eq_getElem_cons hi, hr, show (i + 1).toNat = i.toNat + 1 by omega]
    rfl
theorem total_f (xs : List Int) (hn : xs.length ≤ 9223372036854775807) (k : Nat) (hk : xs.length < k) : count_Total.f k xs = some (min (sumH xs) 1099511627776) := by
  unfold count_Total.f
  rw [total_loop xs hn xs.length k 0 0 (Int.le_refl _) (by omega) hk, total_eq _ _ (Int.le_refl _) (by omega)]
  simp
theorem awake_eq (k : Nat) (hk : 3 < k) : fuseboxlaw01_awake.f k = some true := by
  unfold fuseboxlaw01_awake.f
  simp only [hold_eq, up_eq, down_eq, Option.bind_some]
  rw [total_f [1, 2, 3] (by decide) k hk]
  decide

theorem j1_eq (k : Nat) (a b : Int) : fuseboxlaw01_CountBack.j1 (k + 1) a b (held a) (held b) false = some true := by
  have ha := held_rng a
  have hb := held_rng b
  have e0 : held 0 = 0 := by decide
  simp only [fuseboxlaw01_CountBack.j1, down_eq, up_eq, Option.bind_some, Bool.false_eq_true, if_false, e0]
  rw [if_pos (by omega), if_pos (by omega)]
  congr 1
  rw [beq_iff_eq]
  unfold mx up
  unfold held at *
  split <;> omega
theorem CountBack : fuseboxlaw01_CountBack.Pure := by
  intro a b _ _
  have ha := held_rng a
  have hb := held_rng b
  have hu : up a b = min (held a + held b) 1099511627776 := rfl
  have hv : up b a = min (held b + held a) 1099511627776 := rfl
  have hh : held (held a) = held a := by unfold held; omega
  refine ⟨6, ?_⟩
  unfold fuseboxlaw01_CountBack.f
  rw [awake_eq _ (by omega)]
  simp only [hold_eq, up_eq, Option.bind_some, if_true]
  rw [if_neg (by omega), if_neg (by omega), if_pos hh, if_pos (by omega), if_neg (by omega), if_neg (by omega)]
  rw [show decide (up a b > 1099511627776) = false from decide_eq_false (by omega)]
  simp only [fuseboxlaw01_CountBack.j0, down_eq, Option.bind_some, Bool.false_eq_true, if_false]
  by_cases hlt : up a b < 1099511627776
  · have e : held (up a b) = up a b := by unfold held; omega
    rw [if_pos hlt, e, if_pos (by omega)]
    rw [show (max (up a b - held a) 0 != held b) = false by rw [bne_eq_false_iff_eq]; omega]
    exact j1_eq 4 a b
  · rw [if_neg hlt]
    exact j1_eq 4 a b

end Go.Proofs.Ytaodejfbmnoelaa.Pure
