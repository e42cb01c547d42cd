/- Sums of bytes: what is changed within four bytes that follow one another is seen. -/
import Derived.Test.YtaodejfbmnoelaaCrcS
set_option maxRecDepth 100000
set_option maxHeartbeats 4000000
set_option linter.unusedVariables false
set_option linter.unusedSimpArgs false
namespace Go.Fx
open Go.Proofs
namespace Crc
/-- Four bytes as one number. -/
def wx (c : Nat → Nat) (i : Nat) : Nat := c i ^^^ 256 * (c (i + 1) ^^^ 256 * (c (i + 2) ^^^ 256 * c (i + 3)))
theorem xor_add (x m : Nat) (h : x < 256) : x ^^^ 256 * m = x + 256 * m := by
  have e := split8 (x + 256 * m)
  rw [show (x + 256 * m) / 256 = m by omega, show (x + 256 * m) % 256 = x by omega] at e
  rw [e, Nat.xor_comm]
theorem wx_eq {c : Nat → Nat} (hc : ∀ i, c i < 256) (i : Nat) : wx c i = c i + 256 * (c (i + 1) + 256 * (c (i + 2) + 256 * c (i + 3))) := by
  unfold wx
  rw [xor_add _ _ (hc (i + 2)), xor_add _ _ (hc (i + 1)), xor_add _ _ (hc i)]
theorem wx_lt {c : Nat → Nat} (hc : ∀ i, c i < 256) (i : Nat) : wx c i < 4294967296 := by
  rw [wx_eq hc]
  have := hc i; have := hc (i + 1); have := hc (i + 2); have := hc (i + 3)
  omega
theorem eat (s x m : Nat) : stp8 (s ^^^ (x ^^^ 256 * m)) = stp8 (s ^^^ x) ^^^ m := by
  rw [← Nat.xor_assoc, stp8_xor, stp8_high]
theorem prun4 (c : Nat → Nat) (i s : Nat) : prun c 4 i s = stp8 (stp8 (stp8 (stp8 (s ^^^ wx c i)))) := by
  unfold wx
  rw [eat, eat, eat]
  simp only [prun, xorN]
theorem prun_add (b : Nat → Nat) : ∀ (k m i s : Nat), prun b (k + m) i s = prun b m (i + k) (prun b k i s)
  | 0, m, i, s => by simp [prun]
  | k + 1, m, i, s => by
    rw [show k + 1 + m = (k + m) + 1 by omega, prun, prun_add b k m (i + 1), prun, show i + 1 + k = i + (k + 1) by omega]
theorem prun_congr {b c : Nat → Nat} : ∀ (k i s : Nat), (∀ j, i ≤ j → j < i + k → b j = c j) → prun b k i s = prun c k i s
  | 0, i, s, h => rfl
  | k + 1, i, s, h => by
    rw [prun, prun, h i (by omega) (by omega)]
    exact prun_congr k (i + 1) _ fun j h1 h2 => h j (by omega) (by omega)
theorem prun_inj {b : Nat → Nat} (hb : ∀ i, b i < 256) {k i s u : Nat} (hs : s < 4294967296) (hu : u < 4294967296) (h : prun b k i s = prun b k i u) : s = u := by
  rw [← prun_crun hb, ← prun_crun hb] at h
  exact crun_inj hb k i s u hs hu h
theorem four8_inj {a b : Nat} (ha : a < 4294967296) (hb : b < 4294967296) (h : stp8 (stp8 (stp8 (stp8 a))) = stp8 (stp8 (stp8 (stp8 b)))) : a = b := by
  have a1 := stp8_lt ha; have a2 := stp8_lt a1; have a3 := stp8_lt a2
  have b1 := stp8_lt hb; have b2 := stp8_lt b1; have b3 := stp8_lt b2
  exact stp8_inj ha hb (stp8_inj a1 b1 (stp8_inj a2 b2 (stp8_inj a3 b3 h)))
/-- What is left behind sealed bytes. -/
def G : Nat := stp8 (stp8 (stp8 (stp8 4294967295)))
theorem xor_cancel {a b c : Nat} (h : a ^^^ b = a ^^^ c) : b = c := by
  have e := congrArg (a ^^^ ·) h
  simpa only [← Nat.xor_assoc, Nat.xor_self, Nat.zero_xor] using e
theorem sealed_iff (n : Nat) {c : Nat → Nat} (hc : ∀ i, c i < 256) {g : Nat → List PV} (hg : ∀ i, i < 4 → byN g i = c (i + n)) : same 4 4 (fourF (plainN n c)) g = true ↔ prun c (n + 4) 0 4294967295 = G := by
  have hs := prun_lt hc n 0 4294967295 (by omega)
  have hp := plainN_lt n c
  have h1 : same 4 4 (fourF (plainN n c)) g = true ↔ wx c n = plainN n c := by
    unfold same
    rw [decide_eq_true_iff, wx_eq hc]
    have c0 := hc n; have c1 := hc (n + 1); have c2 := hc (n + 2); have c3 := hc (n + 3)
    constructor
    · rintro ⟨_, h⟩
      have h0 := h 0 (by omega); have h1 := h 1 (by omega); have h2 := h 2 (by omega); have h3 := h 3 (by omega)
      rw [byN_four _ _ (by omega), hg _ (by omega)] at h0 h1 h2 h3
      simp only [Nat.pow_zero, Nat.pow_one, Nat.reducePow, Nat.zero_add, Nat.add_comm _ n, Nat.add_zero, Nat.div_one] at h0 h1 h2 h3
      omega
    · intro h
      refine ⟨rfl, fun i hi => ?_⟩
      rw [byN_four _ _ hi, hg _ hi]
      match i, hi with
      | 0, _ => simp only [Nat.pow_zero, Nat.zero_add]; omega
      | 1, _ => simp only [Nat.pow_one, Nat.add_comm 1 n]; omega
      | 2, _ => simp only [Nat.reducePow, Nat.add_comm 2 n]; omega
      | 3, _ => simp only [Nat.reducePow, Nat.add_comm 3 n]; omega
  rw [h1, prun_add, Nat.zero_add, prun4]
  have hw := wx_lt hc n
  have e : plainN n c = prun c n 0 4294967295 ^^^ 4294967295 := by rw [nt_xor hs]; rfl
  constructor
  · intro h
    unfold G
    rw [h, e, ← Nat.xor_assoc, Nat.xor_self, Nat.zero_xor]
  · intro h
    have h2 := four8_inj (x32 hs hw) (by omega) h
    apply xor_cancel (a := prun c n 0 4294967295)
    rw [h2, e, ← Nat.xor_assoc, Nat.xor_self, Nat.zero_xor]
theorem burst_iff {m k : Nat} (hk : k + 4 ≤ m) {b c : Nat → Nat} (hb : ∀ i, b i < 256) (hc : ∀ i, c i < 256) (h : ∀ i, (i < k ∨ k + 4 ≤ i) → b i = c i) : prun c m 0 4294967295 = prun b m 0 4294967295 ↔ ∀ i, i < 4 → b (k + i) = c (k + i) := by
  have e1 : ∀ x : Nat → Nat, prun x m 0 4294967295 = prun x (m - (k + 4)) (k + 4) (prun x 4 k (prun x k 0 4294967295)) := fun x => by
    rw [show m = k + (4 + (m - (k + 4))) by omega, prun_add, prun_add]
    simp only [Nat.zero_add]
    congr 1
    omega
  have e2 : prun c k 0 4294967295 = prun b k 0 4294967295 := prun_congr k 0 _ fun j _ hj => (h j (.inl (by omega))).symm
  have e3 : ∀ s, prun c (m - (k + 4)) (k + 4) s = prun b (m - (k + 4)) (k + 4) s := fun s => prun_congr _ _ s fun j hj _ => (h j (.inr hj)).symm
  have hs := prun_lt hb k 0 4294967295 (by omega)
  have w1 := wx_lt hb k
  have w2 := wx_lt hc k
  rw [e1 c, e1 b, e2, e3]
  constructor
  · intro h1
    have h2 := prun_inj hb (prun_lt hc 4 k _ hs) (prun_lt hb 4 k _ hs) h1
    rw [prun4, prun4] at h2
    have h3 := xor_cancel (four8_inj (x32 hs w2) (x32 hs w1) h2)
    rw [wx_eq hb, wx_eq hc] at h3
    have b0 := hb k; have b1 := hb (k + 1); have b2 := hb (k + 2); have b3 := hb (k + 3)
    have c0 := hc k; have c1 := hc (k + 1); have c2 := hc (k + 2); have c3 := hc (k + 3)
    intro i hi
    match i, hi with
    | 0, _ => simp only [Nat.add_zero]; omega
    | 1, _ => omega
    | 2, _ => omega
    | 3, _ => omega
  · intro h1
    congr 1
    rw [prun4, prun4]
    have h0 := h1 0 (by omega)
    rw [Nat.add_zero] at h0
    unfold wx
    rw [h0, h1 1 (by omega), h1 2 (by omega), h1 3 (by omega)]
end Crc
end Go.Fx
