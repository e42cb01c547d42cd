/- Sums of bytes: what the functions of crc answer, and what follows from it without a program. -/
import Derived.Test.YtokdkmlpfkeeaaaFxB
import Derived.Test.YtokdkmlpfkeeaaaChecked
set_option maxRecDepth 100000
set_option maxHeartbeats 4000000
set_option linter.unusedVariables false
set_option linter.unusedSimpArgs false
namespace Go.Fx
open Go.Proofs
theorem hP : progOk Try.prog = true := by kernel_rfl
namespace Crc
def CK : Cfg := ⟨fun _ => false, fun f => [76, 84, 72].any (Nat.beq f), keepTab [(3, 9, [3, 4, 8, 9, 10, 11]), (6, 10, [0, 1, 2, 7, 8, 11, 12]), (8, 8, [0, 1, 5, 6, 7, 8]), (8, 11, [0, 1, 4, 5, 7, 9, 10]), (8, 19, [0, 1, 5, 7, 9, 10, 11, 12]), (9, 7, [1, 5, 6, 7]), (12, 7, [0, 1, 2, 3, 9, 10]), (12, 8, [0, 1, 2, 3, 9, 11]), (12, 9, [0, 1, 2, 3, 8, 9, 12]), (15, 6, [1, 2, 3, 22, 23]), (27, 4, [0, 6, 7]), (28, 5, [3, 6, 7, 8]), (29, 6, [4, 10, 11, 12]), (30, 6, [0, 4, 5, 6]), (35, 4, [0, 2, 3]), (37, 4, [1, 2, 3]), (40, 7, [2, 3, 4, 12, 13]), (41, 5, [1, 2, 3, 4]), (41, 11, [1, 2, 3, 4, 5]), (43, 6, [1, 5, 6]), (50, 4, [1, 5]), (53, 5, [1, 2, 3, 4, 8, 10, 11]), (53, 6, [2, 3, 4, 8, 10, 14]), (53, 7, [3, 4, 8, 10, 17]), (70, 4, [0, 1, 4, 7, 8]), (73, 5, [0, 1, 5]), (73, 15, [0, 1, 2, 3, 5, 10]), (85, 5, [1, 3, 11, 12, 13]), (86, 5, [1, 5, 6]), (87, 5, [0, 3, 4]), (87, 12, [0, 3, 4, 5]), (88, 5, [0, 1, 4, 12, 13]), (89, 4, [0, 1, 4, 7, 8]), (91, 2, [0, 1, 3])], fun _ _ => []⟩
/-- The whole numbers of some cells. -/
def ints : List CV → List Nat
  | [] => []
  | .p (.v (.int _ x)) :: l => x.toNat :: ints l
  | _ :: l => 0 :: ints l
/-- A table, and the cells of one. -/
abbrev tbC (t : Nat → Nat) : List CV := (List.range 256).map fun i => CV.p (PV.v (Value.int IntKind.u32 (t i : Int)))
abbrev Tb (t : Nat → Nat) : AV := .agg (tbC t)
def tbN (cs : List CV) (i : Nat) : Nat := (ints cs).getD i 0
/-- A step of the sum, by a table; many of them. -/
def cst (t : Nat → Nat) (s x : Nat) : Nat := Nat.xor (s / 256) (t (Nat.xor (s % 256) x))
def crun (t b : Nat → Nat) : Nat → Nat → Nat → Nat
  | 0, _, s => s
  | k + 1, i, s => crun t b k (i + 1) (cst t s (b i))
def sumN (t : Nat → Nat) (s n : Nat) (b : Nat → Nat) : Nat := 4294967295 - crun t b n 0 (4294967295 - s)
/-- The bytes of a sum. -/
def four (n : Nat) (i : Nat) : Nat := n / 256 ^ i % 256
abbrev four4 (n : Nat) : List (List PV) := [[.v (.int .u8 ((n % 256 : Nat) : Int))], [.v (.int .u8 ((n / 256 % 256 : Nat) : Int))], [.v (.int .u8 ((n / 65536 % 256 : Nat) : Int))], [.v (.int .u8 ((n / 16777216 % 256 : Nat) : Int))]]
abbrev fourF (n : Nat) : Nat → List PV := litF (four4 n)
/-- A step of the sum bit by bit, and eight of them. -/
def stp (n : Nat) : Nat := if n % 2 = 1 then Nat.xor (n / 2) 3988292384 else n / 2
def stp8 (n : Nat) : Nat := stp (stp (stp (stp (stp (stp (stp (stp n)))))))
def prun (b : Nat → Nat) : Nat → Nat → Nat → Nat
  | 0, _, s => s
  | k + 1, i, s => prun b k (i + 1) (stp8 (Nat.xor s (b i)))
def plainN (n : Nat) (b : Nat → Nat) : Nat := 4294967295 - prun b n 0 4294967295
/-- The table. -/
abbrev Tab : AV := Tb stp8
/-- A slice's elements. -/
def slOf : AV → Option (Nat × (Nat → List PV))
  | .c (.p (.sl n f)) => some (n, f)
  | .c .nils => some (0, fun _ => [])
  | _ => none
abbrev tyB : Nat := 5
abbrev rowB (n : Nat) (f : Nat → List PV) : Ob := .row tyB n f true
abbrev sealN (t : Nat → Nat) (n : Nat) (f : Nat → List PV) : Nat := sumN t 0 n (byN f)
def rOwn (n : Nat) (f : Nat → List PV) : Option Sa := some (.one ⟨.ret, [.c (.os 0)], [.row tyB n f true]⟩)
def rV (x : AV) : Option Sa := some (.one ⟨.ret, [x], []⟩)
def same (n m : Nat) (f g : Nat → List PV) : Bool := decide (n = m ∧ ∀ i, i < n → byN f i = byN g i)
/-- What opening answers. -/
def openS (t : Nat → Nat) (n : Nat) (g : Nat → List PV) : Sa := .br (decide (n < 4)) (.one ⟨.ret, [.tup [Sl 0 (fun _ => []), I 10]], []⟩) (.br (same 4 4 (fourF (sealN t (n - 4) g)) (fun i => g (i + (n - 4)))) (.one ⟨.ret, [.tup [Sl (n - 4) g, I 0]], []⟩) (.one ⟨.ret, [.tup [Sl 0 (fun _ => []), I 12]], []⟩))
def u32 : AV → Option Nat
  | .c (.p (.v (.int _ x))) => some x.toNat
  | _ => none
/-- What the functions of crc answer. -/
def crcS (f : Nat) (args : List AV) : Option Sa := match args with
  | [] => match Nat.beq f 73 with
    | true => rV Tab
    | false => none
  | [x] => match Nat.beq f 76, slOf x with
    | true, some (n, g) => rOwn n g
    | _, _ => match Nat.beq f 84, u32 x with
      | true, some n => rOwn 4 (fourF n)
      | _, _ => match Nat.beq f 87, slOf x with
        | true, some (n, g) => rV (U32 (plainN n (byN g)))
        | _, _ => match Nat.beq f 74, slOf x with
          | true, some (n, g) => rV (Sl (n + 4) (catF n g (fourF (plainN n (byN g)))))
          | _, _ => none
  | [x, y] => match x with
    | .agg cs => match Nat.beq f 72, slOf y with
      | true, some (n, g) => rOwn (n + 4) (catF n g (fourF (sealN (tbN cs) n g)))
      | _, _ => match Nat.beq f 75, slOf y with
        | true, some (n, g) => some (openS (tbN cs) n g)
        | _, _ => none
    | _ => match Nat.beq f 88, slOf x, slOf y with
      | true, some (n, g), some (m, k) => rV (B (same n m g k))
      | _, _, _ => match Nat.beq f 86, slOf x, u32 y with
        | true, some (n, g), some s => rV (Sl (n + 4) (catF n g (fourF s)))
        | _, _, _ => none
  | [.agg cs, y, x] => match Nat.beq f 85, u32 y, slOf x with
    | true, some s, some (n, g) => rV (U32 (sumN (tbN cs) s n (byN g)))
    | _, _, _ => none
  | _ => none
def crcC : Qry → Option Sa := fun q => match q with
  | .call f args _ => crcS f args
  | .loop _ _ _ _ _ => none
def S0 : Qry → Option Sa := spec [] []
def SL (f0 : Nat) (a : List AV → Hp → Option Sa) : Qry → Option Sa := fun q => match q with
  | .loop f _ _ vals h => match Nat.beq f f0 with
    | true => a vals h
    | false => none
  | q => none
/-- The step answers as a number. -/
def SLC (f0 : Nat) (a : List AV → Hp → Option Sa) : Qry → Option Sa := fun q => match q with
  | .loop f _ p vals h => match Nat.beq f f0 && Nat.beq p.length 5 with
    | true => a vals h
    | false => none
  | .call f [.c (.p (.v (.int _ x)))] _ => match Nat.beq f 94 with
    | true => rV (U32 (stp x.toNat))
    | false => none
  | _ => none

/-! ### Tables -/
abbrev tbI (t : Nat → Nat) : List Int := (List.range 256).map fun i => ((t i : Nat) : Int)
theorem tbI_get (t : Nat → Nat) (i : Nat) (h : i < 256) : List.getD (tbI t) i 0 = (t i : Int) := by
  simp [tbI, List.getD_eq_getElem?_getD, h]
theorem ints_map (g : Nat → Nat) : ∀ l : List Nat, ints (l.map fun i => CV.p (PV.v (Value.int IntKind.u32 (g i : Int)))) = l.map g
  | [] => rfl
  | x :: l => by simp [ints, ints_map g l]
theorem tbN_tb (t : Nat → Nat) (i : Nat) (h : i < 256) : tbN (tbC t) i = t i := by
  unfold tbN tbC
  rw [ints_map]
  simp [List.getD_eq_getElem?_getD, h]
/-! ### Bits -/
theorem xorN (a b : Nat) : Nat.xor a b = a ^^^ b := rfl
theorem x8 {a b : Nat} (ha : a < 256) (hb : b < 256) : a ^^^ b < 256 := Nat.xor_lt_two_pow (n := 8) ha hb
theorem x32 {a b : Nat} (ha : a < 4294967296) (hb : b < 4294967296) : a ^^^ b < 4294967296 := Nat.xor_lt_two_pow (n := 32) ha hb
theorem xor_half (a b : Nat) : (a ^^^ b) / 2 = a / 2 ^^^ b / 2 := by
  have := Nat.shiftRight_xor_distrib (i := 1) (a := a) (b := b)
  simpa [Nat.shiftRight_eq_div_pow] using this
theorem xor_div (a b k : Nat) : (a ^^^ b) / 2 ^ k = a / 2 ^ k ^^^ b / 2 ^ k := by
  have := Nat.shiftRight_xor_distrib (i := k) (a := a) (b := b)
  simpa [Nat.shiftRight_eq_div_pow] using this
theorem xor_mod (a b k : Nat) : (a ^^^ b) % 2 ^ k = a % 2 ^ k ^^^ b % 2 ^ k := Nat.xor_mod_two_pow
/-- All bits turned. -/
theorem nt_xor {n : Nat} (h : n < 4294967296) : n ^^^ 4294967295 = 4294967295 - n := by
  apply Nat.eq_of_testBit_eq
  intro i
  rw [Nat.testBit_xor, show (4294967295 : Nat) = 2 ^ 32 - 1 from rfl, Nat.testBit_two_pow_sub_one]
  have e : 2 ^ 32 - 1 - n = 2 ^ 32 - (n + 1) := by omega
  rw [e, Nat.testBit_two_pow_sub_succ (by simpa using h)]
  by_cases hi : i < 32
  · simp [hi]
  · simp [hi]
    exact Nat.testBit_lt_two_pow (Nat.lt_of_lt_of_le (show n < 2 ^ 32 from h) (Nat.pow_le_pow_right (n := 2) (by decide) (by omega : 32 ≤ i)))
/-! ### A step, bit by bit -/
theorem stp_eq (n : Nat) : stp n = n / 2 ^^^ (if n % 2 = 1 then 3988292384 else 0) := by
  unfold stp; split <;> simp [xorN]
theorem stp_xor (a b : Nat) : stp (a ^^^ b) = stp a ^^^ stp b := by
  rw [stp_eq, stp_eq, stp_eq, xor_half]
  have h := xor_mod a b 1
  simp only [Nat.pow_one] at h
  rcases Nat.mod_two_eq_zero_or_one a with ha | ha <;> rcases Nat.mod_two_eq_zero_or_one b with hb | hb <;> rw [ha, hb] at h <;> simp only [h, ha, hb]
  · simp
  · simp [Nat.xor_assoc]
  · simp only [Nat.xor_zero, if_true, show ¬ (0 = 1) by omega, if_false]
    have e : ∀ x y p : Nat, x ^^^ y ^^^ p = x ^^^ p ^^^ y := fun x y p => by rw [Nat.xor_assoc, Nat.xor_comm y, Nat.xor_assoc]
    exact e _ _ _
  · simp only [Nat.xor_self, if_true, show ¬ (0 = 1) by omega, if_false, Nat.xor_zero]
    have e : ∀ x y p : Nat, x ^^^ y = x ^^^ p ^^^ (y ^^^ p) := fun x y p => by
      rw [Nat.xor_assoc, ← Nat.xor_assoc p, Nat.xor_comm p y, Nat.xor_assoc y, Nat.xor_self, Nat.xor_zero]
    exact e _ _ _
theorem stp_lt {m : Nat} (h : m < 4294967296) : stp m < 4294967296 := by
  rw [stp_eq]; refine x32 (by omega) ?_; split <;> omega
theorem stp_zero {m : Nat} (h : m < 4294967296) (h0 : stp m = 0) : m = 0 := by
  unfold stp at h0
  split at h0
  · exfalso
    have h1 : m / 2 = 3988292384 := by
      have e := congrArg (· ^^^ 3988292384) h0
      simp only [xorN, Nat.xor_assoc, Nat.xor_self, Nat.xor_zero, Nat.zero_xor] at e
      exact e
    omega
  · omega
theorem stp_inj {a b : Nat} (ha : a < 4294967296) (hb : b < 4294967296) (h : stp a = stp b) : a = b := by
  have h1 : stp (a ^^^ b) = 0 := by rw [stp_xor, h, Nat.xor_self]
  have h2 := stp_zero (x32 ha hb) h1
  have e := congrArg (· ^^^ b) h2
  simp only [Nat.xor_assoc, Nat.xor_self, Nat.xor_zero, Nat.zero_xor] at e
  exact e
theorem stp8_xor (a b : Nat) : stp8 (a ^^^ b) = stp8 a ^^^ stp8 b := by unfold stp8; simp only [stp_xor]
theorem stp8_lt {m : Nat} (h : m < 4294967296) : stp8 m < 4294967296 := by
  unfold stp8
  exact stp_lt (stp_lt (stp_lt (stp_lt (stp_lt (stp_lt (stp_lt (stp_lt h)))))))
theorem stp8_inj {a b : Nat} (ha : a < 4294967296) (hb : b < 4294967296) (h : stp8 a = stp8 b) : a = b := by
  unfold stp8 at h
  have a1 := stp_lt ha; have a2 := stp_lt a1; have a3 := stp_lt a2; have a4 := stp_lt a3; have a5 := stp_lt a4; have a6 := stp_lt a5; have a7 := stp_lt a6
  have b1 := stp_lt hb; have b2 := stp_lt b1; have b3 := stp_lt b2; have b4 := stp_lt b3; have b5 := stp_lt b4; have b6 := stp_lt b5; have b7 := stp_lt b6
  exact stp_inj ha hb (stp_inj a1 b1 (stp_inj a2 b2 (stp_inj a3 b3 (stp_inj a4 b4 (stp_inj a5 b5 (stp_inj a6 b6 (stp_inj a7 b7 h)))))))
theorem stp_even (m : Nat) : stp (2 * m) = m := by unfold stp; rw [if_neg (by omega)]; omega
theorem stp8_high (m : Nat) : stp8 (256 * m) = m := by
  unfold stp8
  rw [show 256 * m = 2 * (2 * (2 * (2 * (2 * (2 * (2 * (2 * m))))))) by omega]
  simp only [stp_even]
theorem split8 (n : Nat) : n = (256 * (n / 256)) ^^^ (n % 256) := by
  apply Nat.eq_of_testBit_eq
  intro i
  rw [Nat.testBit_xor, show (256 : Nat) = 2 ^ 8 from rfl, Nat.testBit_two_pow_mul, Nat.testBit_mod_two_pow, Nat.testBit_div_two_pow]
  by_cases hi : i < 8
  · simp [hi, show ¬ 8 ≤ i by omega]
  · simp [hi, show 8 ≤ i by omega]
theorem stp8_split (n : Nat) : stp8 n = n / 256 ^^^ stp8 (n % 256) := by
  conv => lhs; rw [split8 n]
  rw [stp8_xor, stp8_high]
/-- By the table a step is eight. -/
theorem cst_stp8 (s x : Nat) (hx : x < 256) : cst stp8 s x = stp8 (s ^^^ x) := by
  unfold cst
  rw [stp8_split (s ^^^ x), show (256 : Nat) = 2 ^ 8 from rfl, xor_div, xor_mod, Nat.mod_eq_of_lt (a := x) (by simpa using hx), Nat.div_eq_of_lt (a := x) (by simpa using hx), Nat.xor_zero]
  rfl
/-! ### Many steps -/
theorem cst_lt {t : Nat → Nat} (ht : ∀ i, t i < 4294967296) {s : Nat} (hs : s < 4294967296) (x : Nat) : cst t s x < 4294967296 := x32 (by omega) (ht _)
theorem crun_lt {t b : Nat → Nat} (ht : ∀ i, t i < 4294967296) : ∀ (k i s : Nat), s < 4294967296 → crun t b k i s < 4294967296
  | 0, i, s, h => h
  | k + 1, i, s, h => crun_lt ht k (i + 1) _ (cst_lt ht h _)
theorem crun_congr {t u b c : Nat → Nat} (ht : ∀ i, i < 256 → t i = u i) : ∀ (k i s : Nat), (∀ j, i ≤ j → j < i + k → b j = c j ∧ b j < 256) → crun t b k i s = crun u c k i s
  | 0, i, s, h => rfl
  | k + 1, i, s, h => by
    have h1 := h i (by omega) (by omega)
    unfold crun
    have e : cst t s (b i) = cst u s (c i) := by unfold cst; rw [← h1.1]; simp only [xorN]; rw [ht _ (x8 (a := s % 256) (by omega) h1.2)]
    rw [e]
    exact crun_congr ht k (i + 1) _ fun j hj hk => h j (by omega) (by omega)
theorem crun_add (t b : Nat → Nat) : ∀ (k m i s : Nat), crun t b (k + m) i s = crun t b m (i + k) (crun t b k i s)
  | 0, m, i, s => by simp [crun]
  | k + 1, m, i, s => by
    rw [show k + 1 + m = (k + m) + 1 by omega, crun, crun_add t b k m (i + 1), crun, show i + 1 + k = i + (k + 1) by omega]
theorem crun_shift (t b : Nat → Nat) (d : Nat) : ∀ (k i s : Nat), crun t (fun j => b (j + d)) k i s = crun t b k (i + d) s
  | 0, i, s => rfl
  | k + 1, i, s => by rw [crun, crun, crun_shift t b d k (i + 1), show i + 1 + d = i + d + 1 by omega]
theorem prun_lt {b : Nat → Nat} (hb : ∀ i, b i < 256) : ∀ (k i s : Nat), s < 4294967296 → prun b k i s < 4294967296
  | 0, i, s, h => h
  | k + 1, i, s, h => prun_lt hb k (i + 1) _ (stp8_lt (x32 h (by have := hb i; omega)))
theorem prun_crun {b : Nat → Nat} (hb : ∀ i, b i < 256) : ∀ (k i s : Nat), crun stp8 b k i s = prun b k i s
  | 0, i, s => rfl
  | k + 1, i, s => by rw [crun, prun, cst_stp8 _ _ (hb i), prun_crun hb k]; rfl
theorem crun_inj {b : Nat → Nat} (hb : ∀ i, b i < 256) : ∀ (k i s u : Nat), s < 4294967296 → u < 4294967296 → crun stp8 b k i s = crun stp8 b k i u → s = u
  | 0, i, s, u, hs, hu, h => h
  | k + 1, i, s, u, hs, hu, h => by
    have hbi := hb i
    rw [crun, crun, cst_stp8 _ _ hbi, cst_stp8 _ _ hbi] at h
    have h1 := crun_inj hb k (i + 1) _ _ (stp8_lt (x32 hs (by omega))) (stp8_lt (x32 hu (by omega))) h
    have h2 := stp8_inj (x32 hs (by omega)) (x32 hu (by omega)) h1
    have e := congrArg (· ^^^ b i) h2
    simp only [Nat.xor_assoc, Nat.xor_self, Nat.xor_zero] at e
    exact e
/-! ### Sums -/
theorem sumN_lt (t : Nat → Nat) (s n : Nat) (b : Nat → Nat) : sumN t s n b < 4294967296 := by unfold sumN; omega
theorem plainN_lt (n : Nat) (b : Nat → Nat) : plainN n b < 4294967296 := by unfold plainN; omega
theorem sumN_tb (t : Nat → Nat) (s n : Nat) (b : Nat → Nat) (hb : ∀ i, i < n → b i < 256) : sumN (tbN (tbC t)) s n b = sumN t s n b := by
  unfold sumN
  rw [crun_congr (fun i hi => tbN_tb t i hi) n 0 _ (fun j _ hj => ⟨rfl, hb j (by omega)⟩)]
theorem sumN_congr {t : Nat → Nat} {s n m : Nat} {b c : Nat → Nat} (hn : n = m) (h : ∀ i, i < n → b i = c i ∧ b i < 256) : sumN t s n b = sumN t s m c := by
  subst hn
  unfold sumN
  rw [crun_congr (fun i _ => rfl) n 0 _ (fun j _ hj => h j (by omega))]
theorem sumN_plain {n : Nat} {b : Nat → Nat} (hb : ∀ i, b i < 256) : sumN stp8 0 n b = plainN n b := by
  unfold sumN plainN
  rw [prun_crun hb]
theorem sumN_two {t : Nat → Nat} (ht : ∀ i, t i < 4294967296) {s n k : Nat} (hk : k ≤ n) (hs : s < 4294967296) (b : Nat → Nat) : sumN t (sumN t s k b) (n - k) (fun i => b (i + k)) = sumN t s n b := by
  unfold sumN
  have h1 := crun_lt (b := b) ht k 0 (4294967295 - s) (by omega)
  rw [show 4294967295 - (4294967295 - crun t b k 0 (4294967295 - s)) = crun t b k 0 (4294967295 - s) by omega, crun_shift, show 0 + k = k by omega]
  have := crun_add t b k (n - k) 0 (4294967295 - s)
  rw [show k + (n - k) = n by omega, show 0 + k = k by omega] at this
  rw [this]
theorem sumN_none (t : Nat → Nat) {s : Nat} (hs : s < 4294967296) (b : Nat → Nat) : sumN t s 0 b = s := by unfold sumN crun; omega
theorem sumN_inj {b : Nat → Nat} (hb : ∀ i, b i < 256) {n s u : Nat} (hs : s < 4294967296) (hu : u < 4294967296) : sumN stp8 s n b = sumN stp8 u n b ↔ s = u := by
  constructor
  · intro h
    unfold sumN at h
    have h1 := crun_inj hb n 0 (4294967295 - s) (4294967295 - u) (by omega) (by omega)
    have p1 := prun_lt hb n 0 (4294967295 - s) (by omega)
    have p2 := prun_lt hb n 0 (4294967295 - u) (by omega)
    rw [prun_crun hb, prun_crun hb] at h
    have := h1 (by rw [prun_crun hb, prun_crun hb]; omega)
    omega
  · rintro rfl; rfl
/-! ### A sum's bytes -/
theorem four_ok (n : Nat) : BOk 4 (fourF n) := BOk.of fun i hi => by
  match i, hi with
  | 0, _ => exact ⟨_, Nat.mod_lt n (by decide), rfl⟩
  | 1, _ => exact ⟨_, Nat.mod_lt (n / 256) (by decide), rfl⟩
  | 2, _ => exact ⟨_, Nat.mod_lt (n / 65536) (by decide), rfl⟩
  | 3, _ => exact ⟨_, Nat.mod_lt (n / 16777216) (by decide), rfl⟩
theorem byN_four (n i : Nat) (hi : i < 4) : byN (fourF n) i = n / 256 ^ i % 256 := by
  match i, hi with
  | 0, _ => show Int.toNat ((n % 256 : Nat) : Int) % 256 = _; rw [Int.toNat_natCast]; omega
  | 1, _ => show Int.toNat ((n / 256 % 256 : Nat) : Int) % 256 = _; rw [Int.toNat_natCast]; omega
  | 2, _ => show Int.toNat ((n / 65536 % 256 : Nat) : Int) % 256 = _; rw [Int.toNat_natCast]; omega
  | 3, _ => show Int.toNat ((n / 16777216 % 256 : Nat) : Int) % 256 = _; rw [Int.toNat_natCast]; omega
theorem four_inj {n m : Nat} (hn : n < 4294967296) (hm : m < 4294967296) (h : ∀ i, i < 4 → byN (fourF n) i = byN (fourF m) i) : n = m := by
  have h0 := h 0 (by omega); have h1 := h 1 (by omega); have h2 := h 2 (by omega); have h3 := h 3 (by omega)
  rw [byN_four _ _ (by omega), byN_four _ _ (by omega)] at h0 h1 h2 h3
  simp at h0 h1 h2 h3
  omega
end Crc
end Go.Fx
