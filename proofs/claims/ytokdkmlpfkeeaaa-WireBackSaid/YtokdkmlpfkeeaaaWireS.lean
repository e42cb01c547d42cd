/- Numbers and texts as bytes, without a program. -/
import Derived.Test.YtokdkmlpfkeeaaaFxB
set_option maxRecDepth 100000
set_option maxHeartbeats 4000000
set_option linter.unusedVariables false
set_option linter.unusedSimpArgs false
namespace Go.Fx
namespace Wire
def CK : Cfg := ⟨fun _ => false, fun f => [76, 50, 51, 52].any (Nat.beq f), keepTab [(3, 9, [3, 4, 8, 9, 10, 11]), (6, 10, [0, 1, 2, 7, 8, 11, 12]), (8, 8, [0, 1, 5, 6, 7, 8]), (8, 11, [0, 1, 4, 5, 7, 9, 10]), (8, 19, [0, 1, 5, 7, 9, 10, 11, 12]), (9, 7, [1, 5, 6, 7]), (12, 7, [0, 1, 2, 3, 9, 10]), (12, 8, [0, 1, 2, 3, 9, 11]), (12, 9, [0, 1, 2, 3, 8, 9, 12]), (15, 6, [1, 2, 3, 22, 23]), (27, 4, [0, 6, 7]), (28, 5, [3, 6, 7, 8]), (29, 6, [4, 10, 11, 12]), (30, 6, [0, 4, 5, 6]), (35, 4, [0, 2, 3]), (37, 4, [1, 2, 3]), (40, 7, [2, 3, 4, 12, 13]), (41, 5, [1, 2, 3, 4]), (41, 11, [1, 2, 3, 4, 5]), (43, 6, [1, 5, 6]), (50, 4, [1, 5]), (53, 5, [1, 2, 3, 4, 8, 10, 11]), (53, 6, [2, 3, 4, 8, 10, 14]), (53, 7, [3, 4, 8, 10, 17]), (70, 4, [0, 1, 4, 7, 8]), (73, 5, [0, 1, 5]), (73, 15, [0, 1, 2, 3, 5, 10]), (85, 5, [1, 3, 11, 12, 13]), (86, 5, [1, 5, 6]), (87, 5, [0, 3, 4]), (87, 12, [0, 3, 4, 5]), (88, 5, [0, 1, 4, 12, 13]), (89, 4, [0, 1, 4, 7, 8]), (91, 2, [0, 1, 3])], fun _ _ => []⟩
abbrev tyB : Nat := 5
abbrev rowB (n : Nat) (f : Nat → List PV) : Ob := .row tyB n f true
abbrev Ls (l : List Nat) : Nat → List PV := Bs (fun i => l.getD i 0)
def rOwn (n : Nat) (f : Nat → List PV) : Option Sa := some (.one ⟨.ret, [.c (.os 0)], [.row tyB n f true]⟩)
def rV (x : AV) : Option Sa := some (.one ⟨.ret, [x], []⟩)
def intV : AV → Option Int
  | .c (.p (.v (.int _ x))) => some x
  | _ => none
def strV : AV → Option ByteArray
  | .c (.p (.v (.string s))) => some s
  | _ => none
def slOf : AV → Option (Nat × (Nat → List PV))
  | .c (.p (.sl n f)) => some (n, f)
  | .c .nils => some (0, fun _ => [])
  | _ => none
def curOf : AV → Option (Nat × (Nat → List PV) × Int × Int)
  | .agg [.p (.sl n f), .p (.v (.int _ a)), .p (.v (.int _ e))] => some (n, f, a, e)
  | _ => none
/-- A number's bytes: those that more follow, and the last. -/
def hi : Nat → Nat → List Nat
  | 0, _ => []
  | k + 1, n => match Nat.blt n 128 with
    | true => []
    | false => (n % 128 + 128) :: hi k (n / 128)
def lo : Nat → Nat → Nat
  | 0, n => n
  | k + 1, n => match Nat.blt n 128 with
    | true => n
    | false => lo k (n / 128)
def pu (n : Nat) : List Nat := hi 9 n ++ [lo 9 n]
def zz (n : Int) : Nat := if 0 ≤ n then (2 * n).toNat else (-2 * n - 1).toNat
def uz (u : Nat) : Int := if u % 2 = 0 then ((u / 2 : Nat) : Int) else -((u / 2 : Nat) : Int) - 1
/-- Which is the first byte that none follows; 0: none. -/
def fi (b : Nat → Nat) : Nat → Nat → Nat
  | 0, _ => 0
  | k + 1, i => match Nat.blt (b i) 128 with
    | true => i + 1
    | false => fi b k (i + 1)
def badN (b : Nat → Nat) (k : Nat) : Bool := decide ((k = 10 ∧ 1 < b 9) ∨ (1 < k ∧ b (k - 1) = 0))
def szK (n : Nat) (b : Nat → Nat) : Nat := if badN b (fi b (min n 10) 0) = true then 0 else fi b (min n 10) 0
def szE (n : Nat) (b : Nat → Nat) : Int := if fi b (min n 10) 0 = 0 then (if n < 10 then 10 else 11) else if badN b (fi b (min n 10) 0) = true then 11 else 0
def vl (b : Nat → Nat) (i : Nat) : Nat → Nat
  | 0 => 0
  | k + 1 => b i % 128 + 128 * vl b (i + 1) k
abbrev sh (f : Nat → List PV) (a : Nat) : Nat → List PV := fun i => f (i + a)
def rt (n : Nat) (a e : Int) : Bool := decide (e = 0 ∧ 0 ≤ a ∧ a ≤ n)
def uK (n : Nat) (f : Nat → List PV) (a : Int) : Nat := szK (n - a.toNat) (byN (sh f a.toNat))
def uE (n : Nat) (f : Nat → List PV) (a e : Int) : Int := if rt n a e = true then szE (n - a.toNat) (byN (sh f a.toNat)) else if e = 0 then 1 else e
def uA (n : Nat) (f : Nat → List PV) (a e : Int) : Int := if rt n a e = true then a + uK n f a else a
def uV (n : Nat) (f : Nat → List PV) (a e : Int) : Nat := if rt n a e = true then vl (byN (sh f a.toNat)) 0 (uK n f a) else 0
def lft (n : Nat) (a e : Int) : Int := if rt n a e = true then n - a else 0
def kE (n : Nat) (a e k : Int) : Int := if rt n a e = true ∧ 0 ≤ k then (if n - a < k then 10 else 0) else if e = 0 then 1 else e
def kL (n : Nat) (a e k : Int) : Nat := if kE n a e k = 0 then k.toNat else 0
def tE (n : Nat) (f : Nat → List PV) (a e m : Int) : Int :=
  if uE n f a e ≠ 0 then uE n f a e else if m < 0 ∨ m < uV n f a e then 9 else if n - uA n f a e < uV n f a e then 10 else 0
def tL (n : Nat) (f : Nat → List PV) (a e m : Int) : Nat := if tE n f a e m = 0 then uV n f a e else 0
def tA (n : Nat) (f : Nat → List PV) (a e m : Int) : Int := if tE n f a e m = 0 then uA n f a e + uV n f a e else a
def tS (n : Nat) (f : Nat → List PV) (a e m : Int) : ByteArray := if tE n f a e m = 0 then textOf (uV n f a e) (fun i => f (i + (uA n f a e).toNat)) else ByteArray.empty
abbrev Cur (n : Nat) (f : Nat → List PV) (a e : Int) : AV := .agg [.p (.sl n f), i64 a, i64 e]
/-- What the functions of wire answer. -/
def wr1 (f : Nat) (x : AV) : Option Sa := match curOf x with
  | some (n, g, a, e) => match Nat.beq f 56 with
    | true => rV (.tup [.agg [.p (.sl n g), i64 (uA n g a e), i64 (uE n g a e)], U64 (uV n g a e)])
    | false => match Nat.beq f 57 with
      | true => rV (.tup [.agg [.p (.sl n g), i64 (uA n g a e), i64 (uE n g a e)], I (uz (uV n g a e))])
      | false => match Nat.beq f 55 with
        | true => rV (I (lft n a e))
        | false => match Nat.beq f 77 with
          | true => rV (B (rt n a e))
          | false => none
  | none => match slOf x with
    | some (n, g) => match Nat.beq f 79 with
      | true => rV (.tup [I (szK n (byN g)), I (szE n (byN g))])
      | false => match Nat.beq f 76 with
        | true => rOwn n g
        | false => none
    | none => none
def wr2 (f : Nat) (x y : AV) : Option Sa := match curOf x with
  | some (n, g, a, e) => match intV y with
    | some k => match Nat.beq f 81 with
      | true => rV (.tup [.agg [.p (.sl n g), i64 (a + kL n a e k), i64 (kE n a e k)], Sl (kL n a e k) (fun i => g (i + a.toNat))])
      | false => match Nat.beq f 58 with
        | true => rV (.tup [.agg [.p (.sl n g), i64 (tA n g a e k), i64 (tE n g a e k)], Str (tS n g a e k)])
        | false => none
    | none => none
  | none => match slOf x with
    | some (n, g) => match strV y with
      | some s => match Nat.beq f 52 with
        | true => rOwn (n + (pu s.size).length + s.size) (catF (n + (pu s.size).length) (catF n g (Ls (pu s.size))) (strF s))
        | false => none
      | none => match intV y with
        | some k => match Nat.beq f 50 with
          | true => rOwn (n + (pu k.toNat).length) (catF n g (Ls (pu k.toNat)))
          | false => match Nat.beq f 51 with
            | true => rOwn (n + (pu (zz k)).length) (catF n g (Ls (pu (zz k))))
            | false => none
        | none => match Nat.beq f 89 with
          | true => rV (I ((fi (byN g) n 0 : Nat) - 1))
          | false => none
    | none => none
def wrS (aw : Nat) : Qry → Option Sa := fun q => match q with
  | .call f args _ => match args with
    | [] => match Nat.beq f aw with
      | true => rV (B true)
      | false => none
    | [x] => wr1 f x
    | [x, y] => wr2 f x y
    | _ => none
  | _ => none
def noS : Qry → Option Sa := fun _ => none
/-- A loop of f0 is answered by a; all else by q. -/
def SLo (f0 : Nat) (a : List AV → Hp → Option Ans) (q : Qry → Option Sa) : Qry → Option Sa := fun x => match x with
  | .loop f _ _ vals h => match Nat.beq f f0 with
    | true => (a vals h).map .one
    | false => none
  | y => q y
def SLq (f0 : Nat) (c : Bool) (a b : List AV → Hp → Option Ans) (q : Qry → Option Sa) : Qry → Option Sa := fun x => match x with
  | .loop f _ _ vals h => match Nat.beq f f0 with
    | true => match a vals h, b vals h with
      | some x, some y => some (.br c (.one x) (.one y))
      | _, _ => none
    | false => none
  | y => q y

/-! ### A number's bytes -/
def P (k n : Nat) : List Nat := hi k n ++ [lo k n]
theorem blt_t {a b : Nat} (h : a < b) : Nat.blt a b = true := by simpa using h
theorem blt_f {a b : Nat} (h : ¬ a < b) : Nat.blt a b = false := by
  cases hb : Nat.blt a b with
  | false => rfl
  | true => exact absurd (by simpa using hb) h
theorem P_lt {k n : Nat} (h : n < 128) : P k n = [n] := by
  cases k with
  | zero => rfl
  | succ k => unfold P hi lo; rw [blt_t h]; rfl
theorem P_ge {k n : Nat} (h : ¬ n < 128) : P (k + 1) n = (n % 128 + 128) :: P k (n / 128) := by
  unfold P; rw [hi, lo, blt_f h]; rfl
theorem pu_P (n : Nat) : pu n = P 9 n := rfl
theorem P_pos (k n : Nat) : 0 < (P k n).length := by unfold P; simp
theorem pu_pos (n : Nat) : 0 < (pu n).length := P_pos 9 n
theorem P_len : ∀ (k n : Nat), (P k n).length ≤ k + 1
  | 0, n => by simp [P, hi]
  | k + 1, n => by
    by_cases h : n < 128
    · rw [P_lt h]; simp
    · rw [P_ge h]; have := P_len k (n / 128); simp; omega
theorem pu_len (n : Nat) : (pu n).length ≤ 10 := P_len 9 n
theorem P_lt256 : ∀ (k n : Nat), n < 128 ^ (k + 1) → ∀ x ∈ P k n, x < 256
  | 0, n, h => by simp [P, hi, lo]; omega
  | k + 1, n, h => by
    by_cases h1 : n < 128
    · rw [P_lt h1]; simp; omega
    · rw [P_ge h1]
      intro x hx
      rcases List.mem_cons.1 hx with rfl | hx
      · omega
      · exact P_lt256 k (n / 128) (Nat.div_lt_of_lt_mul (by rw [Nat.pow_succ] at h; omega)) x hx
theorem pow9 : (128 : Nat) ^ 9 = 9223372036854775808 := by decide
theorem pow10 : (128 : Nat) ^ 10 = 1180591620717411303424 := by decide
abbrev u64 (n : Nat) : Prop := n < 18446744073709551616
theorem pu_256 {n : Nat} (h : u64 n) : ∀ x ∈ pu n, x < 256 := P_lt256 9 n (by rw [pow10]; unfold u64 at h; omega)
theorem getD_lt {l : List Nat} (h : ∀ x ∈ l, x < 256) (i : Nat) : l.getD i 0 < 256 := by
  rw [List.getD_eq_getElem?_getD]
  cases hx : l[i]? with
  | none => simp
  | some x => exact h x (List.mem_of_getElem? hx)
/-- The first byte that none follows. -/
theorem fi_P : ∀ (k n m i : Nat) (b : Nat → Nat), n < 128 ^ (k + 1) → (∀ j, j < (P k n).length → j < m → b (i + j) = (P k n).getD j 0) → fi b m i = if (P k n).length ≤ m then i + (P k n).length else 0
  | k, n, 0, i, b, _, _ => by have := P_pos k n; rw [if_neg (by omega)]; rfl
  | k, n, m + 1, i, b, hn, h => by
    by_cases h1 : n < 128
    · rw [P_lt h1] at h ⊢
      have h0 := h 0 (by simp) (by omega)
      rw [fi, show b i = n by simpa using h0, blt_t h1]
      simp
    · cases k with
      | zero => exact absurd (by simpa using hn) h1
      | succ k =>
        rw [P_ge h1] at h ⊢
        have h0 := h 0 (by simp) (by omega)
        have e0 : b i = n % 128 + 128 := by simpa using h0
        rw [fi, e0, blt_f (by omega)]
        have ih := fi_P k (n / 128) m (i + 1) b (Nat.div_lt_of_lt_mul (by rw [Nat.pow_succ] at hn; omega)) (fun j hj hm => by
          have := h (j + 1) (by simp; omega) (by omega)
          rw [show i + 1 + j = i + (j + 1) by omega, this]; simp)
        show fi b m (i + 1) = _
        rw [ih]
        simp only [List.length_cons]
        by_cases hle : (P k (n / 128)).length ≤ m
        · rw [if_pos hle, if_pos (by omega)]; omega
        · rw [if_neg hle, if_neg (by omega)]
theorem vl_P : ∀ (k n i : Nat) (b : Nat → Nat), n < 128 ^ (k + 1) → (∀ j, j < (P k n).length → b (i + j) = (P k n).getD j 0) → vl b i (P k n).length = n
  | k, n, i, b, hn, h => by
    by_cases h1 : n < 128
    · rw [P_lt h1] at h ⊢
      have h0 := h 0 (by simp)
      have : b i = n := by simpa using h0
      simp [vl, this, Nat.mod_eq_of_lt h1]
    · cases k with
      | zero => exact absurd (by simpa using hn) h1
      | succ k =>
        rw [P_ge h1] at h ⊢
        have h0 := h 0 (by simp)
        have e0 : b i = n % 128 + 128 := by simpa using h0
        have ih := vl_P k (n / 128) (i + 1) b (Nat.div_lt_of_lt_mul (by rw [Nat.pow_succ] at hn; omega)) (fun j hj => by
          have := h (j + 1) (by simp; omega)
          rw [show i + 1 + j = i + (j + 1) by omega, this]; simp)
        simp only [List.length_cons, vl]
        rw [ih, e0]; omega
theorem P_last : ∀ (k n : Nat), n < 128 ^ (k + 1) → (P k n).getD ((P k n).length - 1) 0 * 128 ^ ((P k n).length - 1) ≤ n ∧ (1 < (P k n).length → 0 < (P k n).getD ((P k n).length - 1) 0)
  | k, n, hn => by
    by_cases h1 : n < 128
    · rw [P_lt h1]; simp
    · cases k with
      | zero => exact absurd (by simpa using hn) h1
      | succ k =>
        rw [P_ge h1]
        have ih := P_last k (n / 128) (Nat.div_lt_of_lt_mul (by rw [Nat.pow_succ] at hn; omega))
        have hp := P_pos k (n / 128)
        have hL : (P k (n / 128)).length - 1 + 1 = (P k (n / 128)).length := by omega
        have e1 : ((n % 128 + 128) :: P k (n / 128)).getD (((n % 128 + 128) :: P k (n / 128)).length - 1) 0 = (P k (n / 128)).getD ((P k (n / 128)).length - 1) 0 := by
          simp only [List.length_cons, Nat.add_sub_cancel]
          conv => lhs; rw [← hL]
          exact List.getD_cons_succ
        rw [e1]
        simp only [List.length_cons, Nat.add_sub_cancel]
        generalize hd : (P k (n / 128)).getD ((P k (n / 128)).length - 1) 0 = d at ih ⊢
        generalize hl : (P k (n / 128)).length = L at *
        constructor
        · have h2 : d * 128 ^ L = d * 128 ^ (L - 1) * 128 := by rw [← hL, Nat.pow_succ, Nat.add_sub_cancel, Nat.mul_assoc]
          have := ih.1
          omega
        · intro _
          by_cases hL1 : 1 < L
          · exact ih.2 hL1
          · have hl1 : L = 1 := by omega
            have hP : P k (n / 128) = [n / 128] := by
              by_cases h2 : n / 128 < 128
              · exact P_lt h2
              · cases k with
                | zero => rw [Nat.pow_succ] at hn; omega
                | succ k => rw [P_ge h2] at hl; have := P_pos k (n / 128 / 128); simp at hl; omega
            rw [hP] at hd
            subst hl1
            have : d = n / 128 := by rw [← hd]; rfl
            omega
theorem badN_pu {b : Nat → Nat} {n : Nat} (hn : u64 n) (h : ∀ j, j < (pu n).length → b j = (pu n).getD j 0) : badN b (pu n).length = false := by
  have hp := pu_pos n
  have hl := pu_len n
  have := P_last 9 n (by rw [pow10]; unfold u64 at hn; omega)
  rw [← pu_P] at this
  have hb := h ((pu n).length - 1) (by omega)
  unfold badN
  rw [decide_eq_false_iff_not]
  rintro (⟨h1, h2⟩ | ⟨h1, h2⟩)
  · rw [h1] at this hb
    have h3 := this.1
    rw [← hb, show 10 - 1 = 9 by rfl, pow9] at h3
    unfold u64 at hn
    omega
  · have h3 := this.2 h1
    rw [← hb] at h3; omega
theorem sz_pu {b : Nat → Nat} {n m : Nat} (hn : u64 n) (hm : (pu n).length ≤ m) (h : ∀ j, j < (pu n).length → b j = (pu n).getD j 0) : szK m b = (pu n).length ∧ szE m b = 0 ∧ vl b 0 (pu n).length = n := by
  have hn' : n < 128 ^ (9 + 1) := by rw [pow10]; unfold u64 at hn; omega
  have hl := pu_len n
  have hp := pu_pos n
  have hf := fi_P 9 n (min m 10) 0 b hn' (fun j hj _ => by rw [Nat.zero_add]; exact h j hj)
  rw [← pu_P, if_pos (by omega), Nat.zero_add] at hf
  have hb := badN_pu hn h
  refine ⟨?_, ?_, vl_P 9 n 0 b hn' (fun j hj => by rw [Nat.zero_add]; exact h j hj)⟩
  · unfold szK; rw [hf, hb]; rfl
  · unfold szE; rw [hf, if_neg (by omega), hb]; rfl
theorem sz_cut {b : Nat → Nat} {n m : Nat} (hn : u64 n) (hm : m < (pu n).length) (h : ∀ j, j < m → b j = (pu n).getD j 0) : szK m b = 0 ∧ szE m b = 10 := by
  have hn' : n < 128 ^ (9 + 1) := by rw [pow10]; unfold u64 at hn; omega
  have hl := pu_len n
  have hf := fi_P 9 n (min m 10) 0 b hn' (fun j hj hm => by rw [Nat.zero_add]; exact h j (by omega))
  rw [← pu_P, if_neg (by omega)] at hf
  constructor
  · unfold szK; rw [hf]; simp
  · unfold szE; rw [hf, if_pos rfl, if_pos (by omega)]
/-! ### Bytes that are read are a number's -/
theorem fi_hit {b : Nat → Nat} {m i : Nat} (h : b i < 128) : fi b (m + 1) i = i + 1 := by rw [fi, blt_t h]
theorem fi_miss {b : Nat → Nat} {m i : Nat} (h : ¬ b i < 128) : fi b (m + 1) i = fi b m (i + 1) := by rw [fi, blt_f h]
theorem fi_spec : ∀ (m i : Nat) (b : Nat → Nat), fi b m i ≠ 0 → i < fi b m i ∧ fi b m i ≤ i + m ∧ b (fi b m i - 1) < 128 ∧ ∀ j, i ≤ j → j < fi b m i - 1 → ¬ b j < 128
  | 0, i, b, h => absurd rfl h
  | m + 1, i, b, h => by
    by_cases h1 : b i < 128
    · rw [fi_hit h1]; exact ⟨by omega, by omega, by simpa using h1, fun j a c => by omega⟩
    · rw [fi_miss h1] at h ⊢
      obtain ⟨g1, g2, g3, g4⟩ := fi_spec m (i + 1) b h
      refine ⟨by omega, by omega, g3, fun j a c => ?_⟩
      by_cases hj : j = i
      · rw [hj]; exact h1
      · exact g4 j (by omega) c
theorem fi_none : ∀ (m i : Nat) (b : Nat → Nat), fi b m i = 0 ↔ ∀ j, j < m → ¬ b (i + j) < 128
  | 0, i, b => ⟨fun _ j hj => by omega, fun _ => rfl⟩
  | m + 1, i, b => by
    by_cases h1 : b i < 128
    · rw [fi_hit h1]; exact ⟨fun h => by omega, fun h => absurd h1 (h 0 (by omega))⟩
    · rw [fi_miss h1]
      rw [fi_none m (i + 1) b]
      exact ⟨fun h j hj => by
        cases j with
        | zero => exact h1
        | succ j => rw [show i + (j + 1) = i + 1 + j by omega]; exact h j (by omega), fun h j hj => by
        have := h (j + 1) (by omega)
        rwa [show i + (j + 1) = i + 1 + j by omega] at this⟩
theorem vl_pos : ∀ (k i : Nat) (b : Nat → Nat), b (i + k) % 128 ≠ 0 → 0 < vl b i (k + 1)
  | 0, i, b, h => by simp [vl]; simpa [Nat.pos_iff_ne_zero] using h
  | k + 1, i, b, h => by
    have := vl_pos k (i + 1) b (by rwa [show i + 1 + k = i + (k + 1) by omega])
    rw [vl]; omega
theorem P_vl : ∀ (L k i : Nat) (b : Nat → Nat), L ≤ k → (∀ j, j < L → ¬ b (i + j) < 128 ∧ b (i + j) < 256) → b (i + L) < 128 → (0 < L → b (i + L) ≠ 0) → P k (vl b i (L + 1)) = (List.range (L + 1)).map fun j => b (i + j)
  | 0, k, i, b, _, _, h1, _ => by
    have : vl b i 1 = b i := by simp [vl]; simpa using h1
    rw [this, P_lt (by simpa using h1)]; simp
  | L + 1, k, i, b, hk, h, h1, h2 => by
    cases k with
    | zero => omega
    | succ k =>
      have h0 := h 0 (by omega)
      rw [Nat.add_zero] at h0
      have hpos := vl_pos L (i + 1) b (by
        rw [show i + 1 + L = i + (L + 1) by omega]
        have := h2 (by omega)
        omega)
      rw [vl]
      rw [P_ge (by omega)]
      have e1 : (b i % 128 + 128 * vl b (i + 1) (L + 1)) % 128 + 128 = b i := by omega
      have e2 : (b i % 128 + 128 * vl b (i + 1) (L + 1)) / 128 = vl b (i + 1) (L + 1) := by omega
      rw [e1, e2, P_vl L k (i + 1) b (by omega) (fun j hj => by rw [show i + 1 + j = i + (j + 1) by omega]; exact h (j + 1) (by omega)) (by rwa [show i + 1 + L = i + (L + 1) by omega]) (fun _ => by rw [show i + 1 + L = i + (L + 1) by omega]; exact h2 (by omega))]
      rw [List.range_succ_eq_map (n := L + 1)]
      simp only [List.map_cons, List.map_map, Nat.add_zero, List.cons.injEq, true_and]
      apply List.map_congr_left
      intro j _
      show b (i + 1 + j) = b (i + (j + 1))
      rw [show i + 1 + j = i + (j + 1) by omega]
theorem vl_lt : ∀ (L i : Nat) (b : Nat → Nat), b (i + L) < 128 → vl b i (L + 1) < 128 ^ L * (b (i + L) + 1)
  | 0, i, b, h => by simp [vl]; omega
  | L + 1, i, b, h => by
    have ih := vl_lt L (i + 1) b (by rwa [show i + 1 + L = i + (L + 1) by omega])
    rw [vl, Nat.pow_succ]
    rw [show i + 1 + L = i + (L + 1) by omega] at ih
    generalize hX : 128 ^ L = X at *
    generalize b (i + (L + 1)) = d at *
    have e : X * 128 * (d + 1) = 128 * (X * (d + 1)) := by rw [Nat.mul_comm X 128, Nat.mul_assoc]
    omega
theorem of_size {n : Nat} {b : Nat → Nat} (hb : ∀ i, b i < 256) (h : szE n b = 0) : 0 < szK n b ∧ szK n b ≤ n ∧ szK n b ≤ 10 ∧ vl b 0 (szK n b) < 18446744073709551616 ∧ pu (vl b 0 (szK n b)) = (List.range (szK n b)).map b := by
  have h0 : fi b (min n 10) 0 ≠ 0 := fun e => by
    unfold szE at h
    rw [if_pos e] at h
    split at h <;> omega
  have hbad : badN b (fi b (min n 10) 0) = false := by
    unfold szE at h
    rw [if_neg h0] at h
    cases hx : badN b (fi b (min n 10) 0) with
    | false => rfl
    | true => rw [hx, if_pos rfl] at h; omega
  have hk : szK n b = fi b (min n 10) 0 := by unfold szK; rw [hbad]; rfl
  obtain ⟨g1, g2, g3, g4⟩ := fi_spec _ _ _ h0
  rw [hk]
  clear hk h
  generalize fi b (min n 10) 0 = K at *
  obtain ⟨L, rfl⟩ : ∃ L, K = L + 1 := ⟨K - 1, by omega⟩
  unfold badN at hbad
  rw [decide_eq_false_iff_not] at hbad
  rw [Nat.add_sub_cancel] at g3 hbad
  simp only [Nat.add_sub_cancel] at g4
  have hbound := vl_lt L 0 b (by rw [Nat.zero_add]; exact g3)
  rw [Nat.zero_add] at hbound
  refine ⟨by omega, by omega, by omega, ?_, ?_⟩
  · by_cases h9 : L = 9
    · subst h9
      rw [pow9] at hbound
      have : b 9 ≤ 1 := by
        have : ¬ (1 < b 9) := fun hx => hbad (.inl ⟨rfl, hx⟩)
        omega
      have : b 9 = 0 ∨ b 9 = 1 := by omega
      rcases this with e | e <;> rw [e] at hbound <;> omega
    · have : 128 ^ L ≤ 128 ^ 8 := Nat.pow_le_pow_right (by decide) (by omega)
      have h8 : (128 : Nat) ^ 8 = 72057594037927936 := by decide
      have : 128 ^ L * (b L + 1) ≤ 72057594037927936 * 128 := Nat.mul_le_mul (by omega) (by omega)
      omega
  · rw [pu_P, P_vl L 9 0 b (by omega) (fun j hj => by rw [Nat.zero_add]; exact ⟨g4 j (by omega) (by omega), hb j⟩) (by rw [Nat.zero_add]; exact g3) (fun hL0 => by rw [Nat.zero_add]; exact fun e => hbad (.inr ⟨by omega, e⟩))]
    apply List.map_congr_left
    intro j _
    rw [Nat.zero_add]
theorem szK_of_err {n : Nat} {b : Nat → Nat} (h : szE n b ≠ 0) : szK n b = 0 := by
  unfold szE at h
  unfold szK
  by_cases h0 : fi b (min n 10) 0 = 0
  · rw [h0]; split <;> rfl
  · rw [if_neg h0] at h
    by_cases hb : badN b (fi b (min n 10) 0) = true
    · rw [if_pos hb]
    · rw [if_neg hb] at h; exact absurd rfl h
theorem szE_cases (n : Nat) (b : Nat → Nat) : szE n b = 0 ∨ szE n b = 10 ∨ szE n b = 11 := by
  unfold szE
  split
  · split <;> simp
  · split <;> simp
/-! ### Signed numbers -/
theorem zz_lt {n : Int} (h : -9223372036854775808 ≤ n ∧ n ≤ 9223372036854775807) : u64 (zz n) := by unfold u64 zz; split <;> omega
theorem uz_zz (n : Int) : uz (zz n) = n := by unfold uz zz; split <;> split <;> omega
theorem zz_uz (u : Nat) : zz (uz u) = u := by unfold uz zz; split <;> split <;> omega
theorem uz_rng {u : Nat} (h : u64 u) : -9223372036854775808 ≤ uz u ∧ uz u ≤ 9223372036854775807 := by unfold u64 at h; unfold uz; split <;> omega
end Wire
end Go.Fx
