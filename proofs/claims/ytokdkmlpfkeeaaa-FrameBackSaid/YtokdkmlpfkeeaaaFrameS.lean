/- Frames, without a program. -/
import Derived.Test.YtokdkmlpfkeeaaaCrcS
set_option maxRecDepth 100000
set_option maxHeartbeats 4000000
set_option linter.unusedVariables false
set_option linter.unusedSimpArgs false
namespace Go.Fx
open Go.Proofs
namespace Crc
abbrev tabC : List CV := tbC stp8
/-- The head of a frame, and the frame. -/
def kb (k : Int) : Nat := (k % 256).toNat
abbrev hd3 (k n : Nat) : Nat → List PV := litF [[.v (.int .u8 ((n / 256 % 256 : Nat) : Int))], [.v (.int .u8 ((n % 256 : Nat) : Int))], [.v (.int .u8 (k : Int))]]
def hdF (k n : Nat) (f : Nat → List PV) : Nat → List PV := catF 3 (hd3 k n) f
def putF (k n : Nat) (f : Nat → List PV) : Nat → List PV := catF (n + 3) (hdF k n f) (fourF (plainN (n + 3) (byN (hdF k n f))))
def ptE (k : Int) (n : Nat) : Nat := if k < 1 ∨ 3 < k then 2 else if 200 < n then 9 else 0
def ptL (k : Int) (n : Nat) : Nat := if ptE k n = 0 then n + 7 else 0
def ptB (k : Int) (n : Nat) (f : Nat → List PV) : Nat → Nat := byN (putF (kb k) n f)
/-- What stands at a place. -/
structure Nx where
  w : Nat
  k : Nat
  s : Nat
  p : Nat
  g : Nat → Nat
def nx0 (w : Nat) : Nx := ⟨w, 0, 0, 0, fun _ => 0⟩
def good (m : Nat) (h : Nat → List PV) : Bool := same 4 4 (fourF (plainN (m + 3) (byN h))) (fun i => h (i + (m + 3))) && decide (1 ≤ byN h 2 ∧ byN h 2 ≤ 3)
def nxm (f : Nat → List PV) (a : Nat) : Nat := 256 * byN f a + byN f (a + 1)
def nxt (n : Nat) (f : Nat → List PV) (a : Int) : Nx :=
  if a < 0 ∨ (n : Int) < a then nx0 3 else if n - a.toNat = 0 then nx0 1 else if n - a.toNat < 7 then nx0 2 else if 200 < nxm f a.toNat then nx0 3 else if n - a.toNat < nxm f a.toNat + 7 then nx0 2 else
  if good (nxm f a.toNat) (fun i => f (i + a.toNat)) = true then ⟨0, byN f (a.toNat + 2), nxm f a.toNat + 7, nxm f a.toNat, fun i => byN f (i + (a.toNat + 3))⟩ else nx0 3
def intV : AV → Option Int
  | .c (.p (.v (.int _ x))) => some x
  | _ => none
/-- What the functions of frame answer. -/
def frS (aw : Nat) : Qry → Option Sa := fun q => match q with
  | .call f args _ => match args with
    | [] => match Nat.beq f aw with
      | true => rV (B true)
      | false => none
    | [x, y] => match Nat.beq f 45, intV x, slOf y with
      | true, some k, some (n, g) => rV (.tup [Sl (ptL k n) (Bs (ptB k n g)), I (ptE k n)])
      | _, _, _ => match Nat.beq f 47, slOf x, intV y with
        | true, some (n, g), some a => rV (.tup [I (nxt n g a).w, I (nxt n g a).k, Sl (nxt n g a).p (Bs (nxt n g a).g), I (nxt n g a).s])
        | _, _, _ => match Nat.beq f 46, intV x, slOf y with
          | true, some k, some (n, g) => rV (Sl (n + 7) (Bs (ptB k n g)))
          | _, _, _ => match Nat.beq f 48, slOf x, intV y with
            | true, some (n, g), some a => rV (.agg [i64 (nxt n g a).w, i64 (nxt n g a).k, .p (.sl (nxt n g a).p (Bs (nxt n g a).g)), i64 (nxt n g a).s])
            | _, _, _ => none
    | _ => none
  | _ => none

theorem wkb (k : Int) : IntKind.wrap .u8 k = ((kb k : Nat) : Int) := by
  unfold IntKind.wrap kb
  simp [IntKind.signed, IntKind.bits]
  omega
theorem kb_lt (k : Int) : kb k < 256 := by unfold kb; omega
theorem kb_nat {k : Nat} (h : k < 256) : kb (k : Int) = k := by unfold kb; omega
theorem hd3_ok (k n : Nat) (hk : k < 256) : BOk 3 (hd3 k n) := BOk.of fun i hi => by
  match i, hi with
  | 0, _ => exact ⟨_, Nat.mod_lt (n / 256) (by decide), rfl⟩
  | 1, _ => exact ⟨_, Nat.mod_lt n (by decide), rfl⟩
  | 2, _ => exact ⟨k, hk, rfl⟩
theorem hd_ok {k n : Nat} {f : Nat → List PV} (hk : k < 256) (hf : BOk n f) : BOk (n + 3) (hdF k n f) := (hd3_ok k n hk).cat' hf (by omega)
theorem byN_hd {k n : Nat} (hk : k < 256) (f : Nat → List PV) (i : Nat) : byN (hdF k n f) i = if i = 0 then n / 256 % 256 else if i = 1 then n % 256 else if i = 2 then k else byN f (i - 3) := by
  unfold hdF
  rw [byN_cat]
  match i with
  | 0 => rw [if_pos (by omega), if_pos rfl]; show Int.toNat ((n / 256 % 256 : Nat) : Int) % 256 = _; rw [Int.toNat_natCast]; omega
  | 1 => rw [if_pos (by omega), if_neg (by omega), if_pos rfl]; show Int.toNat ((n % 256 : Nat) : Int) % 256 = _; rw [Int.toNat_natCast]; omega
  | 2 => rw [if_pos (by omega), if_neg (by omega), if_neg (by omega), if_pos rfl]; show Int.toNat ((k : Nat) : Int) % 256 = _; rw [Int.toNat_natCast, Nat.mod_eq_of_lt hk]
  | i + 3 => rw [if_neg (by omega), if_neg (by omega), if_neg (by omega), if_neg (by omega)]
theorem put_ok {k n : Nat} {f : Nat → List PV} (hk : k < 256) (hf : BOk n f) : BOk (n + 7) (putF k n f) := (hd_ok hk hf).cat' (four_ok _) (by omega)
theorem ptB_lt (k : Int) (n : Nat) (f : Nat → List PV) (i : Nat) : ptB k n f i < 256 := byN_lt _ _
theorem hd_congr {k n : Nat} {f g : Nat → List PV} (hk : k < 256) (h : byN f = byN g) : byN (hdF k n f) = byN (hdF k n g) := funext fun i => by rw [byN_hd hk, byN_hd hk, h]
theorem put_congr {k n : Nat} {f g : Nat → List PV} (hk : k < 256) (h : byN f = byN g) : byN (putF k n f) = byN (putF k n g) := funext fun i => by
  unfold putF
  rw [byN_cat, byN_cat, hd_congr hk h]
theorem ptB_congr {k : Int} {n : Nat} {f g : Nat → List PV} (h : byN f = byN g) : ptB k n f = ptB k n g := put_congr (kb_lt k) h
theorem good_iff (m : Nat) (h : Nat → List PV) : good m h = true ↔ (∀ i, i < 4 → byN (fourF (plainN (m + 3) (byN h))) i = byN h (i + (m + 3))) ∧ 1 ≤ byN h 2 ∧ byN h 2 ≤ 3 := by
  unfold good same
  rw [Bool.and_eq_true, decide_eq_true_iff, decide_eq_true_iff]
  exact ⟨fun ⟨⟨_, a⟩, b⟩ => ⟨a, b⟩, fun ⟨a, b⟩ => ⟨⟨rfl, a⟩, b⟩⟩
theorem frame_iff {m k : Nat} {f h : Nat → List PV} (hd : ∀ i, i < m + 3 → byN (hdF k m f) i = byN h i) : (∀ i, i < m + 7 → byN (putF k m f) i = byN h i) ↔ ∀ i, i < 4 → byN (fourF (plainN (m + 3) (byN h))) i = byN h (i + (m + 3)) := by
  have hp : plainN (m + 3) (byN (hdF k m f)) = plainN (m + 3) (byN h) := by
    unfold plainN
    have : ∀ (b c : Nat → Nat) (k i s : Nat), (∀ j, i ≤ j → j < i + k → b j = c j) → prun b k i s = prun c k i s := by
      intro b c k
      induction k with
      | zero => intro i s _; rfl
      | succ k ih =>
        intro i s h
        rw [prun, prun, h i (by omega) (by omega)]
        exact ih (i + 1) _ fun j h1 h2 => h j (by omega) (by omega)
    rw [this (byN (hdF k m f)) (byN h) (m + 3) 0 _ fun j _ hj => hd j (by omega)]
  constructor
  · intro hh i hi
    have := hh (i + (m + 3)) (by omega)
    unfold putF at this
    rw [byN_cat, if_neg (by omega), show i + (m + 3) - (m + 3) = i by omega, hp] at this
    exact this
  · intro hh i hi
    unfold putF
    rw [byN_cat]
    by_cases h1 : i < m + 3
    · rw [if_pos h1]; exact hd i h1
    · rw [if_neg h1, hp, hh _ (by omega), show i - (m + 3) + (m + 3) = i by omega]
/-! ### What stands at a place -/
theorem nxt_at {N p n : Nat} {k : Int} {F f : Nat → List PV} (hk : 1 ≤ k ∧ k ≤ 3) (hn : n ≤ 200) (hN : p + n + 7 ≤ N) (h : ∀ i, i < n + 7 → byN F (i + p) = ptB k n f i) :
    (nxt N F (p : Int)).w = 0 ∧ ((nxt N F (p : Int)).k : Int) = k ∧ (nxt N F (p : Int)).s = n + 7 ∧ (nxt N F (p : Int)).p = n ∧ ∀ i, i < n → (nxt N F (p : Int)).g i = byN f i := by
  have hkb : kb k < 256 := kb_lt k
  have hhd : ∀ i, i < n + 3 → byN F (i + p) = byN (hdF (kb k) n f) i := fun i hi => by
    rw [h i (by omega)]
    show byN (putF (kb k) n f) i = _
    unfold putF
    rw [byN_cat, if_pos hi]
  have b0 : byN F p = n / 256 % 256 := by have := hhd 0 (by omega); rw [byN_hd hkb] at this; simpa using this
  have b1 : byN F (p + 1) = n % 256 := by have := hhd 1 (by omega); rw [byN_hd hkb] at this; simpa [Nat.add_comm] using this
  have b2 : byN F (p + 2) = kb k := by have := hhd 2 (by omega); rw [byN_hd hkb] at this; simpa [Nat.add_comm] using this
  have hm : nxm F p = n := by unfold nxm; rw [b0, b1]; omega
  have hk2 : kb k = k.toNat := by unfold kb; omega
  have hg : good n (fun i => F (i + p)) = true := by
    rw [good_iff]
    refine ⟨(frame_iff (k := kb k) (f := f) (h := fun i => F (i + p)) fun i hi => (hhd i hi).symm).1 fun i hi => (h i hi).symm, ?_⟩
    show 1 ≤ byN F (2 + p) ∧ byN F (2 + p) ≤ 3
    rw [Nat.add_comm, b2, hk2]; omega
  have e : nxt N F (p : Int) = ⟨0, byN F (p + 2), n + 7, n, fun i => byN F (i + (p + 3))⟩ := by
    unfold nxt
    rw [if_neg (by omega), Int.toNat_natCast, if_neg (by omega), if_neg (by omega), hm, if_neg (by omega), if_neg (by omega), if_pos hg]
  rw [e]
  refine ⟨rfl, ?_, rfl, rfl, fun i hi => ?_⟩
  · show ((byN F (p + 2) : Nat) : Int) = k
    rw [b2, hk2]; omega
  · show byN F (i + (p + 3)) = byN f i
    have := hhd (i + 3) (by omega)
    rw [byN_hd hkb, if_neg (by omega), if_neg (by omega), if_neg (by omega)] at this
    rw [show i + (p + 3) = i + 3 + p by omega, this, show i + 3 - 3 = i by omega]
theorem nxt_whole {n : Nat} {f : Nat → List PV} {a : Int} (h : (nxt n f a).w = 0) : 0 ≤ a ∧ a + (nxt n f a).s ≤ n ∧ (nxt n f a).s = (nxt n f a).p + 7 ∧ (nxt n f a).p ≤ 200 ∧ 1 ≤ (nxt n f a).k ∧ (nxt n f a).k ≤ 3 ∧
    (∀ i, (nxt n f a).g i < 256) ∧ ∀ i, i < (nxt n f a).s → byN f (i + a.toNat) = ptB ((nxt n f a).k : Int) (nxt n f a).p (Bs (nxt n f a).g) i := by
  unfold nxt at h ⊢
  split at h
  · exact absurd h (by decide)
  · split at h
    · exact absurd h (by decide)
    · split at h
      · exact absurd h (by decide)
      · split at h
        · exact absurd h (by decide)
        · split at h
          · exact absurd h (by decide)
          · split at h
            · rename_i h0 h1 h2 h3 h4 hg
              rw [if_neg h0, if_neg h1, if_neg h2, if_neg h3, if_neg h4, if_pos hg]
              obtain ⟨p, rfl⟩ : ∃ p : Nat, a = p := ⟨a.toNat, by omega⟩
              rw [Int.toNat_natCast] at *
              have hgg := (good_iff _ _).1 hg
              have hk : byN f (p + 2) = byN (fun i => f (i + p)) 2 := by rw [Nat.add_comm]; rfl
              have hk3 : 1 ≤ byN f (p + 2) ∧ byN f (p + 2) ≤ 3 := by rw [hk]; exact hgg.2
              refine ⟨by omega, ?_, rfl, by show nxm f p ≤ 200; omega, hk3.1, hk3.2, fun i => byN_lt _ _, ?_⟩
              · show (p : Int) + ((nxm f p + 7 : Nat) : Int) ≤ n
                omega
              · show ∀ i, i < nxm f p + 7 → byN f (i + p) = ptB ((byN f (p + 2) : Nat) : Int) (nxm f p) (Bs fun i => byN f (i + (p + 3))) i
                intro i hi
                have hkb : kb ((byN f (p + 2) : Nat) : Int) = byN f (p + 2) := kb_nat (byN_lt _ _)
                unfold ptB
                rw [hkb]
                have l0 := byN_lt f p; have l1 := byN_lt f (p + 1)
                refine ((frame_iff (k := byN f (p + 2)) (f := Bs fun i => byN f (i + (p + 3))) (h := fun i => f (i + p)) fun i hi => ?_).2 hgg.1 i hi).symm
                rw [byN_hd (byN_lt _ _)]
                show _ = byN f (i + p)
                match i with
                | 0 => rw [if_pos rfl, Nat.zero_add]; unfold nxm; omega
                | 1 => rw [if_neg (by omega), if_pos rfl, Nat.add_comm 1 p]; unfold nxm; omega
                | 2 => rw [if_neg (by omega), if_neg (by omega), if_pos rfl, Nat.add_comm 2 p]
                | i + 3 => rw [if_neg (by omega), if_neg (by omega), if_neg (by omega), show i + 3 - 3 = i by omega, byN_Bs (fun i => byN f (i + (p + 3))) i (byN_lt _ _), show i + (p + 3) = i + 3 + p by omega]
            · exact absurd h (by decide)
theorem nxt_not {n : Nat} {f : Nat → List PV} {a : Int} (h : ¬ (nxt n f a).w = 0) : (nxt n f a).k = 0 ∧ (nxt n f a).p = 0 ∧ (nxt n f a).s = 0 ∧ ((nxt n f a).w = 1 ↔ a = n) := by
  unfold nxt at h ⊢
  unfold nx0 at *
  split
  · refine ⟨rfl, rfl, rfl, ?_⟩
    constructor
    · intro h; exact absurd h (by decide)
    · intro h; omega
  · split
    · refine ⟨rfl, rfl, rfl, ?_⟩
      constructor
      · intro _; omega
      · intro _; rfl
    · split
      · refine ⟨rfl, rfl, rfl, ?_⟩
        constructor
        · intro h; exact absurd h (by decide)
        · intro h; omega
      · split
        · refine ⟨rfl, rfl, rfl, ?_⟩
          constructor
          · intro h; exact absurd h (by decide)
          · intro h; omega
        · split
          · refine ⟨rfl, rfl, rfl, ?_⟩
            constructor
            · intro h; exact absurd h (by decide)
            · intro h; omega
          · split
            · rename_i h0 h1 h2 h3 h4 hg
              rw [if_neg h0, if_neg h1, if_neg h2, if_neg h3, if_neg h4, if_pos hg] at h
              exact absurd rfl h
            · refine ⟨rfl, rfl, rfl, ?_⟩
              constructor
              · intro h; exact absurd h (by decide)
              · intro h; omega
theorem good_congr {m : Nat} {h h' : Nat → List PV} (e : byN h = byN h') : good m h = good m h' := by
  rw [Bool.eq_iff_iff, good_iff, good_iff, e]
theorem nxt_congr (n : Nat) (f : Nat → List PV) (a : Int) : nxt n (Bs (byN f)) a = nxt n f a := by
  have e : byN (Bs (byN f)) = byN f := funext fun i => byN_Bs _ _ (byN_lt f i)
  have e2 : byN (fun i => Bs (byN f) (i + a.toNat)) = byN (fun i => f (i + a.toNat)) := funext fun i => byN_Bs (fun i => byN f (i + a.toNat)) i (byN_lt _ _)
  unfold nxt nxm
  rw [e, good_congr e2]
theorem orShift {x y : Nat} (hx : x < 256) (hy : y < 256) : IntKind.wrap .i64 (↑(BitVec.toNat (BitVec.ofInt (IntKind.bits IntKind.i64) (IntKind.wrap .i64 (IntKind.wrap .i64 (x : Int) * (2 : Int) ^ min (Int.toNat (8 : Int)) (IntKind.bits IntKind.i64))) ||| BitVec.ofInt (IntKind.bits IntKind.i64) (IntKind.wrap .i64 (y : Int)))) : Int) = ((256 * x + y : Nat) : Int) := by
  rw [w64 (n := (x : Int)) (by omega), w64 (n := (y : Int)) (by omega)]
  have e : (x : Int) * (2 : Int) ^ min (Int.toNat (8 : Int)) (IntKind.bits IntKind.i64) = ((256 * x : Nat) : Int) := by
    show (x : Int) * 256 = _
    omega
  rw [e, w64 (n := ((256 * x : Nat) : Int)) (by omega)]
  show IntKind.wrap .i64 (↑(BitVec.toNat (BitVec.ofInt 64 ((256 * x : Nat) : Int) ||| BitVec.ofInt 64 ((y : Nat) : Int))) : Int) = _
  rw [bvOr 64 _ _ (by omega) (by omega)]
  have h := Nat.two_pow_add_eq_or_of_lt (i := 8) (b := y) (by omega) x
  have h' : 256 * x ||| y = 256 * x + y := h.symm
  rw [h', w64 (by omega)]
end Crc
end Go.Fx
