/- Numbers and texts as bytes: what is put is read. -/
import Derived.Test.YtokdkmlpfkeeaaaWireX
set_option maxRecDepth 100000
set_option maxHeartbeats 4000000
set_option linter.unusedVariables false
set_option linter.unusedSimpArgs false
namespace Go.Fx
open Go.Proofs Go.RowKit
namespace Wire
abbrev Us (l : Nat → Int) : Nat → List PV := fun i => [.v (.int .u64 (l i))]
abbrev Is (l : Nat → Int) : Nat → List PV := fun i => [.v (.int .i64 (l i))]
abbrev Ss (s : Nat → ByteArray) : Nat → List PV := fun i => [.v (.string (s i))]
abbrev Lb (X : List Nat) : AV := Sl X.length (Ls X)

attribute [local irreducible] QOk
/-! ### Reading one behind the other -/
abbrev St := Int × Int × Bool
def stU (n : Nat) (f : Nat → List PV) (x : Int) (s : St) : St := (uA n f s.1 s.2.1, uE n f s.1 s.2.1, s.2.2 && ((uV n f s.1 s.2.1 : Int) == x))
def stI (n : Nat) (f : Nat → List PV) (x : Int) (s : St) : St := (uA n f s.1 s.2.1, uE n f s.1 s.2.1, s.2.2 && (uz (uV n f s.1 s.2.1) == x))
def stT (n : Nat) (f : Nat → List PV) (x : ByteArray) (s : St) : St := (tA n f s.1 s.2.1 200, tE n f s.1 s.2.1 200, s.2.2 && decide (tS n f s.1 s.2.1 200 = x))
def fold {α : Type} (g : α → St → St) (l : Nat → α) : Nat → Nat → St → St
  | 0, _, s => s
  | k + 1, i, s => fold g l k (i + 1) (g (l i) s)
def app {α : Type} (g : α → List Nat) (l : Nat → α) : Nat → Nat → List Nat → List Nat
  | 0, _, X => X
  | k + 1, i, X => app g l k (i + 1) (X ++ g (l i))
def bsN (s : ByteArray) : List Nat := s.data.toList.map (·.toNat)
def puU (x : Int) : List Nat := pu x.toNat
def puI (x : Int) : List Nat := pu (zz x)
def puT (s : ByteArray) : List Nat := pu s.size ++ bsN s
theorem app_pre {α : Type} (g : α → List Nat) (l : Nat → α) : ∀ (k i : Nat) (X : List Nat), ∃ R, app g l k i X = X ++ R
  | 0, i, X => ⟨[], by simp [app]⟩
  | k + 1, i, X => by
    obtain ⟨R, h⟩ := app_pre g l k (i + 1) (X ++ g (l i))
    exact ⟨g (l i) ++ R, by rw [app, h, List.append_assoc]⟩
theorem bsN_len (s : ByteArray) : (bsN s).length = s.size := by simp [bsN]
theorem bsN_getD (s : ByteArray) (i : Nat) : (bsN s).getD i 0 = (s.data.getD i 0).toNat := by
  unfold bsN
  rw [List.getD_eq_getElem?_getD, List.getElem?_map, Array.getElem?_toList]
  by_cases h : i < s.data.size
  · rw [Array.getElem?_eq_getElem h, Array.getD, dif_pos h]; rfl
  · rw [Array.getElem?_eq_none (by omega), Array.getD, dif_neg h]; rfl
/-- What holds of a state behind the bytes X, of n. -/
def Okk (n : Nat) (X : List Nat) (s : St) : Prop := (X.length ≤ n → s = ((X.length : Int), 0, true)) ∧ (n < X.length → s.2.1 = 10)
theorem err_stays {n : Nat} {f : Nat → List PV} {a : Int} : uE n f a 10 = 10 := by
  have : rt n a 10 = false := by unfold rt; simp
  unfold uE; rw [if_neg (by rw [this]; decide)]; rfl
/-- What is read behind X. -/
theorem read_at {n v : Nat} {X R Z : List Nat} (hv : u64 v) (hZ : Z = X ++ pu v ++ R) (hb : ∀ x ∈ Z, x < 256) (hn : n ≤ Z.length) (hX : X.length ≤ n) :
    (X.length + (pu v).length ≤ n → uE n (Ls Z) X.length 0 = 0 ∧ uA n (Ls Z) X.length 0 = ((X.length + (pu v).length : Nat) : Int) ∧ uV n (Ls Z) X.length 0 = v) ∧ (n < X.length + (pu v).length → uE n (Ls Z) X.length 0 = 10) := by
  have hr : rt n (X.length : Int) 0 = true := rt_iff.2 ⟨rfl, by omega, by omega⟩
  have hbyte : ∀ j, j < (pu v).length → byN (sh (Ls Z) X.length) j = (pu v).getD j 0 := by
    intro j hj
    show byN (Ls Z) (j + X.length) = _
    refine (byN_Bs (fun i => Z.getD i 0) _ (getD_lt hb _)).trans ?_
    rw [hZ]
    rw [List.getD_eq_getElem?_getD, List.getD_eq_getElem?_getD, List.append_assoc, List.getElem?_append_right (by omega), List.getElem?_append_left (by omega), Nat.add_sub_cancel]
  unfold uE uA uV uK
  simp only [if_pos hr, Int.toNat_natCast]
  constructor
  · intro h
    obtain ⟨h1, h2, h3⟩ := sz_pu (m := n - X.length) hv (by omega) hbyte
    rw [h1, h2, h3]
    exact ⟨rfl, by omega, rfl⟩
  · intro h
    exact (sz_cut (m := n - X.length) hv (by omega) (fun j hj => hbyte j (by omega))).2
theorem okU {n : Nat} {x : Int} {X R Z : List Nat} {s : St} (hx : 0 ≤ x ∧ x ≤ 18446744073709551615) (hZ : Z = X ++ puU x ++ R) (hb : ∀ x ∈ Z, x < 256) (hn : n ≤ Z.length) (h : Okk n X s) : Okk n (X ++ puU x) (stU n (Ls Z) x s) := by
  unfold puU at *
  unfold Okk stU at *
  rw [List.length_append]
  by_cases hX : X.length ≤ n
  · have hs := h.1 hX
    subst hs
    obtain ⟨h1, h2⟩ := read_at (by unfold u64; omega) hZ hb hn hX
    refine ⟨fun hle => ?_, fun hlt => h2 hlt⟩
    obtain ⟨e1, e2, e3⟩ := h1 hle
    simp only [e1, e2, e3]
    have : ((x.toNat : Nat) : Int) = x := Int.toNat_of_nonneg hx.1
    rw [this]; simp
  · have hs := h.2 (by omega)
    refine ⟨fun hle => by omega, fun _ => ?_⟩
    show uE n (Ls Z) s.1 s.2.1 = 10
    rw [hs]; exact err_stays
theorem okI {n : Nat} {x : Int} {X R Z : List Nat} {s : St} (hx : -9223372036854775808 ≤ x ∧ x ≤ 9223372036854775807) (hZ : Z = X ++ puI x ++ R) (hb : ∀ x ∈ Z, x < 256) (hn : n ≤ Z.length) (h : Okk n X s) : Okk n (X ++ puI x) (stI n (Ls Z) x s) := by
  unfold puI at *
  unfold Okk stI at *
  rw [List.length_append]
  by_cases hX : X.length ≤ n
  · have hs := h.1 hX
    subst hs
    obtain ⟨h1, h2⟩ := read_at (zz_lt hx) hZ hb hn hX
    refine ⟨fun hle => ?_, fun hlt => h2 hlt⟩
    obtain ⟨e1, e2, e3⟩ := h1 hle
    simp only [e1, e2, e3, uz_zz]
    simp
  · have hs := h.2 (by omega)
    refine ⟨fun hle => by omega, fun _ => ?_⟩
    show uE n (Ls Z) s.1 s.2.1 = 10
    rw [hs]; exact err_stays
theorem okT {n : Nat} {x : ByteArray} {X R Z : List Nat} {s : St} (hx : x.size ≤ 200) (hZ : Z = X ++ puT x ++ R) (hb : ∀ x ∈ Z, x < 256) (hn : n ≤ Z.length) (h : Okk n X s) : Okk n (X ++ puT x) (stT n (Ls Z) x s) := by
  unfold puT at *
  unfold Okk stT at *
  rw [List.length_append, List.length_append, bsN_len]
  by_cases hX : X.length ≤ n
  · have hs := h.1 hX
    subst hs
    obtain ⟨h1, h2⟩ := read_at (v := x.size) (R := bsN x ++ R) (by unfold u64; omega) (by rw [hZ]; simp) hb hn hX
    simp only
    have hZl : Z.length = X.length + (pu x.size).length + x.size + R.length := by rw [hZ]; simp [bsN_len]; omega
    constructor
    · intro hle
      obtain ⟨e1, e2, e3⟩ := h1 (by omega)
      have hE : tE n (Ls Z) X.length 0 200 = 0 := by
        unfold tE; rw [if_neg (by rw [e1]; decide), if_neg (by rw [e3]; omega), if_neg (by rw [e2, e3]; omega)]
      have hA : tA n (Ls Z) X.length 0 200 = ((X.length + ((pu x.size).length + x.size) : Nat) : Int) := by unfold tA; rw [if_pos hE, e2, e3]; omega
      have hS : tS n (Ls Z) X.length 0 200 = x := by
        unfold tS
        rw [if_pos hE, e2, e3, Int.toNat_natCast]
        conv => rhs; rw [← textOf_str x]
        refine (textOf_eq (BOk.bs (l := fun i => Z.getD (i + (X.length + (pu x.size).length)) 0) _ (fun i _ => getD_lt hb _)) (BOk.str x)).2 ⟨rfl, fun i hi => ?_⟩
        show byN (Ls Z) (i + (X.length + (pu x.size).length)) = byN (strF x) i
        refine (byN_Bs (fun i => Z.getD i 0) _ (getD_lt hb _)).trans ?_
        have e4 : byN (strF x) i = (bsN x).getD i 0 := by
          rw [bsN_getD]
          show Int.toNat (((x.data.getD i 0).toNat : Nat) : Int) % 256 = _
          rw [Int.toNat_natCast, Nat.mod_eq_of_lt (UInt8.toNat_lt _)]
        rw [e4, hZ, List.getD_eq_getElem?_getD, List.getD_eq_getElem?_getD]
        rw [show X ++ (pu x.size ++ bsN x) ++ R = (X ++ pu x.size) ++ (bsN x ++ R) by simp]
        rw [List.getElem?_append_right (by simp), List.length_append, Nat.add_sub_cancel, List.getElem?_append_left (by rw [bsN_len]; exact hi)]
      rw [hE, hA, hS]
      simp
    · intro hlt
      unfold tE
      by_cases hle : X.length + (pu x.size).length ≤ n
      · obtain ⟨e1, e2, e3⟩ := h1 hle
        rw [if_neg (by rw [e1]; decide), if_neg (by rw [e3]; omega), if_pos (by rw [e2, e3]; omega)]
      · rw [h2 (by omega), if_pos (by decide)]
  · have hs := h.2 (by omega)
    refine ⟨fun hle => by omega, fun _ => ?_⟩
    show tE n (Ls Z) s.1 s.2.1 200 = 10
    rw [hs]
    unfold tE; rw [err_stays, if_pos (by decide)]
theorem ok_fold {α : Type} {n : Nat} {Z : List Nat} (g : α → List Nat) (st : α → St → St) (l : Nat → α) (Q : α → Prop) (hstep : ∀ (x : α) (X R : List Nat) (s : St), Q x → Z = X ++ g x ++ R → Okk n X s → Okk n (X ++ g x) (st x s)) :
    ∀ (k i : Nat) (X R : List Nat) (s : St), (∀ j, i ≤ j → j < i + k → Q (l j)) → Z = app g l k i X ++ R → Okk n X s → Okk n (app g l k i X) (fold st l k i s)
  | 0, i, X, R, s, _, _, h => h
  | k + 1, i, X, R, s, hQ, hZ, h => by
    rw [app, fold]
    rw [app] at hZ
    obtain ⟨R2, h2⟩ := app_pre g l k (i + 1) (X ++ g (l i))
    refine ok_fold g st l Q hstep k (i + 1) (X ++ g (l i)) R _ (fun j h1 h3 => hQ j (by omega) (by omega)) hZ ?_
    exact hstep (l i) X (R2 ++ R) s (hQ i (by omega) (by omega)) (by rw [hZ, h2]; simp) h
theorem app_256 {α : Type} {g : α → List Nat} {l : Nat → α} (Q : α → Prop) (hg : ∀ x, Q x → ∀ y ∈ g x, y < 256) : ∀ (k i : Nat) (X : List Nat), (∀ j, i ≤ j → j < i + k → Q (l j)) → (∀ x ∈ X, x < 256) → ∀ x ∈ app g l k i X, x < 256
  | 0, i, X, _, h => h
  | k + 1, i, X, hQ, h => by
    rw [app]
    refine app_256 Q hg k (i + 1) _ (fun j h1 h2 => hQ j (by omega) (by omega)) fun x hx => ?_
    rcases List.mem_append.1 hx with hx | hx
    · exact h x hx
    · exact hg _ (hQ i (by omega) (by omega)) x hx
theorem app_len {α : Type} {g : α → List Nat} {l : Nat → α} (c : Nat) (Q : α → Prop) (hg : ∀ x, Q x → (g x).length ≤ c) : ∀ (k i : Nat) (X : List Nat), (∀ j, i ≤ j → j < i + k → Q (l j)) → (app g l k i X).length ≤ X.length + k * c
  | 0, i, X, _ => by simp [app]
  | k + 1, i, X, hQ => by
    rw [app]
    have := app_len c Q hg k (i + 1) (X ++ g (l i)) (fun j h1 h2 => hQ j (by omega) (by omega))
    have h2 := hg _ (hQ i (by omega) (by omega))
    rw [List.length_append] at this
    rw [Nat.succ_mul]
    omega
theorem rdR1_t (n : Nat)  (f : Nat → List PV)  (p : Nat)  (l : Nat → Int)  (r : Nat)  (m : Nat → Int)  (t : Nat)  (s : Nat → ByteArray)  (a e : Int)  (q : Bool)  (i : Nat)  (A E : Int)  (Q : Bool)  : fol CK Try.prog (SLo 53 (fun vals h => match vals, h with | [x, y, z, u, v, _, _], [_, o] => some ⟨.exit 0, [x, y, z, u, v, B Q, I p], [.box [.p (.sl n f), i64 A, i64 E] true, o]⟩ | _, _ => none) (wrS 1000000)) (An.b (An.d (An.a (An.d (An.d (An.b (An.l (An.l (An.l (An.c (An.l (An.l (An.l (An.d (An.a An.e))))))))) (An.l (An.l (An.l (An.l (An.l (An.l (An.d (An.a An.e))))))))))))) An.e) (T.evQ CK Try.prog (.loop 53 0 [1, 1, 0, 1, 0] [Sl p (Us l), Sl r (Is m), Sl t (Ss s), .c (.ptr 0 0), .c (.ptr 1 0), B q, I i] [.box [.p (.sl n f), i64 a, i64 e] true, .box [.nils, i64 0, i64 0] true]) .done) = Sc.br (decide ((↑i : Int) < (↑p : Int))) (Sc.ask (Qry.call (56 : Nat) [AV.agg [CV.p (PV.sl n f), CV.p (PV.v (Value.int IntKind.i64 a)), CV.p (PV.v (Value.int IntKind.i64 e))]] []) (Ans.mk Ex.ret [AV.tup [AV.agg [CV.p (PV.sl n f), CV.p (PV.v (Value.int IntKind.i64 (uA n f a e))), CV.p (PV.v (Value.int IntKind.i64 (uE n f a e)))], AV.c (CV.p (PV.v (Value.int IntKind.u64 (↑(uV n f a e) : Int))))]] []) (Sc.br q (Sc.chk ((0 : Int) ≤ (↑i : Int) ∧ (↑i : Int) < (↑p : Int)) (Sc.ask (Qry.loop (53 : Nat) (0 : Nat) [(1 : Nat), (1 : Nat), (0 : Nat), (1 : Nat), (0 : Nat)] [AV.c (CV.p (PV.sl p fun i => [PV.v (Value.int IntKind.u64 (l i))])), AV.c (CV.p (PV.sl r fun i => [PV.v (Value.int IntKind.i64 (m i))])), AV.c (CV.p (PV.sl t fun i => [PV.v (Value.string (s i))])), AV.c (CV.ptr (0 : Nat) (0 : Nat)), AV.c (CV.ptr (1 : Nat) (0 : Nat)), AV.c (CV.p (PV.v (Value.bool ((↑(uV n f a e) : Int) == l (Int.toNat (↑i : Int)))))), AV.c (CV.p (PV.v (Value.int IntKind.i64 (IntKind.wrap IntKind.i64 ((↑i : Int) + (1 : Int))))))] [Ob.box [CV.p (PV.sl n f), CV.p (PV.v (Value.int IntKind.i64 (uA n f a e))), CV.p (PV.v (Value.int IntKind.i64 (uE n f a e)))] true, Ob.box [CV.nils, CV.p (PV.v (Value.int IntKind.i64 (0 : Int))), CV.p (PV.v (Value.int IntKind.i64 (0 : Int)))] true]) (Ans.mk (Ex.exit (0 : Nat)) [AV.c (CV.p (PV.sl p fun i => [PV.v (Value.int IntKind.u64 (l i))])), AV.c (CV.p (PV.sl r fun i => [PV.v (Value.int IntKind.i64 (m i))])), AV.c (CV.p (PV.sl t fun i => [PV.v (Value.string (s i))])), AV.c (CV.ptr (0 : Nat) (0 : Nat)), AV.c (CV.ptr (1 : Nat) (0 : Nat)), AV.c (CV.p (PV.v (Value.bool Q))), AV.c (CV.p (PV.v (Value.int IntKind.i64 (↑p : Int))))] [Ob.box [CV.p (PV.sl n f), CV.p (PV.v (Value.int IntKind.i64 A)), CV.p (PV.v (Value.int IntKind.i64 E))] true, Ob.box [CV.nils, CV.p (PV.v (Value.int IntKind.i64 (0 : Int))), CV.p (PV.v (Value.int IntKind.i64 (0 : Int)))] true]) (Sc.done (Ans.mk (Ex.exit (0 : Nat)) [AV.c (CV.p (PV.sl p fun i => [PV.v (Value.int IntKind.u64 (l i))])), AV.c (CV.p (PV.sl r fun i => [PV.v (Value.int IntKind.i64 (m i))])), AV.c (CV.p (PV.sl t fun i => [PV.v (Value.string (s i))])), AV.c (CV.ptr (0 : Nat) (0 : Nat)), AV.c (CV.ptr (1 : Nat) (0 : Nat)), AV.c (CV.p (PV.v (Value.bool Q))), AV.c (CV.p (PV.v (Value.int IntKind.i64 (↑p : Int))))] [Ob.box [CV.p (PV.sl n f), CV.p (PV.v (Value.int IntKind.i64 A)), CV.p (PV.v (Value.int IntKind.i64 E))] true, Ob.box [CV.nils, CV.p (PV.v (Value.int IntKind.i64 (0 : Int))), CV.p (PV.v (Value.int IntKind.i64 (0 : Int)))] true])))) (Sc.ask (Qry.loop (53 : Nat) (0 : Nat) [(1 : Nat), (1 : Nat), (0 : Nat), (1 : Nat), (0 : Nat)] [AV.c (CV.p (PV.sl p fun i => [PV.v (Value.int IntKind.u64 (l i))])), AV.c (CV.p (PV.sl r fun i => [PV.v (Value.int IntKind.i64 (m i))])), AV.c (CV.p (PV.sl t fun i => [PV.v (Value.string (s i))])), AV.c (CV.ptr (0 : Nat) (0 : Nat)), AV.c (CV.ptr (1 : Nat) (0 : Nat)), AV.c (CV.p (PV.v (Value.bool false))), AV.c (CV.p (PV.v (Value.int IntKind.i64 (IntKind.wrap IntKind.i64 ((↑i : Int) + (1 : Int))))))] [Ob.box [CV.p (PV.sl n f), CV.p (PV.v (Value.int IntKind.i64 (uA n f a e))), CV.p (PV.v (Value.int IntKind.i64 (uE n f a e)))] true, Ob.box [CV.nils, CV.p (PV.v (Value.int IntKind.i64 (0 : Int))), CV.p (PV.v (Value.int IntKind.i64 (0 : Int)))] true]) (Ans.mk (Ex.exit (0 : Nat)) [AV.c (CV.p (PV.sl p fun i => [PV.v (Value.int IntKind.u64 (l i))])), AV.c (CV.p (PV.sl r fun i => [PV.v (Value.int IntKind.i64 (m i))])), AV.c (CV.p (PV.sl t fun i => [PV.v (Value.string (s i))])), AV.c (CV.ptr (0 : Nat) (0 : Nat)), AV.c (CV.ptr (1 : Nat) (0 : Nat)), AV.c (CV.p (PV.v (Value.bool Q))), AV.c (CV.p (PV.v (Value.int IntKind.i64 (↑p : Int))))] [Ob.box [CV.p (PV.sl n f), CV.p (PV.v (Value.int IntKind.i64 A)), CV.p (PV.v (Value.int IntKind.i64 E))] true, Ob.box [CV.nils, CV.p (PV.v (Value.int IntKind.i64 (0 : Int))), CV.p (PV.v (Value.int IntKind.i64 (0 : Int)))] true]) (Sc.done (Ans.mk (Ex.exit (0 : Nat)) [AV.c (CV.p (PV.sl p fun i => [PV.v (Value.int IntKind.u64 (l i))])), AV.c (CV.p (PV.sl r fun i => [PV.v (Value.int IntKind.i64 (m i))])), AV.c (CV.p (PV.sl t fun i => [PV.v (Value.string (s i))])), AV.c (CV.ptr (0 : Nat) (0 : Nat)), AV.c (CV.ptr (1 : Nat) (0 : Nat)), AV.c (CV.p (PV.v (Value.bool Q))), AV.c (CV.p (PV.v (Value.int IntKind.i64 (↑p : Int))))] [Ob.box [CV.p (PV.sl n f), CV.p (PV.v (Value.int IntKind.i64 A)), CV.p (PV.v (Value.int IntKind.i64 E))] true, Ob.box [CV.nils, CV.p (PV.v (Value.int IntKind.i64 (0 : Int))), CV.p (PV.v (Value.int IntKind.i64 (0 : Int)))] true]))))) (Sc.done (Ans.mk (Ex.exit (0 : Nat)) [AV.c (CV.p (PV.sl p fun i => [PV.v (Value.int IntKind.u64 (l i))])), AV.c (CV.p (PV.sl r fun i => [PV.v (Value.int IntKind.i64 (m i))])), AV.c (CV.p (PV.sl t fun i => [PV.v (Value.string (s i))])), AV.c (CV.ptr (0 : Nat) (0 : Nat)), AV.c (CV.ptr (1 : Nat) (0 : Nat)), AV.c (CV.p (PV.v (Value.bool q))), AV.c (CV.p (PV.v (Value.int IntKind.i64 (↑i : Int))))] [Ob.box [CV.p (PV.sl n f), CV.p (PV.v (Value.int IntKind.i64 a)), CV.p (PV.v (Value.int IntKind.i64 e))] true, Ob.box [CV.nils, CV.p (PV.v (Value.int IntKind.i64 (0 : Int))), CV.p (PV.v (Value.int IntKind.i64 (0 : Int)))] true])) := by kernel_rfl
theorem rdR2_t (n : Nat)  (f : Nat → List PV)  (r : Nat)  (m : Nat → Int)  (t : Nat)  (s : Nat → ByteArray)  (a e : Int)  (q : Bool)  (i : Nat)  (A E : Int)  (Q : Bool)  : fol CK Try.prog (SLo 53 (fun vals h => match vals, h with | [y, z, u, v, _, _], [_, o] => some ⟨.exit 2, [y, z, u, v, B Q, I r], [.box [.p (.sl n f), i64 A, i64 E] true, o]⟩ | _, _ => none) (wrS 1000000)) (An.b (An.d (An.a (An.d (An.d (An.b (An.l (An.l (An.l (An.c (An.l (An.l (An.l (An.d (An.a An.e))))))))) (An.l (An.l (An.l (An.l (An.l (An.l (An.d (An.a An.e))))))))))))) An.e) (T.evQ CK Try.prog (.loop 53 0 [1, 1, 1, 0, 1, 0] [Sl r (Is m), Sl t (Ss s), .c (.ptr 0 0), .c (.ptr 1 0), B q, I i] [.box [.p (.sl n f), i64 a, i64 e] true, .box [.nils, i64 0, i64 0] true]) .done) = Sc.br (decide ((↑i : Int) < (↑r : Int))) (Sc.ask (Qry.call (57 : Nat) [AV.agg [CV.p (PV.sl n f), CV.p (PV.v (Value.int IntKind.i64 a)), CV.p (PV.v (Value.int IntKind.i64 e))]] []) (Ans.mk Ex.ret [AV.tup [AV.agg [CV.p (PV.sl n f), CV.p (PV.v (Value.int IntKind.i64 (uA n f a e))), CV.p (PV.v (Value.int IntKind.i64 (uE n f a e)))], AV.c (CV.p (PV.v (Value.int IntKind.i64 (uz (uV n f a e)))))]] []) (Sc.br q (Sc.chk ((0 : Int) ≤ (↑i : Int) ∧ (↑i : Int) < (↑r : Int)) (Sc.ask (Qry.loop (53 : Nat) (0 : Nat) [(1 : Nat), (1 : Nat), (1 : Nat), (0 : Nat), (1 : Nat), (0 : Nat)] [AV.c (CV.p (PV.sl r fun i => [PV.v (Value.int IntKind.i64 (m i))])), AV.c (CV.p (PV.sl t fun i => [PV.v (Value.string (s i))])), AV.c (CV.ptr (0 : Nat) (0 : Nat)), AV.c (CV.ptr (1 : Nat) (0 : Nat)), AV.c (CV.p (PV.v (Value.bool (uz (uV n f a e) == m (Int.toNat (↑i : Int)))))), AV.c (CV.p (PV.v (Value.int IntKind.i64 (IntKind.wrap IntKind.i64 ((↑i : Int) + (1 : Int))))))] [Ob.box [CV.p (PV.sl n f), CV.p (PV.v (Value.int IntKind.i64 (uA n f a e))), CV.p (PV.v (Value.int IntKind.i64 (uE n f a e)))] true, Ob.box [CV.nils, CV.p (PV.v (Value.int IntKind.i64 (0 : Int))), CV.p (PV.v (Value.int IntKind.i64 (0 : Int)))] true]) (Ans.mk (Ex.exit (2 : Nat)) [AV.c (CV.p (PV.sl r fun i => [PV.v (Value.int IntKind.i64 (m i))])), AV.c (CV.p (PV.sl t fun i => [PV.v (Value.string (s i))])), AV.c (CV.ptr (0 : Nat) (0 : Nat)), AV.c (CV.ptr (1 : Nat) (0 : Nat)), AV.c (CV.p (PV.v (Value.bool Q))), AV.c (CV.p (PV.v (Value.int IntKind.i64 (↑r : Int))))] [Ob.box [CV.p (PV.sl n f), CV.p (PV.v (Value.int IntKind.i64 A)), CV.p (PV.v (Value.int IntKind.i64 E))] true, Ob.box [CV.nils, CV.p (PV.v (Value.int IntKind.i64 (0 : Int))), CV.p (PV.v (Value.int IntKind.i64 (0 : Int)))] true]) (Sc.done (Ans.mk (Ex.exit (2 : Nat)) [AV.c (CV.p (PV.sl r fun i => [PV.v (Value.int IntKind.i64 (m i))])), AV.c (CV.p (PV.sl t fun i => [PV.v (Value.string (s i))])), AV.c (CV.ptr (0 : Nat) (0 : Nat)), AV.c (CV.ptr (1 : Nat) (0 : Nat)), AV.c (CV.p (PV.v (Value.bool Q))), AV.c (CV.p (PV.v (Value.int IntKind.i64 (↑r : Int))))] [Ob.box [CV.p (PV.sl n f), CV.p (PV.v (Value.int IntKind.i64 A)), CV.p (PV.v (Value.int IntKind.i64 E))] true, Ob.box [CV.nils, CV.p (PV.v (Value.int IntKind.i64 (0 : Int))), CV.p (PV.v (Value.int IntKind.i64 (0 : Int)))] true])))) (Sc.ask (Qry.loop (53 : Nat) (0 : Nat) [(1 : Nat), (1 : Nat), (1 : Nat), (0 : Nat), (1 : Nat), (0 : Nat)] [AV.c (CV.p (PV.sl r fun i => [PV.v (Value.int IntKind.i64 (m i))])), AV.c (CV.p (PV.sl t fun i => [PV.v (Value.string (s i))])), AV.c (CV.ptr (0 : Nat) (0 : Nat)), AV.c (CV.ptr (1 : Nat) (0 : Nat)), AV.c (CV.p (PV.v (Value.bool false))), AV.c (CV.p (PV.v (Value.int IntKind.i64 (IntKind.wrap IntKind.i64 ((↑i : Int) + (1 : Int))))))] [Ob.box [CV.p (PV.sl n f), CV.p (PV.v (Value.int IntKind.i64 (uA n f a e))), CV.p (PV.v (Value.int IntKind.i64 (uE n f a e)))] true, Ob.box [CV.nils, CV.p (PV.v (Value.int IntKind.i64 (0 : Int))), CV.p (PV.v (Value.int IntKind.i64 (0 : Int)))] true]) (Ans.mk (Ex.exit (2 : Nat)) [AV.c (CV.p (PV.sl r fun i => [PV.v (Value.int IntKind.i64 (m i))])), AV.c (CV.p (PV.sl t fun i => [PV.v (Value.string (s i))])), AV.c (CV.ptr (0 : Nat) (0 : Nat)), AV.c (CV.ptr (1 : Nat) (0 : Nat)), AV.c (CV.p (PV.v (Value.bool Q))), AV.c (CV.p (PV.v (Value.int IntKind.i64 (↑r : Int))))] [Ob.box [CV.p (PV.sl n f), CV.p (PV.v (Value.int IntKind.i64 A)), CV.p (PV.v (Value.int IntKind.i64 E))] true, Ob.box [CV.nils, CV.p (PV.v (Value.int IntKind.i64 (0 : Int))), CV.p (PV.v (Value.int IntKind.i64 (0 : Int)))] true]) (Sc.done (Ans.mk (Ex.exit (2 : Nat)) [AV.c (CV.p (PV.sl r fun i => [PV.v (Value.int IntKind.i64 (m i))])), AV.c (CV.p (PV.sl t fun i => [PV.v (Value.string (s i))])), AV.c (CV.ptr (0 : Nat) (0 : Nat)), AV.c (CV.ptr (1 : Nat) (0 : Nat)), AV.c (CV.p (PV.v (Value.bool Q))), AV.c (CV.p (PV.v (Value.int IntKind.i64 (↑r : Int))))] [Ob.box [CV.p (PV.sl n f), CV.p (PV.v (Value.int IntKind.i64 A)), CV.p (PV.v (Value.int IntKind.i64 E))] true, Ob.box [CV.nils, CV.p (PV.v (Value.int IntKind.i64 (0 : Int))), CV.p (PV.v (Value.int IntKind.i64 (0 : Int)))] true]))))) (Sc.done (Ans.mk (Ex.exit (2 : Nat)) [AV.c (CV.p (PV.sl r fun i => [PV.v (Value.int IntKind.i64 (m i))])), AV.c (CV.p (PV.sl t fun i => [PV.v (Value.string (s i))])), AV.c (CV.ptr (0 : Nat) (0 : Nat)), AV.c (CV.ptr (1 : Nat) (0 : Nat)), AV.c (CV.p (PV.v (Value.bool q))), AV.c (CV.p (PV.v (Value.int IntKind.i64 (↑i : Int))))] [Ob.box [CV.p (PV.sl n f), CV.p (PV.v (Value.int IntKind.i64 a)), CV.p (PV.v (Value.int IntKind.i64 e))] true, Ob.box [CV.nils, CV.p (PV.v (Value.int IntKind.i64 (0 : Int))), CV.p (PV.v (Value.int IntKind.i64 (0 : Int)))] true])) := by kernel_rfl
theorem rdR3_t (n : Nat)  (f : Nat → List PV)  (t : Nat)  (s : Nat → ByteArray)  (a e : Int)  (q : Bool)  (i : Nat)  (A E : Int)  (Q : Bool)  : fol CK Try.prog (SLo 53 (fun vals h => match vals, h with | [z, u, v, _, _], [_, o] => some ⟨.exit 4, [z, u, v, B Q, I t], [.box [.p (.sl n f), i64 A, i64 E] true, o]⟩ | _, _ => none) (wrS 1000000)) (An.b (An.d (An.a (An.d (An.d (An.b (An.l (An.l (An.l (An.c (An.l (An.l (An.l (An.d (An.a An.e))))))))) (An.l (An.l (An.l (An.l (An.l (An.l (An.d (An.a An.e))))))))))))) An.e) (T.evQ CK Try.prog (.loop 53 0 [1, 1, 1, 1, 0, 1, 0] [Sl t (Ss s), .c (.ptr 0 0), .c (.ptr 1 0), B q, I i] [.box [.p (.sl n f), i64 a, i64 e] true, .box [.nils, i64 0, i64 0] true]) .done) = Sc.br (decide ((↑i : Int) < (↑t : Int))) (Sc.ask (Qry.call (58 : Nat) [AV.agg [CV.p (PV.sl n f), CV.p (PV.v (Value.int IntKind.i64 a)), CV.p (PV.v (Value.int IntKind.i64 e))], AV.c (CV.p (PV.v (Value.int IntKind.i64 (200 : Int))))] []) (Ans.mk Ex.ret [AV.tup [AV.agg [CV.p (PV.sl n f), CV.p (PV.v (Value.int IntKind.i64 (tA n f a e (200 : Int)))), CV.p (PV.v (Value.int IntKind.i64 (tE n f a e (200 : Int))))], AV.c (CV.p (PV.v (Value.string (tS n f a e (200 : Int)))))]] []) (Sc.br q (Sc.chk ((0 : Int) ≤ (↑i : Int) ∧ (↑i : Int) < (↑t : Int)) (Sc.ask (Qry.loop (53 : Nat) (0 : Nat) [(1 : Nat), (1 : Nat), (1 : Nat), (1 : Nat), (0 : Nat), (1 : Nat), (0 : Nat)] [AV.c (CV.p (PV.sl t fun i => [PV.v (Value.string (s i))])), AV.c (CV.ptr (0 : Nat) (0 : Nat)), AV.c (CV.ptr (1 : Nat) (0 : Nat)), AV.c (CV.p (PV.v (Value.bool (ByteArray.toList (tS n f a e (200 : Int)) == ByteArray.toList (s (Int.toNat (↑i : Int))))))), AV.c (CV.p (PV.v (Value.int IntKind.i64 (IntKind.wrap IntKind.i64 ((↑i : Int) + (1 : Int))))))] [Ob.box [CV.p (PV.sl n f), CV.p (PV.v (Value.int IntKind.i64 (tA n f a e (200 : Int)))), CV.p (PV.v (Value.int IntKind.i64 (tE n f a e (200 : Int))))] true, Ob.box [CV.nils, CV.p (PV.v (Value.int IntKind.i64 (0 : Int))), CV.p (PV.v (Value.int IntKind.i64 (0 : Int)))] true]) (Ans.mk (Ex.exit (4 : Nat)) [AV.c (CV.p (PV.sl t fun i => [PV.v (Value.string (s i))])), AV.c (CV.ptr (0 : Nat) (0 : Nat)), AV.c (CV.ptr (1 : Nat) (0 : Nat)), AV.c (CV.p (PV.v (Value.bool Q))), AV.c (CV.p (PV.v (Value.int IntKind.i64 (↑t : Int))))] [Ob.box [CV.p (PV.sl n f), CV.p (PV.v (Value.int IntKind.i64 A)), CV.p (PV.v (Value.int IntKind.i64 E))] true, Ob.box [CV.nils, CV.p (PV.v (Value.int IntKind.i64 (0 : Int))), CV.p (PV.v (Value.int IntKind.i64 (0 : Int)))] true]) (Sc.done (Ans.mk (Ex.exit (4 : Nat)) [AV.c (CV.p (PV.sl t fun i => [PV.v (Value.string (s i))])), AV.c (CV.ptr (0 : Nat) (0 : Nat)), AV.c (CV.ptr (1 : Nat) (0 : Nat)), AV.c (CV.p (PV.v (Value.bool Q))), AV.c (CV.p (PV.v (Value.int IntKind.i64 (↑t : Int))))] [Ob.box [CV.p (PV.sl n f), CV.p (PV.v (Value.int IntKind.i64 A)), CV.p (PV.v (Value.int IntKind.i64 E))] true, Ob.box [CV.nils, CV.p (PV.v (Value.int IntKind.i64 (0 : Int))), CV.p (PV.v (Value.int IntKind.i64 (0 : Int)))] true])))) (Sc.ask (Qry.loop (53 : Nat) (0 : Nat) [(1 : Nat), (1 : Nat), (1 : Nat), (1 : Nat), (0 : Nat), (1 : Nat), (0 : Nat)] [AV.c (CV.p (PV.sl t fun i => [PV.v (Value.string (s i))])), AV.c (CV.ptr (0 : Nat) (0 : Nat)), AV.c (CV.ptr (1 : Nat) (0 : Nat)), AV.c (CV.p (PV.v (Value.bool false))), AV.c (CV.p (PV.v (Value.int IntKind.i64 (IntKind.wrap IntKind.i64 ((↑i : Int) + (1 : Int))))))] [Ob.box [CV.p (PV.sl n f), CV.p (PV.v (Value.int IntKind.i64 (tA n f a e (200 : Int)))), CV.p (PV.v (Value.int IntKind.i64 (tE n f a e (200 : Int))))] true, Ob.box [CV.nils, CV.p (PV.v (Value.int IntKind.i64 (0 : Int))), CV.p (PV.v (Value.int IntKind.i64 (0 : Int)))] true]) (Ans.mk (Ex.exit (4 : Nat)) [AV.c (CV.p (PV.sl t fun i => [PV.v (Value.string (s i))])), AV.c (CV.ptr (0 : Nat) (0 : Nat)), AV.c (CV.ptr (1 : Nat) (0 : Nat)), AV.c (CV.p (PV.v (Value.bool Q))), AV.c (CV.p (PV.v (Value.int IntKind.i64 (↑t : Int))))] [Ob.box [CV.p (PV.sl n f), CV.p (PV.v (Value.int IntKind.i64 A)), CV.p (PV.v (Value.int IntKind.i64 E))] true, Ob.box [CV.nils, CV.p (PV.v (Value.int IntKind.i64 (0 : Int))), CV.p (PV.v (Value.int IntKind.i64 (0 : Int)))] true]) (Sc.done (Ans.mk (Ex.exit (4 : Nat)) [AV.c (CV.p (PV.sl t fun i => [PV.v (Value.string (s i))])), AV.c (CV.ptr (0 : Nat) (0 : Nat)), AV.c (CV.ptr (1 : Nat) (0 : Nat)), AV.c (CV.p (PV.v (Value.bool Q))), AV.c (CV.p (PV.v (Value.int IntKind.i64 (↑t : Int))))] [Ob.box [CV.p (PV.sl n f), CV.p (PV.v (Value.int IntKind.i64 A)), CV.p (PV.v (Value.int IntKind.i64 E))] true, Ob.box [CV.nils, CV.p (PV.v (Value.int IntKind.i64 (0 : Int))), CV.p (PV.v (Value.int IntKind.i64 (0 : Int)))] true]))))) (Sc.done (Ans.mk (Ex.exit (4 : Nat)) [AV.c (CV.p (PV.sl t fun i => [PV.v (Value.string (s i))])), AV.c (CV.ptr (0 : Nat) (0 : Nat)), AV.c (CV.ptr (1 : Nat) (0 : Nat)), AV.c (CV.p (PV.v (Value.bool q))), AV.c (CV.p (PV.v (Value.int IntKind.i64 (↑i : Int))))] [Ob.box [CV.p (PV.sl n f), CV.p (PV.v (Value.int IntKind.i64 a)), CV.p (PV.v (Value.int IntKind.i64 e))] true, Ob.box [CV.nils, CV.p (PV.v (Value.int IntKind.i64 (0 : Int))), CV.p (PV.v (Value.int IntKind.i64 (0 : Int)))] true])) := by kernel_rfl
theorem rdT_t (n : Nat)  (f : Nat → List PV)  (p : Nat)  (l : Nat → Int)  (r : Nat)  (m : Nat → Int)  (t : Nat)  (s : Nat → ByteArray)  (a1 e1 a2 e2 a3 e3 : Int)  (q1 q2 q3 : Bool)  : fol CK Try.prog (SLo 53 (fun vals h => match vals, h with | [x, y, z, u, v, _, _], [_, o] => some ⟨.exit 0, [x, y, z, u, v, B q1, I p], [.box [.p (.sl n f), i64 a1, i64 e1] true, o]⟩ | [y, z, u, v, _, _], [_, o] => some ⟨.exit 2, [y, z, u, v, B q2, I r], [.box [.p (.sl n f), i64 a2, i64 e2] true, o]⟩ | [z, u, v, _, _], [_, o] => some ⟨.exit 4, [z, u, v, B q3, I t], [.box [.p (.sl n f), i64 a3, i64 e3] true, o]⟩ | _, _ => none) (wrS 1000000)) (An.a (An.a (An.a (An.d (An.d (An.d An.e)))))) (T.evQ CK Try.prog (.call 53 [Cur n f 0 0, Sl p (Us l), Sl r (Is m), Sl t (Ss s)] []) .done) = Sc.ask (Qry.loop (53 : Nat) (0 : Nat) [(1 : Nat), (1 : Nat), (0 : Nat), (1 : Nat), (0 : Nat)] [AV.c (CV.p (PV.sl p fun i => [PV.v (Value.int IntKind.u64 (l i))])), AV.c (CV.p (PV.sl r fun i => [PV.v (Value.int IntKind.i64 (m i))])), AV.c (CV.p (PV.sl t fun i => [PV.v (Value.string (s i))])), AV.c (CV.ptr (0 : Nat) (0 : Nat)), AV.c (CV.ptr (1 : Nat) (0 : Nat)), AV.c (CV.p (PV.v (Value.bool true))), AV.c (CV.p (PV.v (Value.int IntKind.i64 (0 : Int))))] [Ob.box [CV.p (PV.sl n f), CV.p (PV.v (Value.int IntKind.i64 (0 : Int))), CV.p (PV.v (Value.int IntKind.i64 (0 : Int)))] true, Ob.box [CV.nils, CV.p (PV.v (Value.int IntKind.i64 (0 : Int))), CV.p (PV.v (Value.int IntKind.i64 (0 : Int)))] true]) (Ans.mk (Ex.exit (0 : Nat)) [AV.c (CV.p (PV.sl p fun i => [PV.v (Value.int IntKind.u64 (l i))])), AV.c (CV.p (PV.sl r fun i => [PV.v (Value.int IntKind.i64 (m i))])), AV.c (CV.p (PV.sl t fun i => [PV.v (Value.string (s i))])), AV.c (CV.ptr (0 : Nat) (0 : Nat)), AV.c (CV.ptr (1 : Nat) (0 : Nat)), AV.c (CV.p (PV.v (Value.bool q1))), AV.c (CV.p (PV.v (Value.int IntKind.i64 (↑p : Int))))] [Ob.box [CV.p (PV.sl n f), CV.p (PV.v (Value.int IntKind.i64 a1)), CV.p (PV.v (Value.int IntKind.i64 e1))] true, Ob.box [CV.nils, CV.p (PV.v (Value.int IntKind.i64 (0 : Int))), CV.p (PV.v (Value.int IntKind.i64 (0 : Int)))] true]) (Sc.ask (Qry.loop (53 : Nat) (0 : Nat) [(1 : Nat), (1 : Nat), (1 : Nat), (0 : Nat), (1 : Nat), (0 : Nat)] [AV.c (CV.p (PV.sl r fun i => [PV.v (Value.int IntKind.i64 (m i))])), AV.c (CV.p (PV.sl t fun i => [PV.v (Value.string (s i))])), AV.c (CV.ptr (0 : Nat) (0 : Nat)), AV.c (CV.ptr (1 : Nat) (0 : Nat)), AV.c (CV.p (PV.v (Value.bool q1))), AV.c (CV.p (PV.v (Value.int IntKind.i64 (0 : Int))))] [Ob.box [CV.p (PV.sl n f), CV.p (PV.v (Value.int IntKind.i64 a1)), CV.p (PV.v (Value.int IntKind.i64 e1))] true, Ob.box [CV.nils, CV.p (PV.v (Value.int IntKind.i64 (0 : Int))), CV.p (PV.v (Value.int IntKind.i64 (0 : Int)))] true]) (Ans.mk (Ex.exit (2 : Nat)) [AV.c (CV.p (PV.sl r fun i => [PV.v (Value.int IntKind.i64 (m i))])), AV.c (CV.p (PV.sl t fun i => [PV.v (Value.string (s i))])), AV.c (CV.ptr (0 : Nat) (0 : Nat)), AV.c (CV.ptr (1 : Nat) (0 : Nat)), AV.c (CV.p (PV.v (Value.bool q2))), AV.c (CV.p (PV.v (Value.int IntKind.i64 (↑r : Int))))] [Ob.box [CV.p (PV.sl n f), CV.p (PV.v (Value.int IntKind.i64 a2)), CV.p (PV.v (Value.int IntKind.i64 e2))] true, Ob.box [CV.nils, CV.p (PV.v (Value.int IntKind.i64 (0 : Int))), CV.p (PV.v (Value.int IntKind.i64 (0 : Int)))] true]) (Sc.ask (Qry.loop (53 : Nat) (0 : Nat) [(1 : Nat), (1 : Nat), (1 : Nat), (1 : Nat), (0 : Nat), (1 : Nat), (0 : Nat)] [AV.c (CV.p (PV.sl t fun i => [PV.v (Value.string (s i))])), AV.c (CV.ptr (0 : Nat) (0 : Nat)), AV.c (CV.ptr (1 : Nat) (0 : Nat)), AV.c (CV.p (PV.v (Value.bool q2))), AV.c (CV.p (PV.v (Value.int IntKind.i64 (0 : Int))))] [Ob.box [CV.p (PV.sl n f), CV.p (PV.v (Value.int IntKind.i64 a2)), CV.p (PV.v (Value.int IntKind.i64 e2))] true, Ob.box [CV.nils, CV.p (PV.v (Value.int IntKind.i64 (0 : Int))), CV.p (PV.v (Value.int IntKind.i64 (0 : Int)))] true]) (Ans.mk (Ex.exit (4 : Nat)) [AV.c (CV.p (PV.sl t fun i => [PV.v (Value.string (s i))])), AV.c (CV.ptr (0 : Nat) (0 : Nat)), AV.c (CV.ptr (1 : Nat) (0 : Nat)), AV.c (CV.p (PV.v (Value.bool q3))), AV.c (CV.p (PV.v (Value.int IntKind.i64 (↑t : Int))))] [Ob.box [CV.p (PV.sl n f), CV.p (PV.v (Value.int IntKind.i64 a3)), CV.p (PV.v (Value.int IntKind.i64 e3))] true, Ob.box [CV.nils, CV.p (PV.v (Value.int IntKind.i64 (0 : Int))), CV.p (PV.v (Value.int IntKind.i64 (0 : Int)))] true]) (Sc.done (Ans.mk Ex.ret [AV.tup [AV.agg [CV.p (PV.sl n f), CV.p (PV.v (Value.int IntKind.i64 a3)), CV.p (PV.v (Value.int IntKind.i64 e3))], AV.c (CV.p (PV.v (Value.bool q3)))]] [])))) := by kernel_rfl
theorem bkR1_t (p : Nat)  (l : Nat → Int)  (r : Nat)  (m : Nat → Int)  (t : Nat)  (s : Nat → ByteArray)  (c : Int)  (X Y Z : List Nat)  (i : Nat)  : fol CK Try.prog (SLo 12 (fun vals h => match vals with | [x, y, z, u, _, _] => some ⟨.exit 0, [x, y, z, u, Lb Z, I p], h⟩ | _ => none) (spec [(50, fun _ => some (Lb Y))] [])) (An.b (An.c (An.a (An.a An.e))) An.e) (T.evQ CK Try.prog (.loop 12 0 [1, 1, 1, 1, 0, 1, 0] [Sl p (Us l), Sl r (Is m), Sl t (Ss s), U16 c, Lb X, I i] []) .done) = Sc.br (decide ((↑i : Int) < (↑p : Int))) (Sc.chk ((0 : Int) ≤ (↑i : Int) ∧ (↑i : Int) < (↑p : Int)) (Sc.ask (Qry.call (50 : Nat) [AV.c (CV.p (PV.sl (List.length X) fun i => [PV.v (Value.int IntKind.u8 (↑(List.getD X i (0 : Nat)) : Int))])), AV.c (CV.p (PV.v (Value.int IntKind.u64 (l (Int.toNat (↑i : Int))))))] []) (Ans.mk Ex.ret [AV.c (CV.p (PV.sl (List.length Y) fun i => [PV.v (Value.int IntKind.u8 (↑(List.getD Y i (0 : Nat)) : Int))]))] []) (Sc.ask (Qry.loop (12 : Nat) (0 : Nat) [(1 : Nat), (1 : Nat), (1 : Nat), (1 : Nat), (0 : Nat), (1 : Nat), (0 : Nat)] [AV.c (CV.p (PV.sl p fun i => [PV.v (Value.int IntKind.u64 (l i))])), AV.c (CV.p (PV.sl r fun i => [PV.v (Value.int IntKind.i64 (m i))])), AV.c (CV.p (PV.sl t fun i => [PV.v (Value.string (s i))])), AV.c (CV.p (PV.v (Value.int IntKind.u16 c))), AV.c (CV.p (PV.sl (List.length Y) fun i => [PV.v (Value.int IntKind.u8 (↑(List.getD Y i (0 : Nat)) : Int))])), AV.c (CV.p (PV.v (Value.int IntKind.i64 (IntKind.wrap IntKind.i64 ((↑i : Int) + (1 : Int))))))] []) (Ans.mk (Ex.exit (0 : Nat)) [AV.c (CV.p (PV.sl p fun i => [PV.v (Value.int IntKind.u64 (l i))])), AV.c (CV.p (PV.sl r fun i => [PV.v (Value.int IntKind.i64 (m i))])), AV.c (CV.p (PV.sl t fun i => [PV.v (Value.string (s i))])), AV.c (CV.p (PV.v (Value.int IntKind.u16 c))), AV.c (CV.p (PV.sl (List.length Z) fun i => [PV.v (Value.int IntKind.u8 (↑(List.getD Z i (0 : Nat)) : Int))])), AV.c (CV.p (PV.v (Value.int IntKind.i64 (↑p : Int))))] []) (Sc.done (Ans.mk (Ex.exit (0 : Nat)) [AV.c (CV.p (PV.sl p fun i => [PV.v (Value.int IntKind.u64 (l i))])), AV.c (CV.p (PV.sl r fun i => [PV.v (Value.int IntKind.i64 (m i))])), AV.c (CV.p (PV.sl t fun i => [PV.v (Value.string (s i))])), AV.c (CV.p (PV.v (Value.int IntKind.u16 c))), AV.c (CV.p (PV.sl (List.length Z) fun i => [PV.v (Value.int IntKind.u8 (↑(List.getD Z i (0 : Nat)) : Int))])), AV.c (CV.p (PV.v (Value.int IntKind.i64 (↑p : Int))))] []))))) (Sc.done (Ans.mk (Ex.exit (0 : Nat)) [AV.c (CV.p (PV.sl p fun i => [PV.v (Value.int IntKind.u64 (l i))])), AV.c (CV.p (PV.sl r fun i => [PV.v (Value.int IntKind.i64 (m i))])), AV.c (CV.p (PV.sl t fun i => [PV.v (Value.string (s i))])), AV.c (CV.p (PV.v (Value.int IntKind.u16 c))), AV.c (CV.p (PV.sl (List.length X) fun i => [PV.v (Value.int IntKind.u8 (↑(List.getD X i (0 : Nat)) : Int))])), AV.c (CV.p (PV.v (Value.int IntKind.i64 (↑i : Int))))] [])) := by kernel_rfl
theorem bkR2_t (p : Nat)  (l : Nat → Int)  (r : Nat)  (m : Nat → Int)  (t : Nat)  (s : Nat → ByteArray)  (c : Int)  (X Y Z : List Nat)  (i : Nat)  : fol CK Try.prog (SLo 12 (fun vals h => match vals with | [x, y, z, u, _, _] => some ⟨.exit 2, [x, y, z, u, Lb Z, I r], h⟩ | _ => none) (spec [(51, fun _ => some (Lb Y))] [])) (An.b (An.c (An.a (An.a An.e))) An.e) (T.evQ CK Try.prog (.loop 12 0 [1, 1, 1, 1, 1, 0, 1, 0] [Sl p (Us l), Sl r (Is m), Sl t (Ss s), U16 c, Lb X, I i] []) .done) = Sc.br (decide ((↑i : Int) < (↑r : Int))) (Sc.chk ((0 : Int) ≤ (↑i : Int) ∧ (↑i : Int) < (↑r : Int)) (Sc.ask (Qry.call (51 : Nat) [AV.c (CV.p (PV.sl (List.length X) fun i => [PV.v (Value.int IntKind.u8 (↑(List.getD X i (0 : Nat)) : Int))])), AV.c (CV.p (PV.v (Value.int IntKind.i64 (m (Int.toNat (↑i : Int))))))] []) (Ans.mk Ex.ret [AV.c (CV.p (PV.sl (List.length Y) fun i => [PV.v (Value.int IntKind.u8 (↑(List.getD Y i (0 : Nat)) : Int))]))] []) (Sc.ask (Qry.loop (12 : Nat) (0 : Nat) [(1 : Nat), (1 : Nat), (1 : Nat), (1 : Nat), (1 : Nat), (0 : Nat), (1 : Nat), (0 : Nat)] [AV.c (CV.p (PV.sl p fun i => [PV.v (Value.int IntKind.u64 (l i))])), AV.c (CV.p (PV.sl r fun i => [PV.v (Value.int IntKind.i64 (m i))])), AV.c (CV.p (PV.sl t fun i => [PV.v (Value.string (s i))])), AV.c (CV.p (PV.v (Value.int IntKind.u16 c))), AV.c (CV.p (PV.sl (List.length Y) fun i => [PV.v (Value.int IntKind.u8 (↑(List.getD Y i (0 : Nat)) : Int))])), AV.c (CV.p (PV.v (Value.int IntKind.i64 (IntKind.wrap IntKind.i64 ((↑i : Int) + (1 : Int))))))] []) (Ans.mk (Ex.exit (2 : Nat)) [AV.c (CV.p (PV.sl p fun i => [PV.v (Value.int IntKind.u64 (l i))])), AV.c (CV.p (PV.sl r fun i => [PV.v (Value.int IntKind.i64 (m i))])), AV.c (CV.p (PV.sl t fun i => [PV.v (Value.string (s i))])), AV.c (CV.p (PV.v (Value.int IntKind.u16 c))), AV.c (CV.p (PV.sl (List.length Z) fun i => [PV.v (Value.int IntKind.u8 (↑(List.getD Z i (0 : Nat)) : Int))])), AV.c (CV.p (PV.v (Value.int IntKind.i64 (↑r : Int))))] []) (Sc.done (Ans.mk (Ex.exit (2 : Nat)) [AV.c (CV.p (PV.sl p fun i => [PV.v (Value.int IntKind.u64 (l i))])), AV.c (CV.p (PV.sl r fun i => [PV.v (Value.int IntKind.i64 (m i))])), AV.c (CV.p (PV.sl t fun i => [PV.v (Value.string (s i))])), AV.c (CV.p (PV.v (Value.int IntKind.u16 c))), AV.c (CV.p (PV.sl (List.length Z) fun i => [PV.v (Value.int IntKind.u8 (↑(List.getD Z i (0 : Nat)) : Int))])), AV.c (CV.p (PV.v (Value.int IntKind.i64 (↑r : Int))))] []))))) (Sc.done (Ans.mk (Ex.exit (2 : Nat)) [AV.c (CV.p (PV.sl p fun i => [PV.v (Value.int IntKind.u64 (l i))])), AV.c (CV.p (PV.sl r fun i => [PV.v (Value.int IntKind.i64 (m i))])), AV.c (CV.p (PV.sl t fun i => [PV.v (Value.string (s i))])), AV.c (CV.p (PV.v (Value.int IntKind.u16 c))), AV.c (CV.p (PV.sl (List.length X) fun i => [PV.v (Value.int IntKind.u8 (↑(List.getD X i (0 : Nat)) : Int))])), AV.c (CV.p (PV.v (Value.int IntKind.i64 (↑i : Int))))] [])) := by kernel_rfl
theorem bkR3_t (p : Nat)  (l : Nat → Int)  (r : Nat)  (m : Nat → Int)  (t : Nat)  (s : Nat → ByteArray)  (c : Int)  (X Y Z : List Nat)  (i : Nat)  : fol CK Try.prog (SLo 12 (fun vals h => match vals with | [x, y, z, u, v, _, _] => some ⟨.exit 4, [x, y, z, u, v, Lb Z, I t], h⟩ | _ => none) (spec [(52, fun _ => some (Lb Y))] [])) (An.b (An.c (An.b An.e (An.c (An.a (An.a An.e))))) An.e) (T.evQ CK Try.prog (.loop 12 0 [1, 1, 1, 1, 1, 1, 0, 1, 0] [Sl p (Us l), Sl r (Is m), Sl t (Ss s), U16 c, .top, Lb X, I i] []) .done) = Sc.br (decide ((↑i : Int) < (↑t : Int))) (Sc.chk ((0 : Int) ≤ (↑i : Int) ∧ (↑i : Int) < (↑t : Int)) (Sc.br (decide ((↑(ByteArray.size (s (Int.toNat (↑i : Int)))) : Int) > (200 : Int))) (Sc.done (Ans.mk Ex.ret [AV.c (CV.p (PV.sl p fun i => [PV.v (Value.int IntKind.u64 (l i))])), AV.c (CV.p (PV.sl r fun i => [PV.v (Value.int IntKind.i64 (m i))])), AV.c (CV.p (PV.sl t fun i => [PV.v (Value.string (s i))])), AV.c (CV.p (PV.v (Value.int IntKind.u16 c))), AV.c (CV.p (PV.v (Value.bool true))), AV.c (CV.p (PV.sl (List.length X) fun i => [PV.v (Value.int IntKind.u8 (↑(List.getD X i (0 : Nat)) : Int))])), AV.c (CV.p (PV.v (Value.int IntKind.i64 (↑i : Int))))] [])) (Sc.chk ((0 : Int) ≤ (↑i : Int) ∧ (↑i : Int) < (↑t : Int)) (Sc.ask (Qry.call (52 : Nat) [AV.c (CV.p (PV.sl (List.length X) fun i => [PV.v (Value.int IntKind.u8 (↑(List.getD X i (0 : Nat)) : Int))])), AV.c (CV.p (PV.v (Value.string (s (Int.toNat (↑i : Int))))))] []) (Ans.mk Ex.ret [AV.c (CV.p (PV.sl (List.length Y) fun i => [PV.v (Value.int IntKind.u8 (↑(List.getD Y i (0 : Nat)) : Int))]))] []) (Sc.ask (Qry.loop (12 : Nat) (0 : Nat) [(1 : Nat), (1 : Nat), (1 : Nat), (1 : Nat), (1 : Nat), (1 : Nat), (0 : Nat), (1 : Nat), (0 : Nat)] [AV.c (CV.p (PV.sl p fun i => [PV.v (Value.int IntKind.u64 (l i))])), AV.c (CV.p (PV.sl r fun i => [PV.v (Value.int IntKind.i64 (m i))])), AV.c (CV.p (PV.sl t fun i => [PV.v (Value.string (s i))])), AV.c (CV.p (PV.v (Value.int IntKind.u16 c))), AV.top, AV.c (CV.p (PV.sl (List.length Y) fun i => [PV.v (Value.int IntKind.u8 (↑(List.getD Y i (0 : Nat)) : Int))])), AV.c (CV.p (PV.v (Value.int IntKind.i64 (IntKind.wrap IntKind.i64 ((↑i : Int) + (1 : Int))))))] []) (Ans.mk (Ex.exit (4 : Nat)) [AV.c (CV.p (PV.sl p fun i => [PV.v (Value.int IntKind.u64 (l i))])), AV.c (CV.p (PV.sl r fun i => [PV.v (Value.int IntKind.i64 (m i))])), AV.c (CV.p (PV.sl t fun i => [PV.v (Value.string (s i))])), AV.c (CV.p (PV.v (Value.int IntKind.u16 c))), AV.top, AV.c (CV.p (PV.sl (List.length Z) fun i => [PV.v (Value.int IntKind.u8 (↑(List.getD Z i (0 : Nat)) : Int))])), AV.c (CV.p (PV.v (Value.int IntKind.i64 (↑t : Int))))] []) (Sc.done (Ans.mk (Ex.exit (4 : Nat)) [AV.c (CV.p (PV.sl p fun i => [PV.v (Value.int IntKind.u64 (l i))])), AV.c (CV.p (PV.sl r fun i => [PV.v (Value.int IntKind.i64 (m i))])), AV.c (CV.p (PV.sl t fun i => [PV.v (Value.string (s i))])), AV.c (CV.p (PV.v (Value.int IntKind.u16 c))), AV.top, AV.c (CV.p (PV.sl (List.length Z) fun i => [PV.v (Value.int IntKind.u8 (↑(List.getD Z i (0 : Nat)) : Int))])), AV.c (CV.p (PV.v (Value.int IntKind.i64 (↑t : Int))))] []))))))) (Sc.done (Ans.mk (Ex.exit (4 : Nat)) [AV.c (CV.p (PV.sl p fun i => [PV.v (Value.int IntKind.u64 (l i))])), AV.c (CV.p (PV.sl r fun i => [PV.v (Value.int IntKind.i64 (m i))])), AV.c (CV.p (PV.sl t fun i => [PV.v (Value.string (s i))])), AV.c (CV.p (PV.v (Value.int IntKind.u16 c))), AV.top, AV.c (CV.p (PV.sl (List.length X) fun i => [PV.v (Value.int IntKind.u8 (↑(List.getD X i (0 : Nat)) : Int))])), AV.c (CV.p (PV.v (Value.int IntKind.i64 (↑i : Int))))] [])) := by kernel_rfl
theorem bkR3l_t (p : Nat)  (l : Nat → Int)  (r : Nat)  (m : Nat → Int)  (t : Nat)  (s : Nat → ByteArray)  (c : Int)  (X Y Z : List Nat)  (i j : Nat)  : fol CK Try.prog (SLo 12 (fun vals h => match vals with | [x, y, z, u, v, _, _] => some ⟨.ret, [x, y, z, u, B true, Lb Z, I j], h⟩ | _ => none) (spec [(52, fun _ => some (Lb Y))] [])) (An.b (An.c (An.b An.e (An.c (An.a (An.a An.e))))) An.e) (T.evQ CK Try.prog (.loop 12 0 [1, 1, 1, 1, 1, 1, 0, 1, 0] [Sl p (Us l), Sl r (Is m), Sl t (Ss s), U16 c, .top, Lb X, I i] []) .done) = Sc.br (decide ((↑i : Int) < (↑t : Int))) (Sc.chk ((0 : Int) ≤ (↑i : Int) ∧ (↑i : Int) < (↑t : Int)) (Sc.br (decide ((↑(ByteArray.size (s (Int.toNat (↑i : Int)))) : Int) > (200 : Int))) (Sc.done (Ans.mk Ex.ret [AV.c (CV.p (PV.sl p fun i => [PV.v (Value.int IntKind.u64 (l i))])), AV.c (CV.p (PV.sl r fun i => [PV.v (Value.int IntKind.i64 (m i))])), AV.c (CV.p (PV.sl t fun i => [PV.v (Value.string (s i))])), AV.c (CV.p (PV.v (Value.int IntKind.u16 c))), AV.c (CV.p (PV.v (Value.bool true))), AV.c (CV.p (PV.sl (List.length X) fun i => [PV.v (Value.int IntKind.u8 (↑(List.getD X i (0 : Nat)) : Int))])), AV.c (CV.p (PV.v (Value.int IntKind.i64 (↑i : Int))))] [])) (Sc.chk ((0 : Int) ≤ (↑i : Int) ∧ (↑i : Int) < (↑t : Int)) (Sc.ask (Qry.call (52 : Nat) [AV.c (CV.p (PV.sl (List.length X) fun i => [PV.v (Value.int IntKind.u8 (↑(List.getD X i (0 : Nat)) : Int))])), AV.c (CV.p (PV.v (Value.string (s (Int.toNat (↑i : Int))))))] []) (Ans.mk Ex.ret [AV.c (CV.p (PV.sl (List.length Y) fun i => [PV.v (Value.int IntKind.u8 (↑(List.getD Y i (0 : Nat)) : Int))]))] []) (Sc.ask (Qry.loop (12 : Nat) (0 : Nat) [(1 : Nat), (1 : Nat), (1 : Nat), (1 : Nat), (1 : Nat), (1 : Nat), (0 : Nat), (1 : Nat), (0 : Nat)] [AV.c (CV.p (PV.sl p fun i => [PV.v (Value.int IntKind.u64 (l i))])), AV.c (CV.p (PV.sl r fun i => [PV.v (Value.int IntKind.i64 (m i))])), AV.c (CV.p (PV.sl t fun i => [PV.v (Value.string (s i))])), AV.c (CV.p (PV.v (Value.int IntKind.u16 c))), AV.top, AV.c (CV.p (PV.sl (List.length Y) fun i => [PV.v (Value.int IntKind.u8 (↑(List.getD Y i (0 : Nat)) : Int))])), AV.c (CV.p (PV.v (Value.int IntKind.i64 (IntKind.wrap IntKind.i64 ((↑i : Int) + (1 : Int))))))] []) (Ans.mk Ex.ret [AV.c (CV.p (PV.sl p fun i => [PV.v (Value.int IntKind.u64 (l i))])), AV.c (CV.p (PV.sl r fun i => [PV.v (Value.int IntKind.i64 (m i))])), AV.c (CV.p (PV.sl t fun i => [PV.v (Value.string (s i))])), AV.c (CV.p (PV.v (Value.int IntKind.u16 c))), AV.c (CV.p (PV.v (Value.bool true))), AV.c (CV.p (PV.sl (List.length Z) fun i => [PV.v (Value.int IntKind.u8 (↑(List.getD Z i (0 : Nat)) : Int))])), AV.c (CV.p (PV.v (Value.int IntKind.i64 (↑j : Int))))] []) (Sc.done (Ans.mk Ex.ret [AV.c (CV.p (PV.sl p fun i => [PV.v (Value.int IntKind.u64 (l i))])), AV.c (CV.p (PV.sl r fun i => [PV.v (Value.int IntKind.i64 (m i))])), AV.c (CV.p (PV.sl t fun i => [PV.v (Value.string (s i))])), AV.c (CV.p (PV.v (Value.int IntKind.u16 c))), AV.c (CV.p (PV.v (Value.bool true))), AV.c (CV.p (PV.sl (List.length Z) fun i => [PV.v (Value.int IntKind.u8 (↑(List.getD Z i (0 : Nat)) : Int))])), AV.c (CV.p (PV.v (Value.int IntKind.i64 (↑j : Int))))] []))))))) (Sc.done (Ans.mk (Ex.exit (4 : Nat)) [AV.c (CV.p (PV.sl p fun i => [PV.v (Value.int IntKind.u64 (l i))])), AV.c (CV.p (PV.sl r fun i => [PV.v (Value.int IntKind.i64 (m i))])), AV.c (CV.p (PV.sl t fun i => [PV.v (Value.string (s i))])), AV.c (CV.p (PV.v (Value.int IntKind.u16 c))), AV.top, AV.c (CV.p (PV.sl (List.length X) fun i => [PV.v (Value.int IntKind.u8 (↑(List.getD X i (0 : Nat)) : Int))])), AV.c (CV.p (PV.v (Value.int IntKind.i64 (↑i : Int))))] [])) := by kernel_rfl
theorem bkT_t (p : Nat)  (l : Nat → Int)  (r : Nat)  (m : Nat → Int)  (t : Nat)  (s : Nat → ByteArray)  (c : Int)  (X Y Z : List Nat)  (R : Nat → (Nat → List PV) → Int × Int × Bool)  (hp : ¬ (20 : Int) < p)  (hr : ¬ (20 : Int) < r)  (ht : ¬ (20 : Int) < t)  : fol CK Try.prog (SLo 12 (fun vals h => match vals with | [x, y, z, u, .c .nils, _] => some ⟨.exit 0, [x, y, z, u, Lb X, I p], h⟩ | [x, y, z, u, _, _] => some ⟨.exit 2, [x, y, z, u, Lb Y, I r], h⟩ | [x, y, z, u, v, _, _] => some ⟨.exit 4, [x, y, z, u, v, Lb Z, I t], h⟩ | _ => none) (spec [(49, fun _ => some (B true)), (53, fun x => match x with | [k, _, _, _] => (curOf k).map (fun w => .tup [Cur w.1 w.2.1 (R w.1 w.2.1).1 (R w.1 w.2.1).2.1, B (R w.1 w.2.1).2.2]) | _ => none), (55, fun x => match x with | [k] => (curOf k).map (fun w => I (lft w.1 w.2.2.1 w.2.2.2)) | _ => none)] [])) (An.a (An.l (An.f (An.l (An.l (An.l (An.f (An.l (An.l (An.l (An.f (An.a (An.a (An.a (An.i (An.d (An.d (An.a (An.d (An.b (An.l (An.l (An.l (An.l (An.l (An.l (An.l (An.l An.e)))))))) (An.l (An.d (An.l (An.l (An.b (An.l (An.l (An.l (An.l An.e)))) (An.d (An.l (An.a (An.l (An.l (An.b An.e (An.c (An.c (An.i (An.d (An.d (An.a (An.d (An.d An.e))))))))))))))))))))))))))))))))))))))) (T.evQ CK Try.prog (.call 12 [Sl p (Us l), Sl r (Is m), Sl t (Ss s), U16 c] []) .done) = Sc.ask (Qry.call (49 : Nat) [] []) (Ans.mk Ex.ret [AV.c (CV.p (PV.v (Value.bool true)))] []) (Sc.no (decide ((↑p : Int) > (20 : Int))) (Sc.no (decide ((↑r : Int) > (20 : Int))) (Sc.no (decide ((↑t : Int) > (20 : Int))) (Sc.ask (Qry.loop (12 : Nat) (0 : Nat) [(1 : Nat), (1 : Nat), (1 : Nat), (1 : Nat), (0 : Nat), (1 : Nat), (0 : Nat)] [AV.c (CV.p (PV.sl p fun i => [PV.v (Value.int IntKind.u64 (l i))])), AV.c (CV.p (PV.sl r fun i => [PV.v (Value.int IntKind.i64 (m i))])), AV.c (CV.p (PV.sl t fun i => [PV.v (Value.string (s i))])), AV.c (CV.p (PV.v (Value.int IntKind.u16 c))), AV.c CV.nils, AV.c (CV.p (PV.v (Value.int IntKind.i64 (0 : Int))))] []) (Ans.mk (Ex.exit (0 : Nat)) [AV.c (CV.p (PV.sl p fun i => [PV.v (Value.int IntKind.u64 (l i))])), AV.c (CV.p (PV.sl r fun i => [PV.v (Value.int IntKind.i64 (m i))])), AV.c (CV.p (PV.sl t fun i => [PV.v (Value.string (s i))])), AV.c (CV.p (PV.v (Value.int IntKind.u16 c))), AV.c (CV.p (PV.sl (List.length X) fun i => [PV.v (Value.int IntKind.u8 (↑(List.getD X i (0 : Nat)) : Int))])), AV.c (CV.p (PV.v (Value.int IntKind.i64 (↑p : Int))))] []) (Sc.ask (Qry.loop (12 : Nat) (0 : Nat) [(1 : Nat), (1 : Nat), (1 : Nat), (1 : Nat), (1 : Nat), (0 : Nat), (1 : Nat), (0 : Nat)] [AV.c (CV.p (PV.sl p fun i => [PV.v (Value.int IntKind.u64 (l i))])), AV.c (CV.p (PV.sl r fun i => [PV.v (Value.int IntKind.i64 (m i))])), AV.c (CV.p (PV.sl t fun i => [PV.v (Value.string (s i))])), AV.c (CV.p (PV.v (Value.int IntKind.u16 c))), AV.c (CV.p (PV.sl (List.length X) fun i => [PV.v (Value.int IntKind.u8 (↑(List.getD X i (0 : Nat)) : Int))])), AV.c (CV.p (PV.v (Value.int IntKind.i64 (0 : Int))))] []) (Ans.mk (Ex.exit (2 : Nat)) [AV.c (CV.p (PV.sl p fun i => [PV.v (Value.int IntKind.u64 (l i))])), AV.c (CV.p (PV.sl r fun i => [PV.v (Value.int IntKind.i64 (m i))])), AV.c (CV.p (PV.sl t fun i => [PV.v (Value.string (s i))])), AV.c (CV.p (PV.v (Value.int IntKind.u16 c))), AV.c (CV.p (PV.sl (List.length Y) fun i => [PV.v (Value.int IntKind.u8 (↑(List.getD Y i (0 : Nat)) : Int))])), AV.c (CV.p (PV.v (Value.int IntKind.i64 (↑r : Int))))] []) (Sc.ask (Qry.loop (12 : Nat) (0 : Nat) [(1 : Nat), (1 : Nat), (1 : Nat), (1 : Nat), (1 : Nat), (1 : Nat), (0 : Nat), (1 : Nat), (0 : Nat)] [AV.c (CV.p (PV.sl p fun i => [PV.v (Value.int IntKind.u64 (l i))])), AV.c (CV.p (PV.sl r fun i => [PV.v (Value.int IntKind.i64 (m i))])), AV.c (CV.p (PV.sl t fun i => [PV.v (Value.string (s i))])), AV.c (CV.p (PV.v (Value.int IntKind.u16 c))), AV.top, AV.c (CV.p (PV.sl (List.length Y) fun i => [PV.v (Value.int IntKind.u8 (↑(List.getD Y i (0 : Nat)) : Int))])), AV.c (CV.p (PV.v (Value.int IntKind.i64 (0 : Int))))] []) (Ans.mk (Ex.exit (4 : Nat)) [AV.c (CV.p (PV.sl p fun i => [PV.v (Value.int IntKind.u64 (l i))])), AV.c (CV.p (PV.sl r fun i => [PV.v (Value.int IntKind.i64 (m i))])), AV.c (CV.p (PV.sl t fun i => [PV.v (Value.string (s i))])), AV.c (CV.p (PV.v (Value.int IntKind.u16 c))), AV.top, AV.c (CV.p (PV.sl (List.length Z) fun i => [PV.v (Value.int IntKind.u8 (↑(List.getD Z i (0 : Nat)) : Int))])), AV.c (CV.p (PV.v (Value.int IntKind.i64 (↑t : Int))))] []) (Sc.ask (Qry.call (53 : Nat) [AV.agg [CV.p (PV.sl (List.length Z) fun i => [PV.v (Value.int IntKind.u8 (↑(List.getD Z i (0 : Nat)) : Int))]), CV.p (PV.v (Value.int IntKind.i64 (0 : Int))), CV.p (PV.v (Value.int IntKind.i64 (0 : Int)))], AV.c (CV.p (PV.sl p fun i => [PV.v (Value.int IntKind.u64 (l i))])), AV.c (CV.p (PV.sl r fun i => [PV.v (Value.int IntKind.i64 (m i))])), AV.c (CV.p (PV.sl t fun i => [PV.v (Value.string (s i))]))] []) (Ans.mk Ex.ret [AV.tup [AV.agg [CV.p (PV.sl (Prod.fst (List.length Z, fun i => [PV.v (Value.int IntKind.u8 (↑(List.getD Z i (0 : Nat)) : Int))], (0 : Int), (0 : Int))) fun i => [PV.v (Value.int IntKind.u8 (↑(List.getD Z i (0 : Nat)) : Int))]), CV.p (PV.v (Value.int IntKind.i64 (Prod.fst (R (Prod.fst (List.length Z, Ls Z, (0 : Int), (0 : Int))) (Prod.fst (Prod.snd (List.length Z, Ls Z, (0 : Int), (0 : Int)))))))), CV.p (PV.v (Value.int IntKind.i64 (Prod.fst (Prod.snd (R (Prod.fst (List.length Z, Ls Z, (0 : Int), (0 : Int))) (Prod.fst (Prod.snd (List.length Z, Ls Z, (0 : Int), (0 : Int)))))))))], AV.c (CV.p (PV.v (Value.bool (Prod.snd (Prod.snd (R (Prod.fst (List.length Z, Ls Z, (0 : Int), (0 : Int))) (Prod.fst (Prod.snd (List.length Z, Ls Z, (0 : Int), (0 : Int))))))))))]] []) (Sc.br (!Prod.snd (Prod.snd (R (Prod.fst (List.length Z, Ls Z, (0 : Int), (0 : Int))) (Prod.fst (Prod.snd (List.length Z, Ls Z, (0 : Int), (0 : Int))))))) (Sc.done (Ans.mk Ex.ret [AV.c (CV.p (PV.v (Value.bool false)))] [])) (Sc.br (Prod.fst (Prod.snd (R (Prod.fst (List.length Z, Ls Z, (0 : Int), (0 : Int))) (Prod.fst (Prod.snd (List.length Z, Ls Z, (0 : Int), (0 : Int)))))) != (0 : Int)) (Sc.done (Ans.mk Ex.ret [AV.c (CV.p (PV.v (Value.bool false)))] [])) (Sc.ask (Qry.call (55 : Nat) [AV.agg [CV.p (PV.sl (Prod.fst (List.length Z, fun i => [PV.v (Value.int IntKind.u8 (↑(List.getD Z i (0 : Nat)) : Int))], (0 : Int), (0 : Int))) fun i => [PV.v (Value.int IntKind.u8 (↑(List.getD Z i (0 : Nat)) : Int))]), CV.p (PV.v (Value.int IntKind.i64 (Prod.fst (R (Prod.fst (List.length Z, Ls Z, (0 : Int), (0 : Int))) (Prod.fst (Prod.snd (List.length Z, Ls Z, (0 : Int), (0 : Int)))))))), CV.p (PV.v (Value.int IntKind.i64 (Prod.fst (Prod.snd (R (Prod.fst (List.length Z, Ls Z, (0 : Int), (0 : Int))) (Prod.fst (Prod.snd (List.length Z, Ls Z, (0 : Int), (0 : Int)))))))))]] []) (Ans.mk Ex.ret [AV.c (CV.p (PV.v (Value.int IntKind.i64 (lft (Prod.fst (Prod.fst (List.length Z, fun i => [PV.v (Value.int IntKind.u8 (↑(List.getD Z i (0 : Nat)) : Int))], (0 : Int), (0 : Int)), fun i => [PV.v (Value.int IntKind.u8 (↑(List.getD Z i (0 : Nat)) : Int))], Prod.fst (R (Prod.fst (List.length Z, Ls Z, (0 : Int), (0 : Int))) (Prod.fst (Prod.snd (List.length Z, Ls Z, (0 : Int), (0 : Int))))), Prod.fst (Prod.snd (R (Prod.fst (List.length Z, Ls Z, (0 : Int), (0 : Int))) (Prod.fst (Prod.snd (List.length Z, Ls Z, (0 : Int), (0 : Int)))))))) (Prod.fst (Prod.fst (R (Prod.fst (List.length Z, Ls Z, (0 : Int), (0 : Int))) (Prod.fst (Prod.snd (List.length Z, Ls Z, (0 : Int), (0 : Int))))), Prod.fst (Prod.snd (R (Prod.fst (List.length Z, Ls Z, (0 : Int), (0 : Int))) (Prod.fst (Prod.snd (List.length Z, Ls Z, (0 : Int), (0 : Int)))))))) (Prod.snd (Prod.fst (R (Prod.fst (List.length Z, Ls Z, (0 : Int), (0 : Int))) (Prod.fst (Prod.snd (List.length Z, Ls Z, (0 : Int), (0 : Int))))), Prod.fst (Prod.snd (R (Prod.fst (List.length Z, Ls Z, (0 : Int), (0 : Int))) (Prod.fst (Prod.snd (List.length Z, Ls Z, (0 : Int), (0 : Int))))))))))))] []) (Sc.br (lft (Prod.fst (Prod.fst (List.length Z, fun i => [PV.v (Value.int IntKind.u8 (↑(List.getD Z i (0 : Nat)) : Int))], (0 : Int), (0 : Int)), fun i => [PV.v (Value.int IntKind.u8 (↑(List.getD Z i (0 : Nat)) : Int))], Prod.fst (R (Prod.fst (List.length Z, Ls Z, (0 : Int), (0 : Int))) (Prod.fst (Prod.snd (List.length Z, Ls Z, (0 : Int), (0 : Int))))), Prod.fst (Prod.snd (R (Prod.fst (List.length Z, Ls Z, (0 : Int), (0 : Int))) (Prod.fst (Prod.snd (List.length Z, Ls Z, (0 : Int), (0 : Int)))))))) (Prod.fst (Prod.fst (R (Prod.fst (List.length Z, Ls Z, (0 : Int), (0 : Int))) (Prod.fst (Prod.snd (List.length Z, Ls Z, (0 : Int), (0 : Int))))), Prod.fst (Prod.snd (R (Prod.fst (List.length Z, Ls Z, (0 : Int), (0 : Int))) (Prod.fst (Prod.snd (List.length Z, Ls Z, (0 : Int), (0 : Int)))))))) (Prod.snd (Prod.fst (R (Prod.fst (List.length Z, Ls Z, (0 : Int), (0 : Int))) (Prod.fst (Prod.snd (List.length Z, Ls Z, (0 : Int), (0 : Int))))), Prod.fst (Prod.snd (R (Prod.fst (List.length Z, Ls Z, (0 : Int), (0 : Int))) (Prod.fst (Prod.snd (List.length Z, Ls Z, (0 : Int), (0 : Int)))))))) != (0 : Int)) (Sc.done (Ans.mk Ex.ret [AV.c (CV.p (PV.v (Value.bool false)))] [])) (Sc.chk (IntKind.wrap IntKind.i64 ((↑(List.length Z) : Int) + (1 : Int)) ≠ (0 : Int)) (Sc.chk ((0 : Int) ≤ (0 : Int) ∧ (0 : Int) ≤ Int.tmod (IntKind.wrap IntKind.i64 c) (IntKind.wrap IntKind.i64 ((↑(List.length Z) : Int) + (1 : Int))) ∧ Int.tmod (IntKind.wrap IntKind.i64 c) (IntKind.wrap IntKind.i64 ((↑(List.length Z) : Int) + (1 : Int))) ≤ (↑(List.length Z) : Int)) (Sc.ask (Qry.call (53 : Nat) [AV.agg [CV.p (PV.sl (Int.toNat (Int.tmod (IntKind.wrap IntKind.i64 c) (IntKind.wrap IntKind.i64 ((↑(List.length Z) : Int) + (1 : Int)))) - (0 : Nat)) fun i => [PV.v (Value.int IntKind.u8 (↑(List.getD Z (i + (0 : Nat)) (0 : Nat)) : Int))]), CV.p (PV.v (Value.int IntKind.i64 (0 : Int))), CV.p (PV.v (Value.int IntKind.i64 (0 : Int)))], AV.c (CV.p (PV.sl p fun i => [PV.v (Value.int IntKind.u64 (l i))])), AV.c (CV.p (PV.sl r fun i => [PV.v (Value.int IntKind.i64 (m i))])), AV.c (CV.p (PV.sl t fun i => [PV.v (Value.string (s i))]))] []) (Ans.mk Ex.ret [AV.tup [AV.agg [CV.p (PV.sl (Prod.fst (Int.toNat (Int.tmod (IntKind.wrap IntKind.i64 c) (IntKind.wrap IntKind.i64 ((↑(List.length Z) : Int) + (1 : Int)))) - (0 : Nat), fun i => [PV.v (Value.int IntKind.u8 (↑(List.getD Z (i + (0 : Nat)) (0 : Nat)) : Int))], (0 : Int), (0 : Int))) fun i => [PV.v (Value.int IntKind.u8 (↑(List.getD Z (i + (0 : Nat)) (0 : Nat)) : Int))]), CV.p (PV.v (Value.int IntKind.i64 (Prod.fst (R (Prod.fst (Int.toNat (Int.tmod (IntKind.wrap IntKind.i64 c) (IntKind.wrap IntKind.i64 ((↑(List.length Z) : Int) + (1 : Int)))) - Int.toNat (0 : Int), fun i => Ls Z (i + Int.toNat (0 : Int)), (0 : Int), (0 : Int))) (Prod.fst (Prod.snd (Int.toNat (Int.tmod (IntKind.wrap IntKind.i64 c) (IntKind.wrap IntKind.i64 ((↑(List.length Z) : Int) + (1 : Int)))) - Int.toNat (0 : Int), fun i => Ls Z (i + Int.toNat (0 : Int)), (0 : Int), (0 : Int)))))))), CV.p (PV.v (Value.int IntKind.i64 (Prod.fst (Prod.snd (R (Prod.fst (Int.toNat (Int.tmod (IntKind.wrap IntKind.i64 c) (IntKind.wrap IntKind.i64 ((↑(List.length Z) : Int) + (1 : Int)))) - Int.toNat (0 : Int), fun i => Ls Z (i + Int.toNat (0 : Int)), (0 : Int), (0 : Int))) (Prod.fst (Prod.snd (Int.toNat (Int.tmod (IntKind.wrap IntKind.i64 c) (IntKind.wrap IntKind.i64 ((↑(List.length Z) : Int) + (1 : Int)))) - Int.toNat (0 : Int), fun i => Ls Z (i + Int.toNat (0 : Int)), (0 : Int), (0 : Int)))))))))], AV.c (CV.p (PV.v (Value.bool (Prod.snd (Prod.snd (R (Prod.fst (Int.toNat (Int.tmod (IntKind.wrap IntKind.i64 c) (IntKind.wrap IntKind.i64 ((↑(List.length Z) : Int) + (1 : Int)))) - Int.toNat (0 : Int), fun i => Ls Z (i + Int.toNat (0 : Int)), (0 : Int), (0 : Int))) (Prod.fst (Prod.snd (Int.toNat (Int.tmod (IntKind.wrap IntKind.i64 c) (IntKind.wrap IntKind.i64 ((↑(List.length Z) : Int) + (1 : Int)))) - Int.toNat (0 : Int), fun i => Ls Z (i + Int.toNat (0 : Int)), (0 : Int), (0 : Int))))))))))]] []) (Sc.done (Ans.mk Ex.ret [AV.c (CV.p (PV.v (Value.bool ((Prod.fst (Prod.snd (R (Prod.fst (Int.toNat (Int.tmod (IntKind.wrap IntKind.i64 c) (IntKind.wrap IntKind.i64 ((↑(List.length Z) : Int) + (1 : Int)))) - Int.toNat (0 : Int), fun i => Ls Z (i + Int.toNat (0 : Int)), (0 : Int), (0 : Int))) (Prod.fst (Prod.snd (Int.toNat (Int.tmod (IntKind.wrap IntKind.i64 c) (IntKind.wrap IntKind.i64 ((↑(List.length Z) : Int) + (1 : Int)))) - Int.toNat (0 : Int), fun i => Ls Z (i + Int.toNat (0 : Int)), (0 : Int), (0 : Int)))))) == (10 : Int)) == decide (Int.tmod (IntKind.wrap IntKind.i64 c) (IntKind.wrap IntKind.i64 ((↑(List.length Z) : Int) + (1 : Int))) < (↑(List.length Z) : Int))))))] [])))))))))))))))) := by kernel_rfl
theorem bkTl_t (p : Nat)  (l : Nat → Int)  (r : Nat)  (m : Nat → Int)  (t : Nat)  (s : Nat → ByteArray)  (c : Int)  (X Y Z : List Nat)  (j : Nat)  : fol CK Try.prog (SLo 12 (fun vals h => match vals with | [x, y, z, u, .c .nils, _] => some ⟨.exit 0, [x, y, z, u, Lb X, I p], h⟩ | [x, y, z, u, _, _] => some ⟨.exit 2, [x, y, z, u, Lb Y, I r], h⟩ | [x, y, z, u, v, _, _] => some ⟨.ret, [x, y, z, u, B true, Lb Z, I j], h⟩ | _ => none) (spec [(49, fun _ => some (B true))] [])) (An.a (An.l (An.b (An.l (An.l (An.l (An.l (An.l (An.l (An.l (An.l An.e)))))))) (An.l (An.l (An.l (An.b (An.l (An.l (An.l (An.l An.e)))) (An.l (An.l (An.l (An.b An.e (An.a (An.a (An.a An.e)))))))))))))) (T.evQ CK Try.prog (.call 12 [Sl p (Us l), Sl r (Is m), Sl t (Ss s), U16 c] []) .done) = Sc.ask (Qry.call (49 : Nat) [] []) (Ans.mk Ex.ret [AV.c (CV.p (PV.v (Value.bool true)))] []) (Sc.br (decide ((↑p : Int) > (20 : Int))) (Sc.done (Ans.mk Ex.ret [AV.c (CV.p (PV.v (Value.bool true)))] [])) (Sc.br (decide ((↑r : Int) > (20 : Int))) (Sc.done (Ans.mk Ex.ret [AV.c (CV.p (PV.v (Value.bool true)))] [])) (Sc.br (decide ((↑t : Int) > (20 : Int))) (Sc.done (Ans.mk Ex.ret [AV.c (CV.p (PV.v (Value.bool true)))] [])) (Sc.ask (Qry.loop (12 : Nat) (0 : Nat) [(1 : Nat), (1 : Nat), (1 : Nat), (1 : Nat), (0 : Nat), (1 : Nat), (0 : Nat)] [AV.c (CV.p (PV.sl p fun i => [PV.v (Value.int IntKind.u64 (l i))])), AV.c (CV.p (PV.sl r fun i => [PV.v (Value.int IntKind.i64 (m i))])), AV.c (CV.p (PV.sl t fun i => [PV.v (Value.string (s i))])), AV.c (CV.p (PV.v (Value.int IntKind.u16 c))), AV.c CV.nils, AV.c (CV.p (PV.v (Value.int IntKind.i64 (0 : Int))))] []) (Ans.mk (Ex.exit (0 : Nat)) [AV.c (CV.p (PV.sl p fun i => [PV.v (Value.int IntKind.u64 (l i))])), AV.c (CV.p (PV.sl r fun i => [PV.v (Value.int IntKind.i64 (m i))])), AV.c (CV.p (PV.sl t fun i => [PV.v (Value.string (s i))])), AV.c (CV.p (PV.v (Value.int IntKind.u16 c))), AV.c (CV.p (PV.sl (List.length X) fun i => [PV.v (Value.int IntKind.u8 (↑(List.getD X i (0 : Nat)) : Int))])), AV.c (CV.p (PV.v (Value.int IntKind.i64 (↑p : Int))))] []) (Sc.ask (Qry.loop (12 : Nat) (0 : Nat) [(1 : Nat), (1 : Nat), (1 : Nat), (1 : Nat), (1 : Nat), (0 : Nat), (1 : Nat), (0 : Nat)] [AV.c (CV.p (PV.sl p fun i => [PV.v (Value.int IntKind.u64 (l i))])), AV.c (CV.p (PV.sl r fun i => [PV.v (Value.int IntKind.i64 (m i))])), AV.c (CV.p (PV.sl t fun i => [PV.v (Value.string (s i))])), AV.c (CV.p (PV.v (Value.int IntKind.u16 c))), AV.c (CV.p (PV.sl (List.length X) fun i => [PV.v (Value.int IntKind.u8 (↑(List.getD X i (0 : Nat)) : Int))])), AV.c (CV.p (PV.v (Value.int IntKind.i64 (0 : Int))))] []) (Ans.mk (Ex.exit (2 : Nat)) [AV.c (CV.p (PV.sl p fun i => [PV.v (Value.int IntKind.u64 (l i))])), AV.c (CV.p (PV.sl r fun i => [PV.v (Value.int IntKind.i64 (m i))])), AV.c (CV.p (PV.sl t fun i => [PV.v (Value.string (s i))])), AV.c (CV.p (PV.v (Value.int IntKind.u16 c))), AV.c (CV.p (PV.sl (List.length Y) fun i => [PV.v (Value.int IntKind.u8 (↑(List.getD Y i (0 : Nat)) : Int))])), AV.c (CV.p (PV.v (Value.int IntKind.i64 (↑r : Int))))] []) (Sc.ask (Qry.loop (12 : Nat) (0 : Nat) [(1 : Nat), (1 : Nat), (1 : Nat), (1 : Nat), (1 : Nat), (1 : Nat), (0 : Nat), (1 : Nat), (0 : Nat)] [AV.c (CV.p (PV.sl p fun i => [PV.v (Value.int IntKind.u64 (l i))])), AV.c (CV.p (PV.sl r fun i => [PV.v (Value.int IntKind.i64 (m i))])), AV.c (CV.p (PV.sl t fun i => [PV.v (Value.string (s i))])), AV.c (CV.p (PV.v (Value.int IntKind.u16 c))), AV.top, AV.c (CV.p (PV.sl (List.length Y) fun i => [PV.v (Value.int IntKind.u8 (↑(List.getD Y i (0 : Nat)) : Int))])), AV.c (CV.p (PV.v (Value.int IntKind.i64 (0 : Int))))] []) (Ans.mk Ex.ret [AV.c (CV.p (PV.sl p fun i => [PV.v (Value.int IntKind.u64 (l i))])), AV.c (CV.p (PV.sl r fun i => [PV.v (Value.int IntKind.i64 (m i))])), AV.c (CV.p (PV.sl t fun i => [PV.v (Value.string (s i))])), AV.c (CV.p (PV.v (Value.int IntKind.u16 c))), AV.c (CV.p (PV.v (Value.bool true))), AV.c (CV.p (PV.sl (List.length Z) fun i => [PV.v (Value.int IntKind.u8 (↑(List.getD Z i (0 : Nat)) : Int))])), AV.c (CV.p (PV.v (Value.int IntKind.i64 (↑j : Int))))] []) (Sc.done (Ans.mk Ex.ret [AV.c (CV.p (PV.v (Value.bool true)))] [])))))))) := by kernel_rfl

section
variable {n p r t : Nat} {f : Nat → List PV} {l m : Nat → Int} {s : Nat → ByteArray}
theorem rdLoop1 (hf : BOk n f) (hn : wl n) (hp : wl p) : ∀ (k i : Nat) (z : St), i + k = p →
    QOk Try.prog CK (.loop 53 0 [1, 1, 0, 1, 0] [Sl p (Us l), Sl r (Is m), Sl t (Ss s), .c (.ptr 0 0), .c (.ptr 1 0), B z.2.2, I i] [.box [.p (.sl n f), i64 z.1, i64 z.2.1] true, .box [.nils, i64 0, i64 0] true])
      ⟨.exit 0, [Sl p (Us l), Sl r (Is m), Sl t (Ss s), .c (.ptr 0 0), .c (.ptr 1 0), B (fold (stU n f) l k i z).2.2, I p], [.box [.p (.sl n f), i64 (fold (stU n f) l k i z).1, i64 (fold (stU n f) l k i z).2.1] true, .box [.nils, i64 0, i64 0] true]⟩
  | 0, i, (a, e, q), hk => by
    refine tree_i hP (rdR1_t n f p l r m t s a e q i a e q) ?_
    simp only [Sc.Ok]
    refine ⟨fun h => ?_, fun h => ?_⟩
    · simp at h; omega
    · rw [show i = p by omega]; rfl
  | k + 1, i, (a, e, q), hk => by
    have hx := next64 (i := i) (n := p) (by omega) (by unfold wl at hp; omega)
    have ih := rdLoop1 hf hn hp k (i + 1) (stU n f (l i) (a, e, q)) (by omega)
    refine tree_i hP (rdR1_t n f p l r m t s a e q i (fold (stU n f) l (k + 1) i (a, e, q)).1 (fold (stU n f) l (k + 1) i (a, e, q)).2.1 (fold (stU n f) l (k + 1) i (a, e, q)).2.2) ?_
    simp only [Sc.Ok, hx, Int.toNat_natCast]
    refine ⟨fun _ => ⟨cUint hf hn, fun h => ⟨by omega, ?_, trivial⟩, fun h => ⟨?_, trivial⟩⟩, fun h => ?_⟩
    · subst h; exact ih
    · subst h; exact ih
    · simp at h; omega
theorem rdLoop2 (hf : BOk n f) (hn : wl n) (hp : wl r) : ∀ (k i : Nat) (z : St), i + k = r →
    QOk Try.prog CK (.loop 53 0 [1, 1, 1, 0, 1, 0] [Sl r (Is m), Sl t (Ss s), .c (.ptr 0 0), .c (.ptr 1 0), B z.2.2, I i] [.box [.p (.sl n f), i64 z.1, i64 z.2.1] true, .box [.nils, i64 0, i64 0] true])
      ⟨.exit 2, [Sl r (Is m), Sl t (Ss s), .c (.ptr 0 0), .c (.ptr 1 0), B (fold (stI n f) m k i z).2.2, I r], [.box [.p (.sl n f), i64 (fold (stI n f) m k i z).1, i64 (fold (stI n f) m k i z).2.1] true, .box [.nils, i64 0, i64 0] true]⟩
  | 0, i, (a, e, q), hk => by
    refine tree_i hP (rdR2_t n f r m t s a e q i a e q) ?_
    simp only [Sc.Ok]
    refine ⟨fun h => ?_, fun h => ?_⟩
    · simp at h; omega
    · rw [show i = r by omega]; rfl
  | k + 1, i, (a, e, q), hk => by
    have hx := next64 (i := i) (n := r) (by omega) (by unfold wl at hp; omega)
    have ih := rdLoop2 hf hn hp k (i + 1) (stI n f (m i) (a, e, q)) (by omega)
    refine tree_i hP (rdR2_t n f r m t s a e q i (fold (stI n f) m (k + 1) i (a, e, q)).1 (fold (stI n f) m (k + 1) i (a, e, q)).2.1 (fold (stI n f) m (k + 1) i (a, e, q)).2.2) ?_
    simp only [Sc.Ok, hx, Int.toNat_natCast]
    refine ⟨fun _ => ⟨cInt hf hn, fun h => ⟨by omega, ?_, trivial⟩, fun h => ⟨?_, trivial⟩⟩, fun h => ?_⟩
    · subst h; exact ih
    · subst h; exact ih
    · simp at h; omega
theorem rdLoop3 (hf : BOk n f) (hn : wl n) (hp : wl t) : ∀ (k i : Nat) (z : St), i + k = t →
    QOk Try.prog CK (.loop 53 0 [1, 1, 1, 1, 0, 1, 0] [Sl t (Ss s), .c (.ptr 0 0), .c (.ptr 1 0), B z.2.2, I i] [.box [.p (.sl n f), i64 z.1, i64 z.2.1] true, .box [.nils, i64 0, i64 0] true])
      ⟨.exit 4, [Sl t (Ss s), .c (.ptr 0 0), .c (.ptr 1 0), B (fold (stT n f) s k i z).2.2, I t], [.box [.p (.sl n f), i64 (fold (stT n f) s k i z).1, i64 (fold (stT n f) s k i z).2.1] true, .box [.nils, i64 0, i64 0] true]⟩
  | 0, i, (a, e, q), hk => by
    refine tree_i hP (rdR3_t n f t s a e q i a e q) ?_
    simp only [Sc.Ok]
    refine ⟨fun h => ?_, fun h => ?_⟩
    · simp at h; omega
    · rw [show i = t by omega]; rfl
  | k + 1, i, (a, e, q), hk => by
    have hx := next64 (i := i) (n := t) (by omega) (by unfold wl at hp; omega)
    have ih := rdLoop3 hf hn hp k (i + 1) (stT n f (s i) (a, e, q)) (by omega)
    refine tree_i hP (rdR3_t n f t s a e q i (fold (stT n f) s (k + 1) i (a, e, q)).1 (fold (stT n f) s (k + 1) i (a, e, q)).2.1 (fold (stT n f) s (k + 1) i (a, e, q)).2.2) ?_
    simp only [Sc.Ok, hx, Int.toNat_natCast]
    refine ⟨fun _ => ⟨cText hf hn (by decide), fun h => ⟨by omega, ?_, trivial⟩, fun h => ⟨?_, trivial⟩⟩, fun h => ?_⟩
    · subst h; rw [toList_beq]; exact ih
    · subst h; exact ih
    · simp at h; omega
def rdAll (p : Nat) (l : Nat → Int) (r : Nat) (m : Nat → Int) (t : Nat) (s : Nat → ByteArray) (n : Nat) (f : Nat → List PV) : St := fold (stT n f) s t 0 (fold (stI n f) m r 0 (fold (stU n f) l p 0 (0, 0, true)))
theorem cRead (hf : BOk n f) (hn : wl n) (hp : wl p) (hr : wl r) (ht : wl t) : QOk Try.prog CK (.call 53 [Cur n f 0 0, Sl p (Us l), Sl r (Is m), Sl t (Ss s)] [])
    ⟨.ret, [.tup [Cur n f (rdAll p l r m t s n f).1 (rdAll p l r m t s n f).2.1, B (rdAll p l r m t s n f).2.2]], []⟩ := by
  refine tree_i hP (rdT_t n f p l r m t s (fold (stU n f) l p 0 (0, 0, true)).1 (fold (stU n f) l p 0 (0, 0, true)).2.1 (fold (stI n f) m r 0 (fold (stU n f) l p 0 (0, 0, true))).1 (fold (stI n f) m r 0 (fold (stU n f) l p 0 (0, 0, true))).2.1 (rdAll p l r m t s n f).1 (rdAll p l r m t s n f).2.1
    (fold (stU n f) l p 0 (0, 0, true)).2.2 (fold (stI n f) m r 0 (fold (stU n f) l p 0 (0, 0, true))).2.2 (rdAll p l r m t s n f).2.2) ?_
  simp only [Sc.Ok]
  exact ⟨rdLoop1 hf hn hp p 0 (0, 0, true) (by omega), rdLoop2 hf hn hr r 0 _ (by omega), rdLoop3 hf hn ht t 0 _ (by omega), trivial⟩
end
/-! ### Putting one behind the other -/
theorem cat_ls (X Y : List Nat) (i : Nat) : catF X.length (Ls X) (Ls Y) i = Ls (X ++ Y) i := by
  unfold catF
  by_cases h : i < X.length
  · rw [if_pos h]
    have : (X ++ Y).getD i 0 = X.getD i 0 := by rw [List.getD_eq_getElem?_getD, List.getD_eq_getElem?_getD, List.getElem?_append_left h]
    show [PV.v (Value.int .u8 ((X.getD i 0 : Nat) : Int))] = [PV.v (Value.int .u8 (((X ++ Y).getD i 0 : Nat) : Int))]
    rw [this]
  · rw [if_neg h]
    have : (X ++ Y).getD i 0 = Y.getD (i - X.length) 0 := by rw [List.getD_eq_getElem?_getD, List.getD_eq_getElem?_getD, List.getElem?_append_right (by omega)]
    show [PV.v (Value.int .u8 ((Y.getD (i - X.length) 0 : Nat) : Int))] = [PV.v (Value.int .u8 (((X ++ Y).getD i 0 : Nat) : Int))]
    rw [this]
abbrev by8 (X : List Nat) : Prop := ∀ x ∈ X, x < 256
theorem lb_ok {X : List Nat} (h : by8 X) (n : Nat) : BOk n (Ls X) := BOk.bs n (fun i _ => getD_lt h i)
abbrev isU (x : Int) : Prop := 0 ≤ x ∧ x ≤ 18446744073709551615
abbrev isI (x : Int) : Prop := -9223372036854775808 ≤ x ∧ x ≤ 9223372036854775807
theorem puU_256 (x : Int) (h : isU x) : by8 (puU x) := pu_256 (by unfold isU at h; unfold u64; omega)
theorem puI_256 (x : Int) (h : isI x) : by8 (puI x) := pu_256 (zz_lt h)
theorem puT_256 (x : ByteArray) (h : x.size ≤ 200) : by8 (puT x) := by
  intro y hy
  rcases List.mem_append.1 hy with hy | hy
  · exact pu_256 (by unfold u64; omega) y hy
  · unfold bsN at hy
    rw [List.mem_map] at hy
    obtain ⟨b, _, rfl⟩ := hy
    exact UInt8.toNat_lt b
theorem by8_app {X Y : List Nat} (h : by8 X) (k : by8 Y) : by8 (X ++ Y) := fun x hx => by
  rcases List.mem_append.1 hx with hx | hx
  · exact h x hx
  · exact k x hx
theorem qU {X : List Nat} {x : Int} (hX : by8 X) (hl : wl X.length) (hx : isU x) : QOk Try.prog CK (.call 50 [Lb X, U64 x] []) ⟨.ret, [Lb (X ++ puU x)], []⟩ := by
  have q := (cPutU (v := x.toNat) (lb_ok hX X.length) hl (by unfold isU at hx; unfold u64; omega)).frz
  have e : ((x.toNat : Nat) : Int) = x := Int.toNat_of_nonneg hx.1
  rw [e] at q
  exact QOk.slice q (by rw [List.length_append]; rfl) (fun i _ => cat_ls X _ i)
theorem qI {X : List Nat} {x : Int} (hX : by8 X) (hl : wl X.length) (hx : isI x) : QOk Try.prog CK (.call 51 [Lb X, I x] []) ⟨.ret, [Lb (X ++ puI x)], []⟩ := by
  have q := (cPutI (lb_ok hX X.length) hl hx).frz
  exact QOk.slice q (by rw [List.length_append]; rfl) (fun i _ => cat_ls X _ i)
theorem qT {X : List Nat} {x : ByteArray} (hX : by8 X) (hl : wl X.length) (hx : x.size ≤ 200) : QOk Try.prog CK (.call 52 [Lb X, Str x] []) ⟨.ret, [Lb (X ++ puT x)], []⟩ := by
  have q := (cPutT (lb_ok hX X.length) hl (show wl x.size by unfold wl; omega)).frz
  refine QOk.slice q (by unfold puT; rw [List.length_append, List.length_append, bsN_len]; omega) (fun i _ => ?_)
  have e1 : catF X.length (Ls X) (Ls (pu x.size)) = Ls (X ++ pu x.size) := funext fun j => cat_ls X _ j
  have e2 : strF x = Ls (bsN x) := funext fun j => by
    show [PV.v (Value.int .u8 (((x.data.getD j 0).toNat : Nat) : Int))] = [PV.v (Value.int .u8 (((bsN x).getD j 0 : Nat) : Int))]
    rw [bsN_getD]
  rw [e1, e2, ← List.length_append, cat_ls]
  unfold puT
  rw [List.append_assoc]
theorem nilsLb : ALe (.c .nils) (Lb []) := fun M φ v h => by
  cases h with
  | c h => cases h with
    | nils => exact .c (.p (.sl none 0 0 0 0 (fun _ _ => undef) (Nat.le_refl _) (fun h => absurd h (by decide)) (fun i hi => absurd hi (by simp)) (fun i j hi => absurd hi (by simp)) (fun i j x hi => absurd hi (by simp))))
section
variable {p r t : Nat} {l m : Nat → Int} {s : Nat → ByteArray} {c : Int}
theorem bkLoop1 (hp : p ≤ 20) (hl : ∀ i, isU (l i)) : ∀ (k i : Nat) (X : List Nat), i + k = p → X.length ≤ 10 * i → by8 X →
    QOk Try.prog CK (.loop 12 0 [1, 1, 1, 1, 0, 1, 0] [Sl p (Us l), Sl r (Is m), Sl t (Ss s), U16 c, Lb X, I i] []) ⟨.exit 0, [Sl p (Us l), Sl r (Is m), Sl t (Ss s), U16 c, Lb (app puU l k i X), I p], []⟩
  | 0, i, X, hk, _, hX => by
    refine tree_i hP (bkR1_t p l r m t s c X X X i) ?_
    simp only [Sc.Ok]
    refine ⟨fun h => ?_, fun h => ?_⟩
    · simp at h; omega
    · rw [show i = p by omega]; rfl
  | k + 1, i, X, hk, hlen, hX => by
    have hx := next64 (i := i) (n := p) (by omega) (by omega)
    have hpl := pu_len (l i).toNat
    have ih := bkLoop1 hp hl k (i + 1) (X ++ puU (l i)) (by omega) (by rw [List.length_append]; unfold puU; omega) (by8_app hX (puU_256 _ (hl i)))
    refine tree_i hP (bkR1_t p l r m t s c X (X ++ puU (l i)) (app puU l (k + 1) i X) i) ?_
    simp only [Sc.Ok, hx, Int.toNat_natCast]
    refine ⟨fun _ => ⟨by omega, qU hX (by unfold wl; omega) (hl i), ih, trivial⟩, fun h => ?_⟩
    simp at h; omega
theorem bkLoop2 (hr : r ≤ 20) (hm : ∀ i, isI (m i)) : ∀ (k i : Nat) (X : List Nat), i + k = r → X.length ≤ 200 + 10 * i → by8 X →
    QOk Try.prog CK (.loop 12 0 [1, 1, 1, 1, 1, 0, 1, 0] [Sl p (Us l), Sl r (Is m), Sl t (Ss s), U16 c, Lb X, I i] []) ⟨.exit 2, [Sl p (Us l), Sl r (Is m), Sl t (Ss s), U16 c, Lb (app puI m k i X), I r], []⟩
  | 0, i, X, hk, _, hX => by
    refine tree_i hP (bkR2_t p l r m t s c X X X i) ?_
    simp only [Sc.Ok]
    refine ⟨fun h => ?_, fun h => ?_⟩
    · simp at h; omega
    · rw [show i = r by omega]; rfl
  | k + 1, i, X, hk, hlen, hX => by
    have hx := next64 (i := i) (n := r) (by omega) (by omega)
    have hpl := pu_len (zz (m i))
    have ih := bkLoop2 hr hm k (i + 1) (X ++ puI (m i)) (by omega) (by rw [List.length_append]; unfold puI; omega) (by8_app hX (puI_256 _ (hm i)))
    refine tree_i hP (bkR2_t p l r m t s c X (X ++ puI (m i)) (app puI m (k + 1) i X) i) ?_
    simp only [Sc.Ok, hx, Int.toNat_natCast]
    refine ⟨fun _ => ⟨by omega, qI hX (by unfold wl; omega) (hm i), ih, trivial⟩, fun h => ?_⟩
    simp at h; omega
theorem bkLoop3 (ht : t ≤ 20) : ∀ (k i : Nat) (X : List Nat), i + k = t → X.length ≤ 400 + 210 * i → by8 X → (∀ j, i ≤ j → j < t → (s j).size ≤ 200) →
    QOk Try.prog CK (.loop 12 0 [1, 1, 1, 1, 1, 1, 0, 1, 0] [Sl p (Us l), Sl r (Is m), Sl t (Ss s), U16 c, .top, Lb X, I i] []) ⟨.exit 4, [Sl p (Us l), Sl r (Is m), Sl t (Ss s), U16 c, .top, Lb (app puT s k i X), I t], []⟩
  | 0, i, X, hk, _, hX, _ => by
    refine tree_i hP (bkR3_t p l r m t s c X X X i) ?_
    simp only [Sc.Ok]
    refine ⟨fun h => ?_, fun h => ?_⟩
    · simp at h; omega
    · rw [show i = t by omega]; rfl
  | k + 1, i, X, hk, hlen, hX, hs => by
    have hx := next64 (i := i) (n := t) (by omega) (by omega)
    have hpl := pu_len (s i).size
    have hsi := hs i (by omega) (by omega)
    have ih := bkLoop3 ht k (i + 1) (X ++ puT (s i)) (by omega) (by rw [List.length_append]; unfold puT; rw [List.length_append, bsN_len]; omega) (by8_app hX (puT_256 _ hsi)) (fun j h1 h2 => hs j (by omega) h2)
    refine tree_i hP (bkR3_t p l r m t s c X (X ++ puT (s i)) (app puT s (k + 1) i X) i) ?_
    simp only [Sc.Ok, hx, Int.toNat_natCast]
    refine ⟨fun _ => ⟨by omega, fun h => ?_, fun _ => ⟨by omega, qT hX (by unfold wl; omega) hsi, ih, trivial⟩⟩, fun h => ?_⟩
    · simp at h; omega
    · simp at h; omega
theorem bkLoop3l (ht : t ≤ 20) : ∀ (k i : Nat) (X : List Nat), i + k = t → X.length ≤ 400 + 210 * i → by8 X → (∃ j, i ≤ j ∧ j < t ∧ 200 < (s j).size) →
    ∃ (Z : List Nat) (j : Nat), QOk Try.prog CK (.loop 12 0 [1, 1, 1, 1, 1, 1, 0, 1, 0] [Sl p (Us l), Sl r (Is m), Sl t (Ss s), U16 c, .top, Lb X, I i] []) ⟨.ret, [Sl p (Us l), Sl r (Is m), Sl t (Ss s), U16 c, B true, Lb Z, I j], []⟩
  | 0, i, X, hk, _, hX, hs => by obtain ⟨j, h1, h2, _⟩ := hs; omega
  | k + 1, i, X, hk, hlen, hX, hs => by
    have hx := next64 (i := i) (n := t) (by omega) (by omega)
    have hpl := pu_len (s i).size
    by_cases hsi : (s i).size ≤ 200
    · obtain ⟨Z, j, ih⟩ := bkLoop3l ht k (i + 1) (X ++ puT (s i)) (by omega) (by rw [List.length_append]; unfold puT; rw [List.length_append, bsN_len]; omega) (by8_app hX (puT_256 _ hsi)) (by
        obtain ⟨j, h1, h2, h3⟩ := hs
        refine ⟨j, ?_, h2, h3⟩
        by_cases hj : j = i
        · subst hj; omega
        · omega)
      refine ⟨Z, j, tree_i hP (bkR3l_t p l r m t s c X (X ++ puT (s i)) Z i j) ?_⟩
      simp only [Sc.Ok, hx, Int.toNat_natCast]
      refine ⟨fun _ => ⟨by omega, fun h => ?_, fun _ => ⟨by omega, qT hX (by unfold wl; omega) hsi, ih, trivial⟩⟩, fun h => ?_⟩
      · simp at h; omega
      · simp at h; omega
    · refine ⟨X, i, tree_i hP (bkR3l_t p l r m t s c X X X i i) ?_⟩
      simp only [Sc.Ok, hx, Int.toNat_natCast]
      refine ⟨fun _ => ⟨by omega, fun h => ?_, fun h => ?_⟩, fun h => ?_⟩
      · trivial
      · simp at h; omega
      · simp at h; omega
theorem lawBack (hl : ∀ i, isU (l i)) (hm : ∀ i, isI (m i)) (hc : 0 ≤ c ∧ c ≤ 65535) : CallIn Try.prog 12 [Sl p (Us l), Sl r (Is m), Sl t (Ss s), U16 c] [] ⟨.ret, [B true], []⟩ := by
  by_cases hbig : p ≤ 20 ∧ r ≤ 20 ∧ t ≤ 20
  · obtain ⟨hp, hr, ht⟩ := hbig
    have b1 : by8 (app puU l p 0 []) := app_256 isU puU_256 p 0 [] (fun j _ _ => hl j) (fun x hx => by simp at hx)
    have b2 : by8 (app puI m r 0 (app puU l p 0 [])) := app_256 isI puI_256 r 0 _ (fun j _ _ => hm j) b1
    have n1 : (app puU l p 0 []).length ≤ 200 := by
      have := app_len (g := puU) (l := l) 10 isU (fun x _ => pu_len x.toNat) p 0 [] (fun j _ _ => hl j)
      simp at this; omega
    have n2 : (app puI m r 0 (app puU l p 0 [])).length ≤ 400 := by
      have := app_len (g := puI) (l := m) 10 isI (fun x _ => pu_len (zz x)) r 0 (app puU l p 0 []) (fun j _ _ => hm j)
      omega
    have q1 := bkLoop1 (p := p) (r := r) (t := t) (l := l) (m := m) (s := s) (c := c) hp hl p 0 [] (by omega) (by simp) (fun x hx => by simp at hx)
    have q2 := bkLoop2 (p := p) (r := r) (t := t) (l := l) (m := m) (s := s) (c := c) hr hm r 0 (app puU l p 0 []) (by omega) (by omega) b1
    have q1' := QOk.lp (vals' := [Sl p (Us l), Sl r (Is m), Sl t (Ss s), U16 c, .c .nils, I 0]) (h' := []) q1 (.cons (ALe.refl _) (.cons (ALe.refl _) (.cons (ALe.refl _) (.cons (ALe.refl _) (.cons nilsLb (.cons (ALe.refl _) .nil)))))) .nil
    by_cases hs : ∀ j, j < t → (s j).size ≤ 200
    · have b3 : by8 (app puT s t 0 (app puI m r 0 (app puU l p 0 []))) := app_256 (fun x => x.size ≤ 200) puT_256 t 0 _ (fun j _ h => hs j (by omega)) b2
      have n3 : (app puT s t 0 (app puI m r 0 (app puU l p 0 []))).length ≤ 4600 := by
        have := app_len (g := puT) (l := s) 210 (fun x => x.size ≤ 200) (fun x hx => by unfold puT; rw [List.length_append, bsN_len]; have := pu_len x.size; omega) t 0 (app puI m r 0 (app puU l p 0 [])) (fun j _ h => hs j (by omega))
        omega
      have q3 := bkLoop3 (p := p) (r := r) (t := t) (l := l) (m := m) (s := s) (c := c) ht t 0 (app puI m r 0 (app puU l p 0 [])) (by omega) (by omega) b2 (fun j _ h => hs j h)
      have okAll : ∀ n, n ≤ (app puT s t 0 (app puI m r 0 (app puU l p 0 []))).length → Okk n (app puT s t 0 (app puI m r 0 (app puU l p 0 []))) (rdAll p l r m t s n (Ls (app puT s t 0 (app puI m r 0 (app puU l p 0 []))))) := by
        intro n hn
        obtain ⟨R1, h1⟩ := app_pre puT s t 0 (app puI m r 0 (app puU l p 0 []))
        obtain ⟨R2, h2⟩ := app_pre puI m r 0 (app puU l p 0 [])
        generalize hZ : app puT s t 0 (app puI m r 0 (app puU l p 0 [])) = Z at *
        unfold rdAll
        rw [← hZ]
        refine ok_fold puT (stT n (Ls (app puT s t 0 (app puI m r 0 (app puU l p 0 []))))) s (fun x => x.size ≤ 200) (Z := Z) (fun x X R st hx hZ' h => by rw [hZ]; exact okT hx hZ' b3 hn h) t 0 _ [] _ (fun j _ h => hs j (by omega)) (by rw [List.append_nil, hZ]) ?_
        rw [hZ]
        refine ok_fold puI (stI n (Ls Z)) m isI (Z := Z) (fun x X R st hx hZ' h => okI hx hZ' b3 hn h) r 0 _ R1 _ (fun j _ _ => hm j) h1 ?_
        refine ok_fold puU (stU n (Ls Z)) l isU (Z := Z) (fun x X R st hx hZ' h => okU hx hZ' b3 hn h) p 0 [] (R2 ++ R1) _ (fun j _ _ => hl j) (by rw [h1, h2, List.append_assoc]) ?_
        exact ⟨fun _ => rfl, fun h => by simp at h⟩
      generalize app puT s t 0 (app puI m r 0 (app puU l p 0 [])) = Z at *
      have hw1 : IntKind.wrap .i64 ((Z.length : Int) + 1) = (Z.length : Int) + 1 := w64 (by omega)
      have hkk : ∃ k : Nat, k ≤ Z.length ∧ Int.tmod (IntKind.wrap .i64 c) (IntKind.wrap .i64 ((Z.length : Int) + 1)) = (k : Int) := by
        obtain ⟨d, rfl⟩ : ∃ d : Nat, c = d := ⟨c.toNat, by omega⟩
        refine ⟨d % (Z.length + 1), by have := Nat.mod_lt d (show 0 < Z.length + 1 by omega); omega, ?_⟩
        rw [hw1, w64 (by omega)]
        exact tmodN d (Z.length + 1)
      obtain ⟨k, hk, hkc⟩ := hkk
      have k1 := okAll Z.length (Nat.le_refl _)
      have k2 := okAll k hk
      have f1 := k1.1 (Nat.le_refl _)
      have r1 := cRead (p := p) (l := l) (r := r) (m := m) (t := t) (s := s) (lb_ok b3 Z.length) (show wl Z.length by unfold wl; omega) (show wl p by unfold wl; omega) (show wl r by unfold wl; omega) (show wl t by unfold wl; omega)
      have r2 := cRead (p := p) (l := l) (r := r) (m := m) (t := t) (s := s) (lb_ok b3 k) (show wl k by unfold wl; omega) (show wl p by unfold wl; omega) (show wl r by unfold wl; omega) (show wl t by unfold wl; omega)
      refine treeIn_i hP (bkT_t p l r m t s c (app puU l p 0 []) (app puI m r 0 (app puU l p 0 [])) Z (rdAll p l r m t s) (by omega) (by omega) (by omega)) ?_
      simp only [Sc.Ok, hkc, Int.toNat_natCast, Nat.sub_zero, Nat.add_zero, Int.toNat_zero]
      have hl0 : lft Z.length (Z.length : Int) 0 = 0 := by unfold lft; rw [if_pos (rt_iff.2 ⟨rfl, by omega, by omega⟩)]; omega
      have qL := cLeft (n := Z.length) (f := Ls Z) (a := (Z.length : Int)) (e := 0) (by unfold wl; omega)
      rw [f1] at r1 ⊢
      refine ⟨cAw, by simp; omega, by simp; omega, by simp; omega, q1', q2, q3, r1, fun h => ?_, fun _ => ⟨fun h => ?_, fun _ => ⟨qL, fun h => ?_, fun _ => ⟨by rw [hw1]; omega, by omega, r2, ar (congrArg B ?_)⟩⟩⟩⟩
      · simp at h
      · simp at h
      · simp [hl0] at h
      · have key : ((rdAll p l r m t s k (Ls Z)).2.1 == 10) = decide ((k : Int) < (Z.length : Int)) := by
          by_cases hlt : k < Z.length
          · rw [k2.2 hlt, decide_eq_true (by omega)]; rfl
          · rw [k2.1 (by omega), decide_eq_false (by omega)]; rfl
        rw [beq_iff_eq]
        exact key
    · have hs' : ∃ j, 0 ≤ j ∧ j < t ∧ 200 < (s j).size := by
        apply Classical.byContradiction
        intro h
        exact hs fun j hj => by
          apply Classical.byContradiction
          intro h2
          exact h ⟨j, by omega, hj, by omega⟩
      obtain ⟨Z, j, q3⟩ := bkLoop3l (p := p) (r := r) (t := t) (l := l) (m := m) (s := s) (c := c) ht t 0 (app puI m r 0 (app puU l p 0 [])) (by omega) (by omega) b2 hs'
      refine treeIn_i hP (bkTl_t p l r m t s c (app puU l p 0 []) (app puI m r 0 (app puU l p 0 [])) Z j) ?_
      simp only [Sc.Ok]
      exact ⟨cAw, fun _ => trivial, fun _ => ⟨fun _ => trivial, fun _ => ⟨fun _ => trivial, fun _ => ⟨q1', q2, q3, trivial⟩⟩⟩⟩
  · refine treeIn_i hP (bkTl_t p l r m t s c [] [] [] 0) ?_
    simp only [Sc.Ok]
    refine ⟨cAw, fun _ => trivial, fun h1 => ⟨fun _ => trivial, fun h2 => ⟨fun _ => trivial, fun h3 => ?_⟩⟩⟩
    simp at h1 h2 h3
    omega
end
theorem rowBack (p : Nat) (l : Nat → Int) (r : Nat) (m : Nat → Int) (t : Nat) (s : Nat → ByteArray) (c : Int) (h1 : ∀ i, 0 ≤ l i ∧ l i ≤ 18446744073709551615) (h2 : ∀ i, -9223372036854775808 ≤ m i ∧ m i ≤ 9223372036854775807) (h3 : 0 ≤ c ∧ c ≤ 65535) :
    CallIn Try.prog 12 [Sh.av (.sl (.int .u64)) (p, l), Sh.av (.sl (.int .i64)) (r, m), Sh.av (.sl .str) (t, s), Sh.av (.int .u16) c] [] ⟨.ret, [B true], []⟩ :=
  lawBack h1 h2 h3
end Wire
end Go.Fx
