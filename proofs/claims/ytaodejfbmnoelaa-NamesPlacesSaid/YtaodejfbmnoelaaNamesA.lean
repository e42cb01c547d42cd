/- Lists of names: what the functions of names answer. -/
import Derived.Test.YtaodejfbmnoelaaFxB
import Derived.Test.YtaodejfbmnoelaaChecked
set_option maxRecDepth 100000
set_option maxHeartbeats 4000000
set_option linter.unusedVariables false
set_option linter.unusedSimpArgs false
namespace Go.Fx
open Go.Proofs
theorem hP : progOk Try.prog = true := by kernel_rfl
namespace Names
def CK : Cfg := ⟨fun _ => false, fun f => [52].any (Nat.beq f), keepTab [(3, 7, [0, 1, 2, 7, 8]), (5, 8, [0, 5, 6, 7]), (7, 8, [1, 2, 4, 5, 6, 7]), (10, 7, [0, 2, 3, 4]), (12, 6, [0, 3, 4]), (14, 10, [0, 5, 7, 8, 9, 10]), (22, 5, [3, 6, 7, 8]), (32, 4, [0, 2, 3]), (35, 6, [2, 3, 10, 11, 12]), (36, 4, [0, 2, 3]), (38, 4, [0, 1, 4, 5]), (39, 5, [0, 1, 4, 5]), (42, 5, [2, 3, 7, 8]), (43, 5, [1, 3, 11, 12, 13]), (45, 5, [1, 5, 6]), (46, 5, [0, 1, 5]), (46, 15, [0, 1, 2, 3, 5, 10]), (47, 5, [0, 3, 4]), (47, 12, [0, 3, 4, 5]), (54, 4, [0, 1, 4, 7, 8]), (57, 5, [0, 1, 4, 12, 13])], fun _ _ => []⟩
abbrev Ss (s : Nat → ByteArray) : Nat → List PV := fun i => [.v (.string (s i))]
def strC : List PV → ByteArray
  | [.v (.string s)] => s
  | _ => ByteArray.empty
/-- A list of texts. -/
def slS : AV → Option (Nat × (Nat → ByteArray))
  | .c (.p (.sl n f)) => some (n, fun i => strC (f i))
  | .c .nils => some (0, fun _ => ByteArray.empty)
  | _ => none
def strV : AV → Option ByteArray
  | .c (.p (.v (.string s))) => some s
  | _ => none
def intV : AV → Option Int
  | .c (.p (.v (.int _ x))) => some x
  | _ => none
def nmd (s : ByteArray) : Bool := decide (1 ≤ s.size ∧ s.size ≤ 24)
/-- The first place, from i on, k of them; 0: none. -/
def plc (s : Nat → ByteArray) (x : ByteArray) : Nat → Nat → Nat
  | 0, _ => 0
  | k + 1, i => match s i == x with
    | true => i + 1
    | false => plc s x k (i + 1)
def rgt (s : Nat → ByteArray) : Nat → Nat → Bool
  | 0, _ => true
  | k + 1, i => nmd (s i) && Nat.beq (plc s (s i) i 0) 0 && rgt s k (i + 1)
def right (n : Nat) (s : Nat → ByteArray) : Bool := decide (n ≤ 32) && rgt s n 0
def ptE (n : Nat) (s : Nat → ByteArray) (x : ByteArray) : Nat := if right n s = false then 1 else if nmd x = false then 3 else if 0 < plc s x n 0 then 7 else if n = 32 then 9 else 0
def ptN (n : Nat) (s : Nat → ByteArray) (x : ByteArray) : Nat := if ptE n s x = 0 then n + 1 else n
def ptF (n : Nat) (s : Nat → ByteArray) (x : ByteArray) : Nat → ByteArray := fun i => if i < n then s i else x
def shortN (n : Nat) (s : Nat → ByteArray) : Bool := decide (n ≤ 60 ∧ ∀ i, i < n → (s i).size ≤ 100)
def sameS (n m : Nat) (s u : Nat → ByteArray) : Bool := decide (n = m ∧ ∀ i, i < n → s i = u i)
def rV (x : AV) : Option Sa := some (.one ⟨.ret, [x], []⟩)
abbrev rowS (n : Nat) (s : Nat → ByteArray) : Ob := .row 9 n (Ss s) true
/-- What the functions of names answer. -/
def nmS (aw : Nat) : Qry → Option Sa := fun q => match q with
  | .call f args _ => match args with
    | [] => match Nat.beq f aw with
      | true => rV (B true)
      | false => none
    | [x] => match slS x with
      | some (n, s) => match Nat.beq f 32 with
        | true => rV (B (shortN n s))
        | false => match Nat.beq f 35 || Nat.beq f 36 with
          | true => rV (B (right n s))
          | false => match Nat.beq f 52 with
            | true => some (.one ⟨.ret, [.c (.os 0)], [rowS n s]⟩)
            | false => none
      | none => match strV x with
        | some s => match Nat.beq f 51 || Nat.beq f 53 with
          | true => rV (B (nmd s))
          | false => none
        | none => none
    | [x, y] => match slS x with
      | some (n, s) => match strV y with
        | some t => match Nat.beq f 33 || Nat.beq f 34 with
          | true => rV (.tup [Sl (ptN n s t) (Ss (ptF n s t)), I (ptE n s t)])
          | false => match Nat.beq f 37 || Nat.beq f 38 with
            | true => rV (I (plc s t n 0))
            | false => match Nat.beq f 54 with
              | true => rV (I ((plc s t n 0 : Int) - 1))
              | false => none
        | none => match slS y with
          | some (m, u) => match Nat.beq f 39 with
            | true => rV (B (sameS n m s u))
            | false => none
          | none => match intV y with
            | some p => match Nat.beq f 40 with
              | true => some (.br (decide (p < 1 ∨ (n : Int) < p)) (.one ⟨.ret, [.tup [Str ByteArray.empty, I 14]], []⟩) (.one ⟨.ret, [.tup [Str (s (p - 1).toNat), I 0]], []⟩))
              | false => none
            | none => none
      | none => none
    | _ => none
  | _ => none
/-- A loop, too. -/
def SLq (f0 : Nat) (q : Bool) (a b : List AV → Hp → Option Ans) (S : Qry → Option Sa) : Qry → Option Sa := fun r => match r with
  | .loop f _ _ vals h => match Nat.beq f f0 with
    | true => match a vals h, b vals h with
      | some x, some y => some (.br q (.one x) (.one y))
      | _, _ => none
    | false => none
  | r => S r
def SLo (f0 : Nat) (a : List AV → Hp → Option Ans) (S : Qry → Option Sa) : Qry → Option Sa := fun r => match r with
  | .loop f _ _ vals h => match Nat.beq f f0 with
    | true => match a vals h with
      | some x => some (.one x)
      | none => none
    | false => none
  | r => S r

attribute [local irreducible] QOk
theorem cloneS0_t (s : Nat → ByteArray)  : fol CK Try.prog (spec [] []) (An.l (An.g (An.l An.e) (An.l (An.d An.e)))) (T.evQ CK Try.prog (.call 52 [Sl 0 (Ss s)] []) .done) = Sc.both (Sc.done (Ans.mk Ex.ret [AV.c CV.nils] [])) (Sc.done (Ans.mk Ex.ret [AV.c (CV.os (0 : Nat))] [Ob.row (9 : Nat) (0 : Nat) (fun i => [PV.v (Value.string (s (i - (0 : Nat))))]) true])) := by kernel_rfl
theorem cloneS1_t (n : Nat)  (s : Nat → ByteArray)  : fol CK Try.prog (spec [] []) (An.l (An.l (An.c An.e))) (T.evQ CK Try.prog (.call 52 [Sl (n + 1) (Ss s)] []) .done) = Sc.chk (((0 : Nat) + (n + (1 : Nat))) * (16 : Nat) ≤ (140737488355328 : Nat) ∧ (0 : Nat) + (n + (1 : Nat)) ≤ (9223372036854775807 : Nat)) (Sc.done (Ans.mk Ex.ret [AV.c (CV.os (0 : Nat))] [Ob.row (9 : Nat) ((0 : Nat) + (n + (1 : Nat))) (fun i => [PV.v (Value.string (s (i - (0 : Nat))))]) true])) := by kernel_rfl
theorem named51_t (x : ByteArray)  : fol CK Try.prog (spec [] []) (An.b (An.l (An.l (An.l An.e))) (An.l (An.l (An.l An.e)))) (T.evQ CK Try.prog (.call 51 [Str x] []) .done) = Sc.br (decide ((↑(ByteArray.size x) : Int) ≥ (1 : Int))) (Sc.done (Ans.mk Ex.ret [AV.c (CV.p (PV.v (Value.bool (decide ((↑(ByteArray.size x) : Int) ≤ (24 : Int))))))] [])) (Sc.done (Ans.mk Ex.ret [AV.c (CV.p (PV.v (Value.bool false)))] [])) := by kernel_rfl
theorem named53_t (x : ByteArray)  : fol CK Try.prog (spec [] []) (An.b (An.l (An.l (An.l An.e))) (An.l (An.l (An.l An.e)))) (T.evQ CK Try.prog (.call 53 [Str x] []) .done) = Sc.br (decide ((↑(ByteArray.size x) : Int) > (0 : Int))) (Sc.done (Ans.mk Ex.ret [AV.c (CV.p (PV.v (Value.bool (decide ((↑(ByteArray.size x) : Int) < (25 : Int))))))] [])) (Sc.done (Ans.mk Ex.ret [AV.c (CV.p (PV.v (Value.bool false)))] [])) := by kernel_rfl
theorem indexT_t (n : Nat)  (s : Nat → ByteArray)  (x : ByteArray)  (q : Bool)  (r : Nat)  : fol CK Try.prog (SLq 54 q (fun vals h => match vals with | [a, b, _, d, _] => some ⟨.ret, [a, b, I r, d, I r], h⟩ | _ => none) (fun vals h => match vals with | [a, b, c, d, _] => some ⟨.exit 0, [a, b, c, d, d], h⟩ | _ => none) (nmS 1000000)) (An.a (An.b An.e An.e)) (T.evQ CK Try.prog (.call 54 [Sl n (Ss s), Str x] []) .done) = Sc.ask (Qry.loop (54 : Nat) (0 : Nat) [(1 : Nat), (0 : Nat), (1 : Nat), (0 : Nat)] [AV.c (CV.p (PV.sl n fun i => [PV.v (Value.string (s i))])), AV.c (CV.p (PV.v (Value.string x))), AV.c (CV.p (PV.v (Value.int IntKind.i64 (0 : Int)))), AV.c (CV.p (PV.v (Value.int IntKind.i64 (↑n : Int)))), AV.c (CV.p (PV.v (Value.int IntKind.i64 (0 : Int))))] []) (bif q then Ans.mk Ex.ret [AV.c (CV.p (PV.sl n fun i => [PV.v (Value.string (s i))])), AV.c (CV.p (PV.v (Value.string x))), AV.c (CV.p (PV.v (Value.int IntKind.i64 (↑r : Int)))), AV.c (CV.p (PV.v (Value.int IntKind.i64 (↑n : Int)))), AV.c (CV.p (PV.v (Value.int IntKind.i64 (↑r : Int))))] [] else Ans.mk (Ex.exit (0 : Nat)) [AV.c (CV.p (PV.sl n fun i => [PV.v (Value.string (s i))])), AV.c (CV.p (PV.v (Value.string x))), AV.c (CV.p (PV.v (Value.int IntKind.i64 (0 : Int)))), AV.c (CV.p (PV.v (Value.int IntKind.i64 (↑n : Int)))), AV.c (CV.p (PV.v (Value.int IntKind.i64 (↑n : Int))))] []) (Sc.br q (Sc.done (Ans.mk Ex.ret [AV.c (CV.p (PV.v (Value.int IntKind.i64 (↑r : Int))))] [])) (Sc.done (Ans.mk Ex.ret [AV.c (CV.p (PV.v (Value.int IntKind.i64 (-1 : Int))))] []))) := by kernel_rfl
theorem indexR_t (n : Nat)  (s : Nat → ByteArray)  (x : ByteArray)  (i : Nat)  (q : Bool)  (r : Nat)  : fol CK Try.prog (SLq 54 q (fun vals h => match vals with | [a, b, _, d, _] => some ⟨.ret, [a, b, I r, d, I r], h⟩ | _ => none) (fun vals h => match vals with | [a, b, c, d, _] => some ⟨.exit 0, [a, b, c, d, d], h⟩ | _ => none) (nmS 1000000)) (An.b (An.c (An.b An.e (An.a (An.b An.e An.e)))) An.e) (T.evQ CK Try.prog (.loop 54 0 [1, 0, 1, 0] [Sl n (Ss s), Str x, I 0, I n, I i] []) .done) = Sc.br (decide ((↑i : Int) < (↑n : Int))) (Sc.chk ((0 : Int) ≤ (↑i : Int) ∧ (↑i : Int) < (↑n : Int)) (Sc.br (ByteArray.toList x == ByteArray.toList (s (Int.toNat (↑i : Int)))) (Sc.done (Ans.mk Ex.ret [AV.c (CV.p (PV.sl n fun i => [PV.v (Value.string (s i))])), AV.c (CV.p (PV.v (Value.string x))), AV.c (CV.p (PV.v (Value.int IntKind.i64 (↑i : Int)))), AV.c (CV.p (PV.v (Value.int IntKind.i64 (↑n : Int)))), AV.c (CV.p (PV.v (Value.int IntKind.i64 (↑i : Int))))] [])) (Sc.ask (Qry.loop (54 : Nat) (0 : Nat) [(1 : Nat), (0 : Nat), (1 : Nat), (0 : Nat)] [AV.c (CV.p (PV.sl n fun i => [PV.v (Value.string (s i))])), AV.c (CV.p (PV.v (Value.string x))), AV.c (CV.p (PV.v (Value.int IntKind.i64 (0 : Int)))), AV.c (CV.p (PV.v (Value.int IntKind.i64 (↑n : Int)))), AV.c (CV.p (PV.v (Value.int IntKind.i64 (IntKind.wrap IntKind.i64 ((↑i : Int) + (1 : Int))))))] []) (bif q then Ans.mk Ex.ret [AV.c (CV.p (PV.sl n fun i => [PV.v (Value.string (s i))])), AV.c (CV.p (PV.v (Value.string x))), AV.c (CV.p (PV.v (Value.int IntKind.i64 (↑r : Int)))), AV.c (CV.p (PV.v (Value.int IntKind.i64 (↑n : Int)))), AV.c (CV.p (PV.v (Value.int IntKind.i64 (↑r : Int))))] [] else Ans.mk (Ex.exit (0 : Nat)) [AV.c (CV.p (PV.sl n fun i => [PV.v (Value.string (s i))])), AV.c (CV.p (PV.v (Value.string x))), AV.c (CV.p (PV.v (Value.int IntKind.i64 (0 : Int)))), AV.c (CV.p (PV.v (Value.int IntKind.i64 (↑n : Int)))), AV.c (CV.p (PV.v (Value.int IntKind.i64 (↑n : Int))))] []) (Sc.br q (Sc.done (Ans.mk Ex.ret [AV.c (CV.p (PV.sl n fun i => [PV.v (Value.string (s i))])), AV.c (CV.p (PV.v (Value.string x))), AV.c (CV.p (PV.v (Value.int IntKind.i64 (↑r : Int)))), AV.c (CV.p (PV.v (Value.int IntKind.i64 (↑n : Int)))), AV.c (CV.p (PV.v (Value.int IntKind.i64 (↑r : Int))))] [])) (Sc.done (Ans.mk (Ex.exit (0 : Nat)) [AV.c (CV.p (PV.sl n fun i => [PV.v (Value.string (s i))])), AV.c (CV.p (PV.v (Value.string x))), AV.c (CV.p (PV.v (Value.int IntKind.i64 (0 : Int)))), AV.c (CV.p (PV.v (Value.int IntKind.i64 (↑n : Int)))), AV.c (CV.p (PV.v (Value.int IntKind.i64 (↑n : Int))))] [])))))) (Sc.done (Ans.mk (Ex.exit (0 : Nat)) [AV.c (CV.p (PV.sl n fun i => [PV.v (Value.string (s i))])), AV.c (CV.p (PV.v (Value.string x))), AV.c (CV.p (PV.v (Value.int IntKind.i64 (0 : Int)))), AV.c (CV.p (PV.v (Value.int IntKind.i64 (↑n : Int)))), AV.c (CV.p (PV.v (Value.int IntKind.i64 (↑i : Int))))] [])) := by kernel_rfl
theorem placeT_t (n : Nat)  (s : Nat → ByteArray)  (x : ByteArray)  : fol CK Try.prog (nmS 1000000) (An.a An.e) (T.evQ CK Try.prog (.call 37 [Sl n (Ss s), Str x] []) .done) = Sc.ask (Qry.call (54 : Nat) [AV.c (CV.p (PV.sl n fun i => [PV.v (Value.string (s i))])), AV.c (CV.p (PV.v (Value.string x)))] []) (Ans.mk Ex.ret [AV.c (CV.p (PV.v (Value.int IntKind.i64 ((↑(plc (fun i => strC [PV.v (Value.string (s i))]) x n (0 : Nat)) : Int) - (1 : Int)))))] []) (Sc.done (Ans.mk Ex.ret [AV.c (CV.p (PV.v (Value.int IntKind.i64 (IntKind.wrap IntKind.i64 ((↑(plc (fun i => strC [PV.v (Value.string (s i))]) x n (0 : Nat)) : Int) - (1 : Int) + (1 : Int))))))] [])) := by kernel_rfl
theorem rplaceT_t (n : Nat)  (s : Nat → ByteArray)  (x : ByteArray)  (q : Bool)  (r : Nat)  : fol CK Try.prog (SLq 38 q (fun vals h => match vals with | [a, b, _, _] => some ⟨.ret, [a, b, I (r + 1), I r], h⟩ | _ => none) (fun vals h => match vals with | [a, b, c, _] => some ⟨.exit 0, [a, b, c, I n], h⟩ | _ => none) (nmS 1000000)) (An.a (An.b An.e An.e)) (T.evQ CK Try.prog (.call 38 [Sl n (Ss s), Str x] []) .done) = Sc.ask (Qry.loop (38 : Nat) (0 : Nat) [(1 : Nat), (0 : Nat), (1 : Nat), (0 : Nat)] [AV.c (CV.p (PV.sl n fun i => [PV.v (Value.string (s i))])), AV.c (CV.p (PV.v (Value.string x))), AV.c (CV.p (PV.v (Value.int IntKind.i64 (0 : Int)))), AV.c (CV.p (PV.v (Value.int IntKind.i64 (0 : Int))))] []) (bif q then Ans.mk Ex.ret [AV.c (CV.p (PV.sl n fun i => [PV.v (Value.string (s i))])), AV.c (CV.p (PV.v (Value.string x))), AV.c (CV.p (PV.v (Value.int IntKind.i64 ((↑r : Int) + (1 : Int))))), AV.c (CV.p (PV.v (Value.int IntKind.i64 (↑r : Int))))] [] else Ans.mk (Ex.exit (0 : Nat)) [AV.c (CV.p (PV.sl n fun i => [PV.v (Value.string (s i))])), AV.c (CV.p (PV.v (Value.string x))), AV.c (CV.p (PV.v (Value.int IntKind.i64 (0 : Int)))), AV.c (CV.p (PV.v (Value.int IntKind.i64 (↑n : Int))))] []) (Sc.br q (Sc.done (Ans.mk Ex.ret [AV.c (CV.p (PV.v (Value.int IntKind.i64 ((↑r : Int) + (1 : Int)))))] [])) (Sc.done (Ans.mk Ex.ret [AV.c (CV.p (PV.v (Value.int IntKind.i64 (0 : Int))))] []))) := by kernel_rfl
theorem rplaceR_t (n : Nat)  (s : Nat → ByteArray)  (x : ByteArray)  (i : Nat)  (q : Bool)  (r : Nat)  : fol CK Try.prog (SLq 38 q (fun vals h => match vals with | [a, b, _, _] => some ⟨.ret, [a, b, I (r + 1), I r], h⟩ | _ => none) (fun vals h => match vals with | [a, b, c, _] => some ⟨.exit 0, [a, b, c, I n], h⟩ | _ => none) (nmS 1000000)) (An.b (An.c (An.b An.e (An.a (An.b An.e An.e)))) An.e) (T.evQ CK Try.prog (.loop 38 0 [1, 0, 1, 0] [Sl n (Ss s), Str x, I 0, I i] []) .done) = Sc.br (decide ((↑i : Int) < (↑n : Int))) (Sc.chk ((0 : Int) ≤ (↑i : Int) ∧ (↑i : Int) < (↑n : Int)) (Sc.br (ByteArray.toList (s (Int.toNat (↑i : Int))) == ByteArray.toList x) (Sc.done (Ans.mk Ex.ret [AV.c (CV.p (PV.sl n fun i => [PV.v (Value.string (s i))])), AV.c (CV.p (PV.v (Value.string x))), AV.c (CV.p (PV.v (Value.int IntKind.i64 (IntKind.wrap IntKind.i64 ((↑i : Int) + (1 : Int)))))), AV.c (CV.p (PV.v (Value.int IntKind.i64 (↑i : Int))))] [])) (Sc.ask (Qry.loop (38 : Nat) (0 : Nat) [(1 : Nat), (0 : Nat), (1 : Nat), (0 : Nat)] [AV.c (CV.p (PV.sl n fun i => [PV.v (Value.string (s i))])), AV.c (CV.p (PV.v (Value.string x))), AV.c (CV.p (PV.v (Value.int IntKind.i64 (0 : Int)))), AV.c (CV.p (PV.v (Value.int IntKind.i64 (IntKind.wrap IntKind.i64 ((↑i : Int) + (1 : Int))))))] []) (bif q then Ans.mk Ex.ret [AV.c (CV.p (PV.sl n fun i => [PV.v (Value.string (s i))])), AV.c (CV.p (PV.v (Value.string x))), AV.c (CV.p (PV.v (Value.int IntKind.i64 ((↑r : Int) + (1 : Int))))), AV.c (CV.p (PV.v (Value.int IntKind.i64 (↑r : Int))))] [] else Ans.mk (Ex.exit (0 : Nat)) [AV.c (CV.p (PV.sl n fun i => [PV.v (Value.string (s i))])), AV.c (CV.p (PV.v (Value.string x))), AV.c (CV.p (PV.v (Value.int IntKind.i64 (0 : Int)))), AV.c (CV.p (PV.v (Value.int IntKind.i64 (↑n : Int))))] []) (Sc.br q (Sc.done (Ans.mk Ex.ret [AV.c (CV.p (PV.sl n fun i => [PV.v (Value.string (s i))])), AV.c (CV.p (PV.v (Value.string x))), AV.c (CV.p (PV.v (Value.int IntKind.i64 ((↑r : Int) + (1 : Int))))), AV.c (CV.p (PV.v (Value.int IntKind.i64 (↑r : Int))))] [])) (Sc.done (Ans.mk (Ex.exit (0 : Nat)) [AV.c (CV.p (PV.sl n fun i => [PV.v (Value.string (s i))])), AV.c (CV.p (PV.v (Value.string x))), AV.c (CV.p (PV.v (Value.int IntKind.i64 (0 : Int)))), AV.c (CV.p (PV.v (Value.int IntKind.i64 (↑n : Int))))] [])))))) (Sc.done (Ans.mk (Ex.exit (0 : Nat)) [AV.c (CV.p (PV.sl n fun i => [PV.v (Value.string (s i))])), AV.c (CV.p (PV.v (Value.string x))), AV.c (CV.p (PV.v (Value.int IntKind.i64 (0 : Int)))), AV.c (CV.p (PV.v (Value.int IntKind.i64 (↑i : Int))))] [])) := by kernel_rfl
theorem rightT_t (n : Nat)  (s : Nat → ByteArray)  (q : Bool)  (g : ByteArray → Int)  (m j : Nat)  : fol CK Try.prog (SLq 35 q (fun vals h => match vals, h with | [a, b, c, d, _], [.smap t _ _] => some ⟨.exit 0, [a, b, c, d, d], [.smap t g m]⟩ | _, _ => none) (fun vals h => match vals, h with | [a, b, c, d, _], [.smap t _ _] => some ⟨.ret, [B false, b, c, d, I j], [.smap t g m]⟩ | _, _ => none) (nmS 1000000)) (An.b An.e (An.a (An.b An.e An.e))) (T.evQ CK Try.prog (.call 35 [Sl n (Ss s)] []) .done) = Sc.br (decide ((↑n : Int) > (32 : Int))) (Sc.done (Ans.mk Ex.ret [AV.c (CV.p (PV.v (Value.bool false)))] [])) (Sc.ask (Qry.loop (35 : Nat) (0 : Nat) [(1 : Nat), (1 : Nat), (1 : Nat), (0 : Nat), (1 : Nat), (0 : Nat)] [AV.c (CV.p (PV.v (Value.bool false))), AV.c (CV.mp (0 : Nat)), AV.c (CV.p (PV.sl n fun i => [PV.v (Value.string (s i))])), AV.c (CV.p (PV.v (Value.int IntKind.i64 (↑n : Int)))), AV.c (CV.p (PV.v (Value.int IntKind.i64 (0 : Int))))] [Ob.smap (74 : Nat) (fun x => (0 : Int)) (0 : Nat)]) (bif q then Ans.mk (Ex.exit (0 : Nat)) [AV.c (CV.p (PV.v (Value.bool false))), AV.c (CV.mp (0 : Nat)), AV.c (CV.p (PV.sl n fun i => [PV.v (Value.string (s i))])), AV.c (CV.p (PV.v (Value.int IntKind.i64 (↑n : Int)))), AV.c (CV.p (PV.v (Value.int IntKind.i64 (↑n : Int))))] [Ob.smap (74 : Nat) g m] else Ans.mk Ex.ret [AV.c (CV.p (PV.v (Value.bool false))), AV.c (CV.mp (0 : Nat)), AV.c (CV.p (PV.sl n fun i => [PV.v (Value.string (s i))])), AV.c (CV.p (PV.v (Value.int IntKind.i64 (↑n : Int)))), AV.c (CV.p (PV.v (Value.int IntKind.i64 (↑j : Int))))] [Ob.smap (74 : Nat) g m]) (Sc.br q (Sc.done (Ans.mk Ex.ret [AV.c (CV.p (PV.v (Value.bool true)))] [])) (Sc.done (Ans.mk Ex.ret [AV.c (CV.p (PV.v (Value.bool false)))] [])))) := by kernel_rfl
theorem rightR_t (n : Nat)  (s : Nat → ByteArray)  (e : ByteArray → Int)  (i : Nat)  (q : Bool)  (g : ByteArray → Int)  (m j : Nat)  : fol CK Try.prog (SLq 35 q (fun vals h => match vals, h with | [a, b, c, d, _], [.smap t _ _] => some ⟨.exit 0, [a, b, c, d, d], [.smap t g m]⟩ | _, _ => none) (fun vals h => match vals, h with | [a, b, c, d, _], [.smap t _ _] => some ⟨.ret, [B false, b, c, d, I j], [.smap t g m]⟩ | _, _ => none) (nmS 1000000)) (An.b (An.c (An.c (An.b (An.l (An.l (An.l (An.l An.e)))) (An.l (An.a (An.l (An.l (An.b An.e (An.c (An.a (An.b An.e An.e))))))))))) An.e) (T.evQ CK Try.prog (.loop 35 0 [1, 1, 1, 0, 1, 0] [B false, .c (.mp 0), Sl n (Ss s), I n, I i] [.smap 74 e i]) .done) = Sc.br (decide ((↑i : Int) < (↑n : Int))) (Sc.chk ((0 : Int) ≤ (↑i : Int) ∧ (↑i : Int) < (↑n : Int)) (Sc.chk (ByteArray.size (s (Int.toNat (↑i : Int))) ≤ (9223372036854775807 : Nat)) (Sc.br (decide (e (s (Int.toNat (↑i : Int))) > (0 : Int))) (Sc.done (Ans.mk Ex.ret [AV.c (CV.p (PV.v (Value.bool false))), AV.c (CV.mp (0 : Nat)), AV.c (CV.p (PV.sl n fun i => [PV.v (Value.string (s i))])), AV.c (CV.p (PV.v (Value.int IntKind.i64 (↑n : Int)))), AV.c (CV.p (PV.v (Value.int IntKind.i64 (↑i : Int))))] [Ob.smap (74 : Nat) e i])) (Sc.ask (Qry.call (51 : Nat) [AV.c (CV.p (PV.v (Value.string (s (Int.toNat (↑i : Int))))))] []) (Ans.mk Ex.ret [AV.c (CV.p (PV.v (Value.bool (nmd (s (Int.toNat (↑i : Int)))))))] []) (Sc.br (!nmd (s (Int.toNat (↑i : Int)))) (Sc.done (Ans.mk Ex.ret [AV.c (CV.p (PV.v (Value.bool false))), AV.c (CV.mp (0 : Nat)), AV.c (CV.p (PV.sl n fun i => [PV.v (Value.string (s i))])), AV.c (CV.p (PV.v (Value.int IntKind.i64 (↑n : Int)))), AV.c (CV.p (PV.v (Value.int IntKind.i64 (↑i : Int))))] [Ob.smap (74 : Nat) e i])) (Sc.chk (ByteArray.size (s (Int.toNat (↑i : Int))) ≤ (9223372036854775807 : Nat) ∧ i < (9223372036854775807 : Nat) ∧ (-9223372036854775808 : Int) ≤ IntKind.wrap IntKind.i64 ((↑i : Int) + (1 : Int)) ∧ IntKind.wrap IntKind.i64 ((↑i : Int) + (1 : Int)) ≤ (9223372036854775807 : Int)) (Sc.ask (Qry.loop (35 : Nat) (0 : Nat) [(1 : Nat), (1 : Nat), (1 : Nat), (0 : Nat), (1 : Nat), (0 : Nat)] [AV.c (CV.p (PV.v (Value.bool false))), AV.c (CV.mp (0 : Nat)), AV.c (CV.p (PV.sl n fun i => [PV.v (Value.string (s i))])), AV.c (CV.p (PV.v (Value.int IntKind.i64 (↑n : Int)))), AV.c (CV.p (PV.v (Value.int IntKind.i64 (IntKind.wrap IntKind.i64 ((↑i : Int) + (1 : Int))))))] [Ob.smap (74 : Nat) (fun s' => match s' == s (Int.toNat (↑i : Int)) with | true => IntKind.wrap IntKind.i64 ((↑i : Int) + (1 : Int)) | false => e s') (i + (1 : Nat))]) (bif q then Ans.mk (Ex.exit (0 : Nat)) [AV.c (CV.p (PV.v (Value.bool false))), AV.c (CV.mp (0 : Nat)), AV.c (CV.p (PV.sl n fun i => [PV.v (Value.string (s i))])), AV.c (CV.p (PV.v (Value.int IntKind.i64 (↑n : Int)))), AV.c (CV.p (PV.v (Value.int IntKind.i64 (↑n : Int))))] [Ob.smap (74 : Nat) g m] else Ans.mk Ex.ret [AV.c (CV.p (PV.v (Value.bool false))), AV.c (CV.mp (0 : Nat)), AV.c (CV.p (PV.sl n fun i => [PV.v (Value.string (s i))])), AV.c (CV.p (PV.v (Value.int IntKind.i64 (↑n : Int)))), AV.c (CV.p (PV.v (Value.int IntKind.i64 (↑j : Int))))] [Ob.smap (74 : Nat) g m]) (Sc.br q (Sc.done (Ans.mk (Ex.exit (0 : Nat)) [AV.c (CV.p (PV.v (Value.bool false))), AV.c (CV.mp (0 : Nat)), AV.c (CV.p (PV.sl n fun i => [PV.v (Value.string (s i))])), AV.c (CV.p (PV.v (Value.int IntKind.i64 (↑n : Int)))), AV.c (CV.p (PV.v (Value.int IntKind.i64 (↑n : Int))))] [Ob.smap (74 : Nat) g m])) (Sc.done (Ans.mk Ex.ret [AV.c (CV.p (PV.v (Value.bool false))), AV.c (CV.mp (0 : Nat)), AV.c (CV.p (PV.sl n fun i => [PV.v (Value.string (s i))])), AV.c (CV.p (PV.v (Value.int IntKind.i64 (↑n : Int)))), AV.c (CV.p (PV.v (Value.int IntKind.i64 (↑j : Int))))] [Ob.smap (74 : Nat) g m])))))))))) (Sc.done (Ans.mk (Ex.exit (0 : Nat)) [AV.c (CV.p (PV.v (Value.bool false))), AV.c (CV.mp (0 : Nat)), AV.c (CV.p (PV.sl n fun i => [PV.v (Value.string (s i))])), AV.c (CV.p (PV.v (Value.int IntKind.i64 (↑n : Int)))), AV.c (CV.p (PV.v (Value.int IntKind.i64 (↑i : Int))))] [Ob.smap (74 : Nat) e i])) := by kernel_rfl
theorem rrightT_t (n : Nat)  (s : Nat → ByteArray)  (q : Bool)  (j : Nat)  : fol CK Try.prog (SLq 36 q (fun vals h => match vals with | [a, b, _] => some ⟨.exit 0, [a, b, I n], h⟩ | _ => none) (fun vals h => match vals with | [a, _, _] => some ⟨.ret, [a, B false, I j], h⟩ | _ => none) (nmS 1000000)) (An.a (An.b An.e An.e)) (T.evQ CK Try.prog (.call 36 [Sl n (Ss s)] []) .done) = Sc.ask (Qry.loop (36 : Nat) (0 : Nat) [(1 : Nat), (0 : Nat), (1 : Nat), (0 : Nat)] [AV.c (CV.p (PV.sl n fun i => [PV.v (Value.string (s i))])), AV.c (CV.p (PV.v (Value.bool false))), AV.c (CV.p (PV.v (Value.int IntKind.i64 (0 : Int))))] []) (bif q then Ans.mk (Ex.exit (0 : Nat)) [AV.c (CV.p (PV.sl n fun i => [PV.v (Value.string (s i))])), AV.c (CV.p (PV.v (Value.bool false))), AV.c (CV.p (PV.v (Value.int IntKind.i64 (↑n : Int))))] [] else Ans.mk Ex.ret [AV.c (CV.p (PV.sl n fun i => [PV.v (Value.string (s i))])), AV.c (CV.p (PV.v (Value.bool false))), AV.c (CV.p (PV.v (Value.int IntKind.i64 (↑j : Int))))] []) (Sc.br q (Sc.done (Ans.mk Ex.ret [AV.c (CV.p (PV.v (Value.bool true)))] [])) (Sc.done (Ans.mk Ex.ret [AV.c (CV.p (PV.v (Value.bool false)))] []))) := by kernel_rfl
theorem rrightR_t (n : Nat)  (s : Nat → ByteArray)  (i : Nat)  (q : Bool)  (j : Nat)  : fol CK Try.prog (SLq 36 q (fun vals h => match vals with | [a, b, _] => some ⟨.exit 0, [a, b, I n], h⟩ | _ => none) (fun vals h => match vals with | [a, _, _] => some ⟨.ret, [a, B false, I j], h⟩ | _ => none) (nmS 1000000)) (An.b (An.b (An.l (An.l (An.l (An.l (An.l (An.l (An.l (An.l (An.l (An.l (An.l (An.l (An.l (An.l (An.l (An.l (An.l An.e))))))))))))))))) (An.l (An.l (An.c (An.l (An.l (An.a (An.l (An.l (An.b (An.l (An.l (An.l (An.l (An.l (An.l (An.l (An.l (An.l (An.l An.e)))))))))) (An.l (An.l (An.l (An.c (An.l (An.l (An.a (An.l (An.l (An.l (An.l (An.b An.e (An.a (An.b An.e An.e)))))))))))))))))))))))) An.e) (T.evQ CK Try.prog (.loop 36 0 [1, 0, 1, 0] [Sl n (Ss s), B false, I i] []) .done) = Sc.br (decide ((↑i : Int) < (↑n : Int))) (Sc.br (decide ((↑i : Int) > (31 : Int))) (Sc.done (Ans.mk Ex.ret [AV.c (CV.p (PV.sl n fun i => [PV.v (Value.string (s i))])), AV.c (CV.p (PV.v (Value.bool false))), AV.c (CV.p (PV.v (Value.int IntKind.i64 (↑i : Int))))] [])) (Sc.chk ((0 : Int) ≤ (↑i : Int) ∧ (↑i : Int) < (↑n : Int)) (Sc.ask (Qry.call (53 : Nat) [AV.c (CV.p (PV.v (Value.string (s (Int.toNat (↑i : Int))))))] []) (Ans.mk Ex.ret [AV.c (CV.p (PV.v (Value.bool (nmd (s (Int.toNat (↑i : Int)))))))] []) (Sc.br (!nmd (s (Int.toNat (↑i : Int)))) (Sc.done (Ans.mk Ex.ret [AV.c (CV.p (PV.sl n fun i => [PV.v (Value.string (s i))])), AV.c (CV.p (PV.v (Value.bool false))), AV.c (CV.p (PV.v (Value.int IntKind.i64 (↑i : Int))))] [])) (Sc.chk ((0 : Int) ≤ (↑i : Int) ∧ (↑i : Int) < (↑n : Int)) (Sc.ask (Qry.call (38 : Nat) [AV.c (CV.p (PV.sl n fun i => [PV.v (Value.string (s i))])), AV.c (CV.p (PV.v (Value.string (s (Int.toNat (↑i : Int))))))] []) (Ans.mk Ex.ret [AV.c (CV.p (PV.v (Value.int IntKind.i64 (↑(plc (fun i => strC [PV.v (Value.string (s i))]) (s (Int.toNat (↑i : Int))) n (0 : Nat)) : Int))))] []) (Sc.br ((↑(plc (fun i => strC [PV.v (Value.string (s i))]) (s (Int.toNat (↑i : Int))) n (0 : Nat)) : Int) != IntKind.wrap IntKind.i64 ((↑i : Int) + (1 : Int))) (Sc.done (Ans.mk Ex.ret [AV.c (CV.p (PV.sl n fun i => [PV.v (Value.string (s i))])), AV.c (CV.p (PV.v (Value.bool false))), AV.c (CV.p (PV.v (Value.int IntKind.i64 (↑i : Int))))] [])) (Sc.ask (Qry.loop (36 : Nat) (0 : Nat) [(1 : Nat), (0 : Nat), (1 : Nat), (0 : Nat)] [AV.c (CV.p (PV.sl n fun i => [PV.v (Value.string (s i))])), AV.c (CV.p (PV.v (Value.bool false))), AV.c (CV.p (PV.v (Value.int IntKind.i64 (IntKind.wrap IntKind.i64 ((↑i : Int) + (1 : Int))))))] []) (bif q then Ans.mk (Ex.exit (0 : Nat)) [AV.c (CV.p (PV.sl n fun i => [PV.v (Value.string (s i))])), AV.c (CV.p (PV.v (Value.bool false))), AV.c (CV.p (PV.v (Value.int IntKind.i64 (↑n : Int))))] [] else Ans.mk Ex.ret [AV.c (CV.p (PV.sl n fun i => [PV.v (Value.string (s i))])), AV.c (CV.p (PV.v (Value.bool false))), AV.c (CV.p (PV.v (Value.int IntKind.i64 (↑j : Int))))] []) (Sc.br q (Sc.done (Ans.mk (Ex.exit (0 : Nat)) [AV.c (CV.p (PV.sl n fun i => [PV.v (Value.string (s i))])), AV.c (CV.p (PV.v (Value.bool false))), AV.c (CV.p (PV.v (Value.int IntKind.i64 (↑n : Int))))] [])) (Sc.done (Ans.mk Ex.ret [AV.c (CV.p (PV.sl n fun i => [PV.v (Value.string (s i))])), AV.c (CV.p (PV.v (Value.bool false))), AV.c (CV.p (PV.v (Value.int IntKind.i64 (↑j : Int))))] []))))))))))) (Sc.done (Ans.mk (Ex.exit (0 : Nat)) [AV.c (CV.p (PV.sl n fun i => [PV.v (Value.string (s i))])), AV.c (CV.p (PV.v (Value.bool false))), AV.c (CV.p (PV.v (Value.int IntKind.i64 (↑i : Int))))] [])) := by kernel_rfl
theorem shortT_t (n : Nat)  (s : Nat → ByteArray)  (q : Bool)  (j : Nat)  : fol CK Try.prog (SLq 32 q (fun vals h => match vals with | [a, b, _] => some ⟨.exit 0, [a, b, I n], h⟩ | _ => none) (fun vals h => match vals with | [a, _, _] => some ⟨.ret, [a, B false, I j], h⟩ | _ => none) (nmS 1000000)) (An.a (An.b An.e An.e)) (T.evQ CK Try.prog (.call 32 [Sl n (Ss s)] []) .done) = Sc.ask (Qry.loop (32 : Nat) (0 : Nat) [(1 : Nat), (0 : Nat), (1 : Nat), (0 : Nat)] [AV.c (CV.p (PV.sl n fun i => [PV.v (Value.string (s i))])), AV.c (CV.p (PV.v (Value.bool false))), AV.c (CV.p (PV.v (Value.int IntKind.i64 (0 : Int))))] []) (bif q then Ans.mk (Ex.exit (0 : Nat)) [AV.c (CV.p (PV.sl n fun i => [PV.v (Value.string (s i))])), AV.c (CV.p (PV.v (Value.bool false))), AV.c (CV.p (PV.v (Value.int IntKind.i64 (↑n : Int))))] [] else Ans.mk Ex.ret [AV.c (CV.p (PV.sl n fun i => [PV.v (Value.string (s i))])), AV.c (CV.p (PV.v (Value.bool false))), AV.c (CV.p (PV.v (Value.int IntKind.i64 (↑j : Int))))] []) (Sc.br q (Sc.done (Ans.mk Ex.ret [AV.c (CV.p (PV.v (Value.bool (decide ((↑n : Int) ≤ (60 : Int))))))] [])) (Sc.done (Ans.mk Ex.ret [AV.c (CV.p (PV.v (Value.bool false)))] []))) := by kernel_rfl
theorem shortR_t (n : Nat)  (s : Nat → ByteArray)  (i : Nat)  (q : Bool)  (j : Nat)  : fol CK Try.prog (SLq 32 q (fun vals h => match vals with | [a, b, _] => some ⟨.exit 0, [a, b, I n], h⟩ | _ => none) (fun vals h => match vals with | [a, _, _] => some ⟨.ret, [a, B false, I j], h⟩ | _ => none) (nmS 1000000)) (An.b (An.c (An.b An.e (An.a (An.b An.e An.e)))) An.e) (T.evQ CK Try.prog (.loop 32 0 [1, 0, 1, 0] [Sl n (Ss s), B false, I i] []) .done) = Sc.br (decide ((↑i : Int) < (↑n : Int))) (Sc.chk ((0 : Int) ≤ (↑i : Int) ∧ (↑i : Int) < (↑n : Int)) (Sc.br (decide ((↑(ByteArray.size (s (Int.toNat (↑i : Int)))) : Int) > (100 : Int))) (Sc.done (Ans.mk Ex.ret [AV.c (CV.p (PV.sl n fun i => [PV.v (Value.string (s i))])), AV.c (CV.p (PV.v (Value.bool false))), AV.c (CV.p (PV.v (Value.int IntKind.i64 (↑i : Int))))] [])) (Sc.ask (Qry.loop (32 : Nat) (0 : Nat) [(1 : Nat), (0 : Nat), (1 : Nat), (0 : Nat)] [AV.c (CV.p (PV.sl n fun i => [PV.v (Value.string (s i))])), AV.c (CV.p (PV.v (Value.bool false))), AV.c (CV.p (PV.v (Value.int IntKind.i64 (IntKind.wrap IntKind.i64 ((↑i : Int) + (1 : Int))))))] []) (bif q then Ans.mk (Ex.exit (0 : Nat)) [AV.c (CV.p (PV.sl n fun i => [PV.v (Value.string (s i))])), AV.c (CV.p (PV.v (Value.bool false))), AV.c (CV.p (PV.v (Value.int IntKind.i64 (↑n : Int))))] [] else Ans.mk Ex.ret [AV.c (CV.p (PV.sl n fun i => [PV.v (Value.string (s i))])), AV.c (CV.p (PV.v (Value.bool false))), AV.c (CV.p (PV.v (Value.int IntKind.i64 (↑j : Int))))] []) (Sc.br q (Sc.done (Ans.mk (Ex.exit (0 : Nat)) [AV.c (CV.p (PV.sl n fun i => [PV.v (Value.string (s i))])), AV.c (CV.p (PV.v (Value.bool false))), AV.c (CV.p (PV.v (Value.int IntKind.i64 (↑n : Int))))] [])) (Sc.done (Ans.mk Ex.ret [AV.c (CV.p (PV.sl n fun i => [PV.v (Value.string (s i))])), AV.c (CV.p (PV.v (Value.bool false))), AV.c (CV.p (PV.v (Value.int IntKind.i64 (↑j : Int))))] [])))))) (Sc.done (Ans.mk (Ex.exit (0 : Nat)) [AV.c (CV.p (PV.sl n fun i => [PV.v (Value.string (s i))])), AV.c (CV.p (PV.v (Value.bool false))), AV.c (CV.p (PV.v (Value.int IntKind.i64 (↑i : Int))))] [])) := by kernel_rfl
theorem sameT_t (n m : Nat)  (s u : Nat → ByteArray)  (q : Bool)  (j : Nat)  : fol CK Try.prog (SLq 39 q (fun vals h => match vals with | [a, b, c, _] => some ⟨.exit 0, [a, b, c, I n], h⟩ | _ => none) (fun vals h => match vals with | [a, b, _, _] => some ⟨.ret, [a, b, B false, I j], h⟩ | _ => none) (nmS 1000000)) (An.b An.e (An.a (An.b An.e An.e))) (T.evQ CK Try.prog (.call 39 [Sl n (Ss s), Sl m (Ss u)] []) .done) = Sc.br ((↑n : Int) != (↑m : Int)) (Sc.done (Ans.mk Ex.ret [AV.c (CV.p (PV.v (Value.bool false)))] [])) (Sc.ask (Qry.loop (39 : Nat) (0 : Nat) [(1 : Nat), (1 : Nat), (0 : Nat), (1 : Nat), (0 : Nat)] [AV.c (CV.p (PV.sl n fun i => [PV.v (Value.string (s i))])), AV.c (CV.p (PV.sl m fun i => [PV.v (Value.string (u i))])), AV.c (CV.p (PV.v (Value.bool false))), AV.c (CV.p (PV.v (Value.int IntKind.i64 (0 : Int))))] []) (bif q then Ans.mk (Ex.exit (0 : Nat)) [AV.c (CV.p (PV.sl n fun i => [PV.v (Value.string (s i))])), AV.c (CV.p (PV.sl m fun i => [PV.v (Value.string (u i))])), AV.c (CV.p (PV.v (Value.bool false))), AV.c (CV.p (PV.v (Value.int IntKind.i64 (↑n : Int))))] [] else Ans.mk Ex.ret [AV.c (CV.p (PV.sl n fun i => [PV.v (Value.string (s i))])), AV.c (CV.p (PV.sl m fun i => [PV.v (Value.string (u i))])), AV.c (CV.p (PV.v (Value.bool false))), AV.c (CV.p (PV.v (Value.int IntKind.i64 (↑j : Int))))] []) (Sc.br q (Sc.done (Ans.mk Ex.ret [AV.c (CV.p (PV.v (Value.bool true)))] [])) (Sc.done (Ans.mk Ex.ret [AV.c (CV.p (PV.v (Value.bool false)))] [])))) := by kernel_rfl
theorem sameR_t (n m : Nat)  (s u : Nat → ByteArray)  (i : Nat)  (q : Bool)  (j : Nat)  : fol CK Try.prog (SLq 39 q (fun vals h => match vals with | [a, b, c, _] => some ⟨.exit 0, [a, b, c, I n], h⟩ | _ => none) (fun vals h => match vals with | [a, b, _, _] => some ⟨.ret, [a, b, B false, I j], h⟩ | _ => none) (nmS 1000000)) (An.b (An.c (An.c (An.b An.e (An.a (An.b An.e An.e))))) An.e) (T.evQ CK Try.prog (.loop 39 0 [1, 1, 0, 1, 0] [Sl n (Ss s), Sl m (Ss u), B false, I i] []) .done) = Sc.br (decide ((↑i : Int) < (↑n : Int))) (Sc.chk ((0 : Int) ≤ (↑i : Int) ∧ (↑i : Int) < (↑n : Int)) (Sc.chk ((0 : Int) ≤ (↑i : Int) ∧ (↑i : Int) < (↑m : Int)) (Sc.br (!ByteArray.toList (s (Int.toNat (↑i : Int))) == ByteArray.toList (u (Int.toNat (↑i : Int)))) (Sc.done (Ans.mk Ex.ret [AV.c (CV.p (PV.sl n fun i => [PV.v (Value.string (s i))])), AV.c (CV.p (PV.sl m fun i => [PV.v (Value.string (u i))])), AV.c (CV.p (PV.v (Value.bool false))), AV.c (CV.p (PV.v (Value.int IntKind.i64 (↑i : Int))))] [])) (Sc.ask (Qry.loop (39 : Nat) (0 : Nat) [(1 : Nat), (1 : Nat), (0 : Nat), (1 : Nat), (0 : Nat)] [AV.c (CV.p (PV.sl n fun i => [PV.v (Value.string (s i))])), AV.c (CV.p (PV.sl m fun i => [PV.v (Value.string (u i))])), AV.c (CV.p (PV.v (Value.bool false))), AV.c (CV.p (PV.v (Value.int IntKind.i64 (IntKind.wrap IntKind.i64 ((↑i : Int) + (1 : Int))))))] []) (bif q then Ans.mk (Ex.exit (0 : Nat)) [AV.c (CV.p (PV.sl n fun i => [PV.v (Value.string (s i))])), AV.c (CV.p (PV.sl m fun i => [PV.v (Value.string (u i))])), AV.c (CV.p (PV.v (Value.bool false))), AV.c (CV.p (PV.v (Value.int IntKind.i64 (↑n : Int))))] [] else Ans.mk Ex.ret [AV.c (CV.p (PV.sl n fun i => [PV.v (Value.string (s i))])), AV.c (CV.p (PV.sl m fun i => [PV.v (Value.string (u i))])), AV.c (CV.p (PV.v (Value.bool false))), AV.c (CV.p (PV.v (Value.int IntKind.i64 (↑j : Int))))] []) (Sc.br q (Sc.done (Ans.mk (Ex.exit (0 : Nat)) [AV.c (CV.p (PV.sl n fun i => [PV.v (Value.string (s i))])), AV.c (CV.p (PV.sl m fun i => [PV.v (Value.string (u i))])), AV.c (CV.p (PV.v (Value.bool false))), AV.c (CV.p (PV.v (Value.int IntKind.i64 (↑n : Int))))] [])) (Sc.done (Ans.mk Ex.ret [AV.c (CV.p (PV.sl n fun i => [PV.v (Value.string (s i))])), AV.c (CV.p (PV.sl m fun i => [PV.v (Value.string (u i))])), AV.c (CV.p (PV.v (Value.bool false))), AV.c (CV.p (PV.v (Value.int IntKind.i64 (↑j : Int))))] []))))))) (Sc.done (Ans.mk (Ex.exit (0 : Nat)) [AV.c (CV.p (PV.sl n fun i => [PV.v (Value.string (s i))])), AV.c (CV.p (PV.sl m fun i => [PV.v (Value.string (u i))])), AV.c (CV.p (PV.v (Value.bool false))), AV.c (CV.p (PV.v (Value.int IntKind.i64 (↑i : Int))))] [])) := by kernel_rfl
theorem putT_t (n : Nat)  (s : Nat → ByteArray)  (x : ByteArray)  : fol CK Try.prog (nmS 1000000) (An.a (An.b An.e (An.a (An.b An.e (An.a (An.b An.e (An.b An.e (An.a (An.c An.e))))))))) (T.evQ CK Try.prog (.call 33 [Sl n (Ss s), Str x] []) .done) = Sc.ask (Qry.call (35 : Nat) [AV.c (CV.p (PV.sl n fun i => [PV.v (Value.string (s i))]))] []) (Ans.mk Ex.ret [AV.c (CV.p (PV.v (Value.bool (right n fun i => strC [PV.v (Value.string (s i))]))))] []) (Sc.br (!right n fun i => strC [PV.v (Value.string (s i))]) (Sc.done (Ans.mk Ex.ret [AV.tup [AV.c (CV.p (PV.sl n fun i => [PV.v (Value.string (s i))])), AV.c (CV.p (PV.v (Value.int IntKind.i64 (1 : Int))))]] [])) (Sc.ask (Qry.call (51 : Nat) [AV.c (CV.p (PV.v (Value.string x)))] []) (Ans.mk Ex.ret [AV.c (CV.p (PV.v (Value.bool (nmd x))))] []) (Sc.br (!nmd x) (Sc.done (Ans.mk Ex.ret [AV.tup [AV.c (CV.p (PV.sl n fun i => [PV.v (Value.string (s i))])), AV.c (CV.p (PV.v (Value.int IntKind.i64 (3 : Int))))]] [])) (Sc.ask (Qry.call (37 : Nat) [AV.c (CV.p (PV.sl n fun i => [PV.v (Value.string (s i))])), AV.c (CV.p (PV.v (Value.string x)))] []) (Ans.mk Ex.ret [AV.c (CV.p (PV.v (Value.int IntKind.i64 (↑(plc (fun i => strC [PV.v (Value.string (s i))]) x n (0 : Nat)) : Int))))] []) (Sc.br (decide ((↑(plc (fun i => strC [PV.v (Value.string (s i))]) x n (0 : Nat)) : Int) > (0 : Int))) (Sc.done (Ans.mk Ex.ret [AV.tup [AV.c (CV.p (PV.sl n fun i => [PV.v (Value.string (s i))])), AV.c (CV.p (PV.v (Value.int IntKind.i64 (7 : Int))))]] [])) (Sc.br ((↑n : Int) == (32 : Int)) (Sc.done (Ans.mk Ex.ret [AV.tup [AV.c (CV.p (PV.sl n fun i => [PV.v (Value.string (s i))])), AV.c (CV.p (PV.v (Value.int IntKind.i64 (9 : Int))))]] [])) (Sc.ask (Qry.call (52 : Nat) [AV.c (CV.p (PV.sl n fun i => [PV.v (Value.string (s i))]))] []) (Ans.mk Ex.ret [AV.c (CV.os (0 : Nat))] [Ob.row (9 : Nat) n (fun i => [PV.v (Value.string (strC [PV.v (Value.string (s i))]))]) true]) (Sc.chk ((n + (1 : Nat)) * (16 : Nat) ≤ (140737488355328 : Nat) ∧ n + (1 : Nat) ≤ (9223372036854775807 : Nat)) (Sc.done (Ans.mk Ex.ret [AV.tup [AV.c (CV.p (PV.sl (n + (1 : Nat)) fun i => if i < n then [PV.v (Value.string (strC [PV.v (Value.string (s i))]))] else litF [[PV.v (Value.string x)]] (i - n))), AV.c (CV.p (PV.v (Value.int IntKind.i64 (0 : Int))))]] [])))))))))) := by kernel_rfl
theorem rputT_t (n : Nat)  (s : Nat → ByteArray)  (x : ByteArray)  : fol CK Try.prog (nmS 1000000) (An.a (An.b An.e (An.a (An.b An.e (An.a (An.b An.e (An.b An.e (An.c (An.c An.e))))))))) (T.evQ CK Try.prog (.call 34 [Sl n (Ss s), Str x] []) .done) = Sc.ask (Qry.call (36 : Nat) [AV.c (CV.p (PV.sl n fun i => [PV.v (Value.string (s i))]))] []) (Ans.mk Ex.ret [AV.c (CV.p (PV.v (Value.bool (right n fun i => strC [PV.v (Value.string (s i))]))))] []) (Sc.br (!right n fun i => strC [PV.v (Value.string (s i))]) (Sc.done (Ans.mk Ex.ret [AV.tup [AV.c (CV.p (PV.sl n fun i => [PV.v (Value.string (s i))])), AV.c (CV.p (PV.v (Value.int IntKind.i64 (1 : Int))))]] [])) (Sc.ask (Qry.call (53 : Nat) [AV.c (CV.p (PV.v (Value.string x)))] []) (Ans.mk Ex.ret [AV.c (CV.p (PV.v (Value.bool (nmd x))))] []) (Sc.br (!nmd x) (Sc.done (Ans.mk Ex.ret [AV.tup [AV.c (CV.p (PV.sl n fun i => [PV.v (Value.string (s i))])), AV.c (CV.p (PV.v (Value.int IntKind.i64 (3 : Int))))]] [])) (Sc.ask (Qry.call (38 : Nat) [AV.c (CV.p (PV.sl n fun i => [PV.v (Value.string (s i))])), AV.c (CV.p (PV.v (Value.string x)))] []) (Ans.mk Ex.ret [AV.c (CV.p (PV.v (Value.int IntKind.i64 (↑(plc (fun i => strC [PV.v (Value.string (s i))]) x n (0 : Nat)) : Int))))] []) (Sc.br (decide ((↑(plc (fun i => strC [PV.v (Value.string (s i))]) x n (0 : Nat)) : Int) > (0 : Int))) (Sc.done (Ans.mk Ex.ret [AV.tup [AV.c (CV.p (PV.sl n fun i => [PV.v (Value.string (s i))])), AV.c (CV.p (PV.v (Value.int IntKind.i64 (7 : Int))))]] [])) (Sc.br (decide ((↑n : Int) ≥ (32 : Int))) (Sc.done (Ans.mk Ex.ret [AV.tup [AV.c (CV.p (PV.sl n fun i => [PV.v (Value.string (s i))])), AV.c (CV.p (PV.v (Value.int IntKind.i64 (9 : Int))))]] [])) (Sc.chk (((0 : Nat) + n) * (16 : Nat) ≤ (140737488355328 : Nat) ∧ (0 : Nat) + n ≤ (9223372036854775807 : Nat)) (Sc.chk (((0 : Nat) + n + (1 : Nat)) * (16 : Nat) ≤ (140737488355328 : Nat) ∧ (0 : Nat) + n + (1 : Nat) ≤ (9223372036854775807 : Nat)) (Sc.done (Ans.mk Ex.ret [AV.tup [AV.c (CV.p (PV.sl ((0 : Nat) + n + (1 : Nat)) fun i => if i < (0 : Nat) + n then [PV.v (Value.string (s (i - (0 : Nat))))] else litF [[PV.v (Value.string x)]] (i - ((0 : Nat) + n)))), AV.c (CV.p (PV.v (Value.int IntKind.i64 (0 : Int))))]] [])))))))))) := by kernel_rfl
theorem atT_t (n : Nat)  (s : Nat → ByteArray)  (p : Int)  : fol CK Try.prog (nmS 1000000) (An.b (An.l (An.l (An.l (An.l (An.l An.e))))) (An.l (An.l (An.l (An.l (An.b An.e (An.c An.e))))))) (T.evQ CK Try.prog (.call 40 [Sl n (Ss s), I p] []) .done) = Sc.br (decide (p < (1 : Int))) (Sc.done (Ans.mk Ex.ret [AV.tup [AV.c (CV.p (PV.v (Value.string (ByteArray.mk (Array.mk []))))), AV.c (CV.p (PV.v (Value.int IntKind.i64 (14 : Int))))]] [])) (Sc.br (decide (p > (↑n : Int))) (Sc.done (Ans.mk Ex.ret [AV.tup [AV.c (CV.p (PV.v (Value.string (ByteArray.mk (Array.mk []))))), AV.c (CV.p (PV.v (Value.int IntKind.i64 (14 : Int))))]] [])) (Sc.chk ((0 : Int) ≤ IntKind.wrap IntKind.i64 (p - (1 : Int)) ∧ IntKind.wrap IntKind.i64 (p - (1 : Int)) < (↑n : Int)) (Sc.done (Ans.mk Ex.ret [AV.tup [AV.c (CV.p (PV.v (Value.string (s (Int.toNat (IntKind.wrap IntKind.i64 (p - (1 : Int)))))))), AV.c (CV.p (PV.v (Value.int IntKind.i64 (0 : Int))))]] [])))) := by kernel_rfl

theorem strC_s (x : ByteArray) : strC [.v (.string x)] = x := rfl
theorem bif_leaf {q : Bool} {A B : Ans} : (q = true → A = bif q then A else B) ∧ (q = false → B = bif q then A else B) := by cases q <;> simp
theorem ALe.nilSl (f : Nat → List PV) : ALe (.c .nils) (Sl 0 f) := fun M φ v h => by
  cases h with
  | c h => cases h with
    | nils => exact .c (.p (.sl none 0 0 0 0 (fun _ _ => undef) (Nat.le_refl _) (fun h => absurd h (by omega)) (fun i hi => by omega) (fun i j hi => by omega) (fun i j x hi => by omega)))
theorem next64 {i n : Nat} (hi : i < n) (hn : n ≤ 9223372036854775807) : IntKind.wrap .i64 ((i : Int) + 1) = ((i + 1 : Nat) : Int) := by rw [w64 (by omega)]; omega
abbrev len (n : Nat) : Prop := n ≤ 1000000
/-! ### Places -/
theorem beq_ne {a b : ByteArray} (h : ¬ a = b) : (a == b) = false := by
  cases hb : a == b with
  | false => rfl
  | true => exact absurd (eq_of_beq hb) h
theorem plc_hit {s : Nat → ByteArray} {x : ByteArray} {k i : Nat} (h : s i = x) : plc s x (k + 1) i = i + 1 := by
  unfold plc; rw [h, beq_self_eq_true]
theorem plc_miss {s : Nat → ByteArray} {x : ByteArray} {k i : Nat} (h : ¬ s i = x) : plc s x (k + 1) i = plc s x k (i + 1) := by
  conv => lhs; unfold plc
  rw [beq_ne h]
theorem plc_zero {s : Nat → ByteArray} {x : ByteArray} : ∀ {k i : Nat}, plc s x k i = 0 ↔ ∀ j, i ≤ j → j < i + k → ¬ s j = x
  | 0, i => ⟨fun _ j h1 h2 => by omega, fun _ => rfl⟩
  | k + 1, i => by
    by_cases h : s i = x
    · rw [plc_hit h]
      exact ⟨fun e => by omega, fun e => absurd h (e i (Nat.le_refl _) (by omega))⟩
    · rw [plc_miss h, plc_zero]
      constructor
      · intro e j h1 h2
        by_cases hj : j = i
        · rw [hj]; exact h
        · exact e j (by omega) (by omega)
      · intro e j h1 h2
        exact e j (by omega) (by omega)
theorem plc_some {s : Nat → ByteArray} {x : ByteArray} : ∀ {k i : Nat}, plc s x k i ≠ 0 → i < plc s x k i ∧ plc s x k i ≤ i + k ∧ s (plc s x k i - 1) = x ∧ ∀ j, i ≤ j → j < plc s x k i - 1 → ¬ s j = x
  | 0, i, h => absurd rfl h
  | k + 1, i, h => by
    by_cases e : s i = x
    · rw [plc_hit e]
      exact ⟨by omega, by omega, by rw [Nat.add_sub_cancel]; exact e, fun j h1 h2 => by omega⟩
    · rw [plc_miss e] at h ⊢
      obtain ⟨h1, h2, h3, h4⟩ := plc_some h
      refine ⟨by omega, by omega, h3, fun j h5 h6 => ?_⟩
      by_cases hj : j = i
      · rw [hj]; exact e
      · exact h4 j (by omega) h6
theorem plc_le (s : Nat → ByteArray) (x : ByteArray) (k i : Nat) : plc s x k i ≤ i + k := by
  by_cases h : plc s x k i = 0
  · omega
  · exact (plc_some h).2.1
/-- The place of what stands at i: its own, just if it doesn't stand ahead. -/
theorem plc_own {s : Nat → ByteArray} {n i : Nat} (hi : i < n) : plc s (s i) n 0 = i + 1 ↔ plc s (s i) i 0 = 0 := by
  rw [plc_zero]
  have hne : plc s (s i) n 0 ≠ 0 := fun h => plc_zero.1 h i (by omega) (by omega) rfl
  obtain ⟨h1, h2, h3, h4⟩ := plc_some hne
  constructor
  · intro e j _ hj
    exact h4 j (by omega) (by omega)
  · intro e
    by_cases hc : plc s (s i) n 0 - 1 < i
    · exact absurd h3 (e _ (by omega) (by omega))
    · by_cases hc2 : i < plc s (s i) n 0 - 1
      · exact absurd rfl (h4 i (by omega) hc2)
      · omega
abbrev fndN (p : Nat) : Bool := Nat.beq p 0
abbrev fnd (p : Nat) : Bool := !(Nat.beq p 0)
theorem fnd_t {p : Nat} (h : fnd p = true) : p ≠ 0 := by
  rintro rfl; simp [fnd] at h
theorem fnd_f {p : Nat} (h : fnd p = false) : p = 0 := by
  unfold fnd at h
  rw [Bool.not_eq_false'] at h
  exact Nat.eq_of_beq_eq_true h
/-! ### The functions -/
theorem cNamed {x : ByteArray} : QOk Try.prog CK (.call 51 [Str x] []) ⟨.ret, [B (nmd x)], []⟩ := by
  refine tree_i hP (named51_t x) ?_
  simp only [Sc.Ok]
  refine ⟨fun h => ar (congrArg B ?_), fun h => ar (congrArg B ?_)⟩
  · unfold nmd
    rw [Bool.eq_iff_iff, decide_eq_true_iff, decide_eq_true_iff]
    simp at h; omega
  · unfold nmd
    rw [decide_eq_false_iff_not] at h
    rw [eq_comm, decide_eq_false_iff_not]
    omega
theorem cRNamed {x : ByteArray} : QOk Try.prog CK (.call 53 [Str x] []) ⟨.ret, [B (nmd x)], []⟩ := by
  refine tree_i hP (named53_t x) ?_
  simp only [Sc.Ok]
  refine ⟨fun h => ar (congrArg B ?_), fun h => ar (congrArg B ?_)⟩
  · unfold nmd
    rw [Bool.eq_iff_iff, decide_eq_true_iff, decide_eq_true_iff]
    simp at h; omega
  · unfold nmd
    rw [decide_eq_false_iff_not] at h
    rw [eq_comm, decide_eq_false_iff_not]
    omega
theorem cClone {n : Nat} {s : Nat → ByteArray} (hn : len n) : QOk Try.prog CK (.call 52 [Sl n (Ss s)] []) ⟨.ret, [.c (.os 0)], [rowS n s]⟩ := by
  match n with
  | 0 =>
    refine tree_c hP (cloneS0_t s) ⟨?_, ?_⟩
    · exact CallLe.nilRow (sz := 1) rfl (by decide) _
    · exact CallLe.refl _
  | n + 1 =>
    refine tree_i hP (cloneS1_t n s) ?_
    simp only [Sc.Ok, Nat.zero_add, Nat.sub_zero]
    exact ⟨by omega, trivial⟩
theorem indexLoop (n : Nat) (s : Nat → ByteArray) (x : ByteArray) (hn : len n) : ∀ (k i : Nat), i + k = n →
    QOk Try.prog CK (.loop 54 0 [1, 0, 1, 0] [Sl n (Ss s), Str x, I 0, I n, I i] []) (bif fnd (plc s x k i) then ⟨.ret, [Sl n (Ss s), Str x, I ((plc s x k i - 1 : Nat) : Int), I n, I ((plc s x k i - 1 : Nat) : Int)], []⟩ else ⟨.exit 0, [Sl n (Ss s), Str x, I 0, I n, I n], []⟩)
  | 0, i, hk => by
    refine tree_i hP (indexR_t n s x i true 0) ?_
    simp only [Sc.Ok]
    refine ⟨fun h => ?_, fun h => ?_⟩
    · simp at h; omega
    · rw [show i = n by omega]; rfl
  | k + 1, i, hk => by
    have e7 := next64 (i := i) (n := n) (by omega) (by omega)
    by_cases hx : s i = x
    · rw [plc_hit hx]
      refine tree_i hP (indexR_t n s x i true 0) ?_
      simp only [Sc.Ok, Int.toNat_natCast]
      refine ⟨fun _ => ⟨by omega, fun _ => rfl, fun h => ?_⟩, fun h => ?_⟩
      · rw [hx, toList_beq] at h; simp at h
      · simp at h; omega
    · have ih := indexLoop n s x hn k (i + 1) (by omega)
      rw [plc_miss hx]
      refine tree_i hP (indexR_t n s x i (fnd (plc s x k (i + 1))) (plc s x k (i + 1) - 1)) ?_
      simp only [Sc.Ok, Int.toNat_natCast, e7]
      refine ⟨fun _ => ⟨by omega, fun h => ?_, fun _ => ⟨ih, bif_leaf⟩⟩, fun h => ?_⟩
      · rw [toList_beq, decide_eq_true_iff] at h; exact absurd h.symm hx
      · simp at h; omega
theorem cIndex {n : Nat} {s : Nat → ByteArray} {x : ByteArray} (hn : len n) : QOk Try.prog CK (.call 54 [Sl n (Ss s), Str x] []) ⟨.ret, [I ((plc s x n 0 : Int) - 1)], []⟩ := by
  have hl := indexLoop n s x hn n 0 (by omega)
  refine tree_i hP (indexT_t n s x (fnd (plc s x n 0)) (plc s x n 0 - 1)) ?_
  simp only [Sc.Ok]
  refine ⟨hl, fun h => ar ?_, fun h => ar ?_⟩
  · have : plc s x n 0 ≠ 0 := fnd_t h
    rw [show ((plc s x n 0 - 1 : Nat) : Int) = (plc s x n 0 : Int) - 1 by omega]
  · have : plc s x n 0 = 0 := fnd_f h
    rw [this]; rfl
theorem cPlace {n : Nat} {s : Nat → ByteArray} {x : ByteArray} (hn : len n) : QOk Try.prog CK (.call 37 [Sl n (Ss s), Str x] []) ⟨.ret, [I (plc s x n 0 : Int)], []⟩ := by
  refine tree_i hP (placeT_t n s x) ?_
  have hp := plc_le s x n 0
  have e0 : (fun i => strC [PV.v (Value.string (s i))]) = s := rfl
  simp only [Sc.Ok, e0]
  refine ⟨cIndex hn, ar ?_⟩
  rw [w64 (by omega), show (plc s x n 0 : Int) - 1 + 1 = (plc s x n 0 : Int) by omega]
theorem rplaceLoop (n : Nat) (s : Nat → ByteArray) (x : ByteArray) (hn : len n) : ∀ (k i : Nat), i + k = n →
    QOk Try.prog CK (.loop 38 0 [1, 0, 1, 0] [Sl n (Ss s), Str x, I 0, I i] []) (bif fnd (plc s x k i) then ⟨.ret, [Sl n (Ss s), Str x, I (((plc s x k i - 1 : Nat) : Int) + 1), I ((plc s x k i - 1 : Nat) : Int)], []⟩ else ⟨.exit 0, [Sl n (Ss s), Str x, I 0, I n], []⟩)
  | 0, i, hk => by
    refine tree_i hP (rplaceR_t n s x i true 0) ?_
    simp only [Sc.Ok]
    refine ⟨fun h => ?_, fun h => ?_⟩
    · simp at h; omega
    · rw [show i = n by omega]; rfl
  | k + 1, i, hk => by
    have e7 := next64 (i := i) (n := n) (by omega) (by omega)
    by_cases hx : s i = x
    · rw [plc_hit hx]
      refine tree_i hP (rplaceR_t n s x i true 0) ?_
      simp only [Sc.Ok, Int.toNat_natCast, e7]
      refine ⟨fun _ => ⟨by omega, fun _ => rfl, fun h => ?_⟩, fun h => ?_⟩
      · rw [hx, toList_beq] at h; simp at h
      · simp at h; omega
    · have ih := rplaceLoop n s x hn k (i + 1) (by omega)
      rw [plc_miss hx]
      refine tree_i hP (rplaceR_t n s x i (fnd (plc s x k (i + 1))) (plc s x k (i + 1) - 1)) ?_
      simp only [Sc.Ok, Int.toNat_natCast, e7]
      refine ⟨fun _ => ⟨by omega, fun h => ?_, fun _ => ⟨ih, bif_leaf⟩⟩, fun h => ?_⟩
      · rw [toList_beq, decide_eq_true_iff] at h; exact absurd h hx
      · simp at h; omega
theorem cRPlace {n : Nat} {s : Nat → ByteArray} {x : ByteArray} (hn : len n) : QOk Try.prog CK (.call 38 [Sl n (Ss s), Str x] []) ⟨.ret, [I (plc s x n 0 : Int)], []⟩ := by
  have hl := rplaceLoop n s x hn n 0 (by omega)
  refine tree_i hP (rplaceT_t n s x (fnd (plc s x n 0)) (plc s x n 0 - 1)) ?_
  simp only [Sc.Ok]
  refine ⟨hl, fun h => ar ?_, fun h => ar ?_⟩
  · have : plc s x n 0 ≠ 0 := fnd_t h
    rw [show ((plc s x n 0 - 1 : Nat) : Int) + 1 = (plc s x n 0 : Int) by omega]
  · have : plc s x n 0 = 0 := fnd_f h
    rw [this]; rfl
/-! ### Right -/
theorem rgt_succ (s : Nat → ByteArray) (k i : Nat) : rgt s (k + 1) i = (nmd (s i) && fndN (plc s (s i) i 0) && rgt s k (i + 1)) := rfl
abbrev rQ (n : Nat) (s : Nat → ByteArray) (e : ByteArray → Int) (i : Nat) : Qry := .loop 35 0 [1, 1, 1, 0, 1, 0] [B false, .c (.mp 0), Sl n (Ss s), I n, I i] [.smap 74 e i]
abbrev rA (n : Nat) (s : Nat → ByteArray) (q : Bool) (g : ByteArray → Int) (m j : Nat) : Ans := bif q then ⟨.exit 0, [B false, .c (.mp 0), Sl n (Ss s), I n, I n], [.smap 74 g m]⟩ else ⟨.ret, [B false, .c (.mp 0), Sl n (Ss s), I n, I j], [.smap 74 g m]⟩
theorem rightLoop (n : Nat) (s : Nat → ByteArray) (hn : len n) (hs : ∀ i, (s i).size ≤ 9223372036854775807) : ∀ (k i : Nat) (e : ByteArray → Int), i + k = n → (∀ x, 0 < e x ↔ plc s x i 0 ≠ 0) →
    ∃ g m j, QOk Try.prog CK (rQ n s e i) (rA n s (rgt s k i) g m j)
  | 0, i, e, hk, he => by
    refine ⟨e, i, 0, tree_i hP (rightR_t n s e i true e i 0) ?_⟩
    simp only [Sc.Ok]
    refine ⟨fun h => ?_, fun h => ?_⟩
    · simp at h; omega
    · have : i = n := by omega
      subst this; rfl
  | k + 1, i, e, hk, he => by
    have e7 := next64 (i := i) (n := n) (by omega) (by omega)
    rw [rgt_succ]
    by_cases hp : plc s (s i) i 0 = 0
    · by_cases hm : nmd (s i) = true
      · obtain ⟨g, m, j, ih⟩ := rightLoop n s hn hs k (i + 1) (putS e (s i) ((i + 1 : Nat) : Int)) (by omega) (fun x => by
          unfold putS
          by_cases hx : x = s i
          · subst hx
            rw [beq_self_eq_true]
            constructor
            · intro _ h0
              exact plc_zero.1 h0 i (by omega) (by omega) rfl
            · intro _
              show (0 : Int) < ((i + 1 : Nat) : Int)
              omega
          · rw [beq_ne hx]
            show 0 < e x ↔ _
            rw [he x]
            apply not_congr
            rw [plc_zero, plc_zero]
            constructor
            · intro h j h1 h2
              by_cases hj : j = i
              · rw [hj]; exact fun h => hx h.symm
              · exact h j h1 (by omega)
            · intro h j h1 h2
              exact h j h1 (by omega))
        have hq : (nmd (s i) && fndN (plc s (s i) i 0) && rgt s k (i + 1)) = rgt s k (i + 1) := by rw [hm, hp]; rfl
        rw [hq]
        refine ⟨g, m, j, tree_i hP (rightR_t n s e i (rgt s k (i + 1)) g m j) ?_⟩
        simp only [Sc.Ok, Int.toNat_natCast, e7]
        refine ⟨fun _ => ⟨by omega, hs i, fun h => ?_, fun _ => ⟨cNamed, fun h => ?_, fun _ => ⟨⟨hs i, by omega, by omega, by omega⟩, ih, bif_leaf⟩⟩⟩, fun h => ?_⟩
        · rw [decide_eq_true_iff] at h
          exact absurd hp ((he (s i)).1 h)
        · rw [hm] at h; simp at h
        · simp at h; omega
      · have hm : nmd (s i) = false := by simpa using hm
        have hq : (nmd (s i) && fndN (plc s (s i) i 0) && rgt s k (i + 1)) = false := by rw [hm]; rfl
        rw [hq]
        refine ⟨e, i, i, tree_i hP (rightR_t n s e i true e i i) ?_⟩
        simp only [Sc.Ok, Int.toNat_natCast, e7]
        refine ⟨fun _ => ⟨by omega, hs i, fun h => rfl, fun _ => ⟨cNamed, fun h => rfl, fun h => ?_⟩⟩, fun h => ?_⟩
        · rw [hm] at h; simp at h
        · simp at h; omega
    · have hq : (nmd (s i) && fndN (plc s (s i) i 0) && rgt s k (i + 1)) = false := by
        have : fndN (plc s (s i) i 0) = false := by
          cases hb : fndN (plc s (s i) i 0) with
          | false => rfl
          | true => exact absurd (Nat.eq_of_beq_eq_true hb) hp
        rw [this]; simp
      rw [hq]
      refine ⟨e, i, i, tree_i hP (rightR_t n s e i true e i i) ?_⟩
      simp only [Sc.Ok, Int.toNat_natCast, e7]
      refine ⟨fun _ => ⟨by omega, hs i, fun h => rfl, fun h => ?_⟩, fun h => ?_⟩
      · rw [decide_eq_false_iff_not] at h
        exact absurd ((he (s i)).2 hp) h
      · simp at h; omega
theorem cRight {n : Nat} {s : Nat → ByteArray} (hn : len n) (hs : ∀ i, (s i).size ≤ 9223372036854775807) : QOk Try.prog CK (.call 35 [Sl n (Ss s)] []) ⟨.ret, [B (right n s)], []⟩ := by
  obtain ⟨g, m, j, hl⟩ := rightLoop n s hn hs n 0 (fun _ => 0) (by omega) (fun x => ⟨fun h => absurd h (by omega), fun h => absurd rfl h⟩)
  refine tree_i hP (rightT_t n s (rgt s n 0) g m j) ?_
  simp only [Sc.Ok]
  unfold right
  refine ⟨fun h => ar (congrArg B ?_), fun h => ⟨hl, fun h2 => ar (congrArg B ?_), fun h2 => ar (congrArg B ?_)⟩⟩
  · rw [decide_eq_false (by rw [decide_eq_true_iff] at h; omega)]; rfl
  · rw [h2, decide_eq_true (by rw [decide_eq_false_iff_not] at h; omega)]; rfl
  · rw [h2]; simp
theorem rrightLoop (n : Nat) (s : Nat → ByteArray) (hn : len n) : ∀ (k i : Nat), i + k = n →
    ∃ j : Nat, QOk Try.prog CK (.loop 36 0 [1, 0, 1, 0] [Sl n (Ss s), B false, I i] []) (bif (decide (k = 0 ∨ n ≤ 32) && rgt s k i) then ⟨.exit 0, [Sl n (Ss s), B false, I n], []⟩ else ⟨.ret, [Sl n (Ss s), B false, I j], []⟩)
  | 0, i, hk => by
    refine ⟨0, tree_i hP (rrightR_t n s i true 0) ?_⟩
    simp only [Sc.Ok]
    refine ⟨fun h => ?_, fun h => ?_⟩
    · simp at h; omega
    · have : i = n := by omega
      subst this; simp [rgt]
  | k + 1, i, hk => by
    have e7 := next64 (i := i) (n := n) (by omega) (by omega)
    have e0 : (fun i => strC [PV.v (Value.string (s i))]) = s := rfl
    rw [rgt_succ]
    by_cases h32 : i ≤ 31
    · by_cases hm : nmd (s i) = true
      · by_cases hp : plc s (s i) i 0 = 0
        · obtain ⟨j, ih⟩ := rrightLoop n s hn k (i + 1) (by omega)
          have hq : (decide (k + 1 = 0 ∨ n ≤ 32) && (nmd (s i) && fndN (plc s (s i) i 0) && rgt s k (i + 1))) = (decide (k = 0 ∨ n ≤ 32) && rgt s k (i + 1)) := by
            rw [hm, hp]
            have : decide (k + 1 = 0 ∨ n ≤ 32) = decide (k = 0 ∨ n ≤ 32) := by rw [decide_eq_decide]; omega
            rw [this]; rfl
          rw [hq]
          refine ⟨j, tree_i hP (rrightR_t n s i (decide (k = 0 ∨ n ≤ 32) && rgt s k (i + 1)) j) ?_⟩
          have hpl := (plc_own (s := s) (n := n) (i := i) (by omega)).2 hp
          simp only [Sc.Ok, Int.toNat_natCast, e7, e0]
          refine ⟨fun _ => ⟨fun h => ?_, fun _ => ⟨by omega, cRNamed, fun h => ?_, fun _ => ⟨by omega, cRPlace hn, fun h => ?_, fun _ => ⟨ih, bif_leaf⟩⟩⟩⟩, fun h => ?_⟩
          · simp at h; omega
          · rw [hm] at h; simp at h
          · rw [hpl] at h; simp at h
          · simp at h; omega
        · have hq : (decide (k + 1 = 0 ∨ n ≤ 32) && (nmd (s i) && fndN (plc s (s i) i 0) && rgt s k (i + 1))) = false := by
            have : fndN (plc s (s i) i 0) = false := by
              cases hb : fndN (plc s (s i) i 0) with
              | false => rfl
              | true => exact absurd (Nat.eq_of_beq_eq_true hb) hp
            rw [this]; simp
          rw [hq]
          refine ⟨i, tree_i hP (rrightR_t n s i true i) ?_⟩
          have hpl : ¬ plc s (s i) n 0 = i + 1 := fun h => hp ((plc_own (s := s) (n := n) (i := i) (by omega)).1 h)
          simp only [Sc.Ok, Int.toNat_natCast, e7, e0]
          refine ⟨fun _ => ⟨fun h => rfl, fun _ => ⟨by omega, cRNamed, fun h => rfl, fun _ => ⟨by omega, cRPlace hn, fun h => rfl, fun h => ?_⟩⟩⟩, fun h => ?_⟩
          · simp at h; omega
          · simp at h; omega
      · have hm : nmd (s i) = false := by simpa using hm
        rw [hm]
        refine ⟨i, tree_i hP (rrightR_t n s i true i) ?_⟩
        simp only [Sc.Ok, Int.toNat_natCast, e7, e0, Bool.false_and, Bool.and_false]
        refine ⟨fun _ => ⟨fun h => rfl, fun _ => ⟨by omega, cRNamed, fun h => rfl, fun h => ?_⟩⟩, fun h => ?_⟩
        · rw [hm] at h; simp at h
        · simp at h; omega
    · rw [decide_eq_false (show ¬ (k + 1 = 0 ∨ n ≤ 32) by omega)]
      refine ⟨i, tree_i hP (rrightR_t n s i true i) ?_⟩
      simp only [Sc.Ok, Int.toNat_natCast, e7, e0, Bool.false_and]
      refine ⟨fun _ => ⟨fun h => rfl, fun h => ?_⟩, fun h => ?_⟩
      · simp at h; omega
      · simp at h; omega
theorem cRRight {n : Nat} {s : Nat → ByteArray} (hn : len n) : QOk Try.prog CK (.call 36 [Sl n (Ss s)] []) ⟨.ret, [B (right n s)], []⟩ := by
  obtain ⟨j, hl⟩ := rrightLoop n s hn n 0 (by omega)
  have hq : (decide (n = 0 ∨ n ≤ 32) && rgt s n 0) = right n s := by
    unfold right
    have : decide (n = 0 ∨ n ≤ 32) = decide (n ≤ 32) := by rw [decide_eq_decide]; omega
    rw [this]
  rw [hq] at hl
  refine tree_i hP (rrightT_t n s (right n s) j) ?_
  simp only [Sc.Ok]
  exact ⟨hl, fun h => by rw [h], fun h => by rw [h]⟩
/-! ### Short, Same, At, Put -/
theorem shortLoop (n : Nat) (s : Nat → ByteArray) (hn : n ≤ 9223372036854775807) : ∀ (k i : Nat), i + k = n →
    ∃ j : Nat, QOk Try.prog CK (.loop 32 0 [1, 0, 1, 0] [Sl n (Ss s), B false, I i] []) (bif decide (∀ j, j < k → (s (i + j)).size ≤ 100) then ⟨.exit 0, [Sl n (Ss s), B false, I n], []⟩ else ⟨.ret, [Sl n (Ss s), B false, I j], []⟩)
  | 0, i, hk => by
    refine ⟨0, tree_i hP (shortR_t n s i true 0) ?_⟩
    simp only [Sc.Ok]
    refine ⟨fun h => ?_, fun h => ?_⟩
    · simp at h; omega
    · have : i = n := by omega
      subst this
      rw [decide_eq_true (fun j h2 => by omega)]; rfl
  | k + 1, i, hk => by
    have e7 := next64 (i := i) (n := n) (by omega) (by omega)
    by_cases hx : (s i).size ≤ 100
    · obtain ⟨j, ih⟩ := shortLoop n s hn k (i + 1) (by omega)
      have hq : decide (∀ j, j < k + 1 → (s (i + j)).size ≤ 100) = decide (∀ j, j < k → (s (i + 1 + j)).size ≤ 100) := by
        rw [decide_eq_decide]
        constructor
        · intro h j h2
          have := h (j + 1) (by omega)
          rwa [show i + (j + 1) = i + 1 + j by omega] at this
        · intro h j h2
          by_cases hj : j = 0
          · rw [hj]; exact hx
          · have := h (j - 1) (by omega)
            rwa [show i + 1 + (j - 1) = i + j by omega] at this
      rw [hq]
      refine ⟨j, tree_i hP (shortR_t n s i (decide (∀ j, j < k → (s (i + 1 + j)).size ≤ 100)) j) ?_⟩
      simp only [Sc.Ok, Int.toNat_natCast, e7]
      refine ⟨fun _ => ⟨by omega, fun h => ?_, fun _ => ⟨ih, bif_leaf⟩⟩, fun h => ?_⟩
      · rw [decide_eq_true_iff] at h; omega
      · simp at h; omega
    · rw [decide_eq_false (fun h => hx (h 0 (by omega)))]
      refine ⟨i, tree_i hP (shortR_t n s i true i) ?_⟩
      simp only [Sc.Ok, Int.toNat_natCast, e7]
      refine ⟨fun _ => ⟨by omega, fun h => rfl, fun h => ?_⟩, fun h => ?_⟩
      · rw [decide_eq_false_iff_not] at h; omega
      · simp at h; omega
theorem cShort {n : Nat} {s : Nat → ByteArray} (hn : n ≤ 9223372036854775807) : QOk Try.prog CK (.call 32 [Sl n (Ss s)] []) ⟨.ret, [B (shortN n s)], []⟩ := by
  obtain ⟨j, hl⟩ := shortLoop n s hn n 0 (by omega)
  simp only [Nat.zero_add] at hl
  refine tree_i hP (shortT_t n s (decide (∀ j, j < n → (s j).size ≤ 100)) j) ?_
  simp only [Sc.Ok]
  unfold shortN
  refine ⟨hl, fun h => ar (congrArg B ?_), fun h => ar (congrArg B ?_)⟩
  · rw [decide_eq_true_iff] at h
    rw [decide_eq_decide]
    exact ⟨fun h2 => ⟨by omega, h⟩, fun h2 => by omega⟩
  · rw [decide_eq_false_iff_not] at h
    rw [decide_eq_false (fun h2 => h h2.2)]
theorem sameLoop (n : Nat) (s u : Nat → ByteArray) (hn : len n) : ∀ (k i : Nat), i + k = n →
    ∃ j : Nat, QOk Try.prog CK (.loop 39 0 [1, 1, 0, 1, 0] [Sl n (Ss s), Sl n (Ss u), B false, I i] []) (bif decide (∀ j, j < k → s (i + j) = u (i + j)) then ⟨.exit 0, [Sl n (Ss s), Sl n (Ss u), B false, I n], []⟩ else ⟨.ret, [Sl n (Ss s), Sl n (Ss u), B false, I j], []⟩)
  | 0, i, hk => by
    refine ⟨0, tree_i hP (sameR_t n n s u i true 0) ?_⟩
    simp only [Sc.Ok]
    refine ⟨fun h => ?_, fun h => ?_⟩
    · simp at h; omega
    · have : i = n := by omega
      subst this
      rw [decide_eq_true (fun j h2 => by omega)]; rfl
  | k + 1, i, hk => by
    have e7 := next64 (i := i) (n := n) (by omega) (by omega)
    by_cases hx : s i = u i
    · obtain ⟨j, ih⟩ := sameLoop n s u hn k (i + 1) (by omega)
      have hq : decide (∀ j, j < k + 1 → s (i + j) = u (i + j)) = decide (∀ j, j < k → s (i + 1 + j) = u (i + 1 + j)) := by
        rw [decide_eq_decide]
        constructor
        · intro h j h2
          have := h (j + 1) (by omega)
          rwa [show i + (j + 1) = i + 1 + j by omega] at this
        · intro h j h2
          by_cases hj : j = 0
          · rw [hj]; exact hx
          · have := h (j - 1) (by omega)
            rwa [show i + 1 + (j - 1) = i + j by omega] at this
      rw [hq]
      refine ⟨j, tree_i hP (sameR_t n n s u i (decide (∀ j, j < k → s (i + 1 + j) = u (i + 1 + j))) j) ?_⟩
      simp only [Sc.Ok, Int.toNat_natCast, e7]
      refine ⟨fun _ => ⟨by omega, by omega, fun h => ?_, fun _ => ⟨ih, bif_leaf⟩⟩, fun h => ?_⟩
      · rw [toList_beq, hx] at h; simp at h
      · simp at h; omega
    · rw [decide_eq_false (fun h => hx (h 0 (by omega)))]
      refine ⟨i, tree_i hP (sameR_t n n s u i true i) ?_⟩
      simp only [Sc.Ok, Int.toNat_natCast, e7]
      refine ⟨fun _ => ⟨by omega, by omega, fun h => rfl, fun h => ?_⟩, fun h => ?_⟩
      · rw [toList_beq, decide_eq_false hx] at h; simp at h
      · simp at h; omega
theorem cSame {n m : Nat} {s u : Nat → ByteArray} (hn : len n) : QOk Try.prog CK (.call 39 [Sl n (Ss s), Sl m (Ss u)] []) ⟨.ret, [B (sameS n m s u)], []⟩ := by
  by_cases hm : n = m
  · subst hm
    obtain ⟨j, hl⟩ := sameLoop n s u hn n 0 (by omega)
    have hq : decide (∀ j, j < n → s (0 + j) = u (0 + j)) = sameS n n s u := by
      unfold sameS
      rw [decide_eq_decide]
      simp only [Nat.zero_add, true_and]
    rw [hq] at hl
    refine tree_i hP (sameT_t n n s u (sameS n n s u) j) ?_
    simp only [Sc.Ok]
    refine ⟨fun h => ?_, fun _ => ⟨hl, fun h => by rw [h], fun h => by rw [h]⟩⟩
    simp at h
  · refine tree_i hP (sameT_t n m s u true 0) ?_
    have hq : sameS n m s u = false := by unfold sameS; rw [decide_eq_false (fun h => hm h.1)]
    simp only [Sc.Ok]
    refine ⟨fun _ => by rw [hq], fun h => ?_⟩
    simp at h; omega
theorem cPut {n : Nat} {s : Nat → ByteArray} {x : ByteArray} (hn : len n) (hs : ∀ i, (s i).size ≤ 9223372036854775807) : QOk Try.prog CK (.call 33 [Sl n (Ss s), Str x] []) ⟨.ret, [.tup [Sl (ptN n s x) (Ss (ptF n s x)), I (ptE n s x)]], []⟩ := by
  have e0 : (fun i => strC [PV.v (Value.string (s i))]) = s := rfl
  have stay : ∀ e : Nat, e ≠ 0 → ptE n s x = e → Weak ⟨.ret, [.tup [Sl n (Ss s), I (e : Int)]], []⟩ ⟨.ret, [.tup [Sl (ptN n s x) (Ss (ptF n s x)), I (ptE n s x)]], []⟩ := fun e h0 he => by
    have hN : ptN n s x = n := by unfold ptN; rw [he, if_neg h0]
    rw [hN, he]
    refine Weak.mkh (.cons (ALe.tups (.cons (ALe.sl fun i hi => ?_) (.cons (ALe.refl _) .nil))) .nil) .nil
    show [_] = [_]
    unfold ptF; rw [if_pos hi]
  refine tree_w hP (putT_t n s x) ?_
  simp only [Sc.Ok, e0]
  refine ⟨cRight hn hs, fun h1 => ?_, fun h1 => ⟨cNamed, fun h2 => ?_, fun h2 => ⟨cPlace hn, fun h3 => ?_, fun h3 => ⟨fun h4 => ?_, fun h4 => ⟨cClone hn, by omega, ?_⟩⟩⟩⟩⟩
  · exact stay 1 (by decide) (by unfold ptE; rw [if_pos (by simpa using h1)])
  all_goals have h1 : ¬ right n s = false := by simpa using h1
  · exact stay 3 (by decide) (by unfold ptE; rw [if_neg h1, if_pos (by simpa using h2)])
  all_goals have h2 : ¬ nmd x = false := by simpa using h2
  · exact stay 7 (by decide) (by unfold ptE; rw [if_neg h1, if_neg h2, if_pos (by rw [decide_eq_true_iff] at h3; omega)])
  all_goals have h3 : ¬ 0 < plc s x n 0 := by rw [decide_eq_false_iff_not] at h3; omega
  · exact stay 9 (by decide) (by unfold ptE; rw [if_neg h1, if_neg h2, if_neg h3, if_pos (by simp at h4; omega)])
  · have h4 : ¬ n = 32 := by simp at h4; omega
    have he : ptE n s x = 0 := by unfold ptE; rw [if_neg h1, if_neg h2, if_neg h3, if_neg h4]
    have hN : ptN n s x = n + 1 := by unfold ptN; rw [he, if_pos rfl]
    rw [hN, he]
    refine Weak.mkh (.cons (ALe.tups (.cons (ALe.sl fun i hi => ?_) (.cons (ALe.refl _) .nil))) .nil) .nil
    by_cases hi2 : i < n
    · rw [if_pos hi2]
      show [PV.v (Value.string (s i))] = [PV.v (Value.string (if i < n then s i else x))]
      rw [if_pos hi2]
    · rw [if_neg hi2, show i - n = 0 by omega]
      show [PV.v (Value.string x)] = [PV.v (Value.string (if i < n then s i else x))]
      rw [if_neg hi2]
theorem cRPut {n : Nat} {s : Nat → ByteArray} {x : ByteArray} (hn : len n) : QOk Try.prog CK (.call 34 [Sl n (Ss s), Str x] []) ⟨.ret, [.tup [Sl (ptN n s x) (Ss (ptF n s x)), I (ptE n s x)]], []⟩ := by
  have e0 : (fun i => strC [PV.v (Value.string (s i))]) = s := rfl
  have stay : ∀ e : Nat, e ≠ 0 → ptE n s x = e → Weak ⟨.ret, [.tup [Sl n (Ss s), I (e : Int)]], []⟩ ⟨.ret, [.tup [Sl (ptN n s x) (Ss (ptF n s x)), I (ptE n s x)]], []⟩ := fun e h0 he => by
    have hN : ptN n s x = n := by unfold ptN; rw [he, if_neg h0]
    rw [hN, he]
    refine Weak.mkh (.cons (ALe.tups (.cons (ALe.sl fun i hi => ?_) (.cons (ALe.refl _) .nil))) .nil) .nil
    show [_] = [_]
    unfold ptF; rw [if_pos hi]
  refine tree_w hP (rputT_t n s x) ?_
  simp only [Sc.Ok, e0, Nat.zero_add, Nat.sub_zero]
  refine ⟨cRRight hn, fun h1 => ?_, fun h1 => ⟨cRNamed, fun h2 => ?_, fun h2 => ⟨cRPlace hn, fun h3 => ?_, fun h3 => ⟨fun h4 => ?_, fun h4 => ⟨by omega, by omega, ?_⟩⟩⟩⟩⟩
  · exact stay 1 (by decide) (by unfold ptE; rw [if_pos (by simpa using h1)])
  all_goals
    have h1 : ¬ right n s = false := by simpa using h1
    have h32 : n ≤ 32 := by
      have : right n s = true := by simpa using h1
      unfold right at this
      rw [Bool.and_eq_true, decide_eq_true_iff] at this
      exact this.1
  · exact stay 3 (by decide) (by unfold ptE; rw [if_neg h1, if_pos (by simpa using h2)])
  all_goals have h2 : ¬ nmd x = false := by simpa using h2
  · exact stay 7 (by decide) (by unfold ptE; rw [if_neg h1, if_neg h2, if_pos (by rw [decide_eq_true_iff] at h3; omega)])
  all_goals have h3 : ¬ 0 < plc s x n 0 := by rw [decide_eq_false_iff_not] at h3; omega
  · exact stay 9 (by decide) (by unfold ptE; rw [if_neg h1, if_neg h2, if_neg h3, if_pos (by rw [decide_eq_true_iff] at h4; omega)])
  · have h4 : ¬ n = 32 := by rw [decide_eq_false_iff_not] at h4; omega
    have he : ptE n s x = 0 := by unfold ptE; rw [if_neg h1, if_neg h2, if_neg h3, if_neg h4]
    have hN : ptN n s x = n + 1 := by unfold ptN; rw [he, if_pos rfl]
    rw [hN, he]
    refine Weak.mkh (.cons (ALe.tups (.cons (ALe.sl fun i hi => ?_) (.cons (ALe.refl _) .nil))) .nil) .nil
    by_cases hi2 : i < n
    · rw [if_pos hi2]
      show [PV.v (Value.string (s i))] = [PV.v (Value.string (if i < n then s i else x))]
      rw [if_pos hi2]
    · rw [if_neg hi2, show i - n = 0 by omega]
      show [PV.v (Value.string x)] = [PV.v (Value.string (if i < n then s i else x))]
      rw [if_neg hi2]
theorem cAt {n : Nat} {s : Nat → ByteArray} {p : Int} (hp : -9223372036854775808 ≤ p ∧ p ≤ 9223372036854775807) : QOk Try.prog CK (.call 40 [Sl n (Ss s), I p] []) (bif decide (p < 1 ∨ (n : Int) < p) then ⟨.ret, [.tup [Str ByteArray.empty, I 14]], []⟩ else ⟨.ret, [.tup [Str (s (p - 1).toNat), I 0]], []⟩) := by
  refine tree_i hP (atT_t n s p) ?_
  simp only [Sc.Ok]
  by_cases h : p < 1 ∨ (n : Int) < p
  · rw [decide_eq_true h]
    refine ⟨fun _ => rfl, fun h1 => ⟨fun _ => rfl, fun h2 => ?_⟩⟩
    rw [decide_eq_false_iff_not] at h1 h2
    omega
  · rw [decide_eq_false h, w64 (by omega)]
    refine ⟨fun h1 => ?_, fun h1 => ⟨fun h2 => ?_, fun h2 => ⟨by omega, rfl⟩⟩⟩
    · rw [decide_eq_true_iff] at h1; omega
    · rw [decide_eq_true_iff] at h2; omega
end Names
end Go.Fx
