/- Numbers and texts as bytes: the laws. -/
import Derived.Test.YtokdkmlpfkeeaaaWireW
import Derived.Test.YtokdkmlpfkeeaaaFxRow
set_option maxRecDepth 100000
set_option maxHeartbeats 4000000
set_option linter.unusedVariables false
set_option linter.unusedSimpArgs false
namespace Go.Fx
open Go.Proofs Go.RowKit
namespace Wire
attribute [local irreducible] QOk
theorem one00_t (n : Nat)  (b : Nat → Nat)  (a m A W u : Int)  (V : Nat)  (s : ByteArray)  (h1 : Int.tmod (IntKind.wrap .i64 a) (IntKind.wrap .i64 ((n : Int) + 1)) ≤ A)  (h2 : A ≤ n)  (h3 : Int.tmod (IntKind.wrap .i64 a) (IntKind.wrap .i64 ((n : Int) + 1)) ≤ u)  (h4 : u ≤ n)  (h5 : (s.size : Int) ≤ IntKind.wrap .i64 m)  (h6 : ¬ (2000 : Int) < n)  : fol CK Try.prog (spec [(49, fun _ => some (B true)), (56, fun _ => some (.tup [Cur n (Bs b) A 0, U64 V])), (57, fun _ => some (.tup [Cur n (Bs b) A 0, I W])), (58, fun _ => some (.tup [Cur n (Bs b) u 0, Str s])), (50, fun _ => some (Sl A.toNat (Bs b))), (51, fun _ => some (Sl A.toNat (Bs b))), (52, fun _ => some (Sl u.toNat (Bs b)))] []) (An.a (An.l (An.f (An.c (An.d (An.d (An.a (An.d (An.d (An.l (An.d (An.f (An.l (An.d (An.l (An.l (An.l (An.l (An.f (An.l (An.l (An.c (An.l (An.l (An.a (An.l (An.c (An.l (An.l (An.l (An.d (An.l (An.c (An.l (An.c (An.l (An.l (An.f (An.d (An.a (An.d (An.d (An.d (An.l (An.l (An.d (An.l (An.l (An.d (An.l (An.l (An.f (An.l (An.d (An.l (An.l (An.l (An.l (An.l (An.c (An.l (An.l (An.a (An.l (An.c (An.l (An.l (An.l (An.d (An.l (An.c (An.l (An.c (An.l (An.l (An.l (An.l (An.f (An.d (An.a (An.d (An.d (An.l (An.d (An.t (An.l (An.d (An.l (An.l (An.l (An.l (An.t (An.l (An.l (An.l (An.l (An.l (An.t (An.l (An.l (An.c (An.l (An.l (An.a (An.l (An.c (An.l (An.l (An.l (An.d (An.l (An.c (An.l (An.c (An.l (An.l An.e)))))))))))))))))))))))))))))))))))))))))))))))))))))))))))))))))))))))))))))))))))))))))))))))))))))))))))))))))))) (T.evQ CK Try.prog (.call 13 [Sl n (Bs b), U16 a, U8 m] []) .done) = Sc.ask (Qry.call (49 : Nat) [] []) (Ans.mk Ex.ret [AV.c (CV.p (PV.v (Value.bool true)))] []) (Sc.no (decide ((↑n : Int) > (2000 : Int))) (Sc.chk (IntKind.wrap IntKind.i64 ((↑n : Int) + (1 : Int)) ≠ (0 : Int)) (Sc.ask (Qry.call (56 : Nat) [AV.agg [CV.p (PV.sl n fun i => [PV.v (Value.int IntKind.u8 (↑(b i) : Int))]), CV.p (PV.v (Value.int IntKind.i64 (Int.tmod (IntKind.wrap IntKind.i64 a) (IntKind.wrap IntKind.i64 ((↑n : Int) + (1 : Int)))))), CV.p (PV.v (Value.int IntKind.i64 (0 : Int)))]] []) (Ans.mk Ex.ret [AV.tup [AV.agg [CV.p (PV.sl n fun i => [PV.v (Value.int IntKind.u8 (↑(b i) : Int))]), CV.p (PV.v (Value.int IntKind.i64 A)), CV.p (PV.v (Value.int IntKind.i64 (0 : Int)))], AV.c (CV.p (PV.v (Value.int IntKind.u64 (↑V : Int))))]] []) (Sc.no (decide (A < Int.tmod (IntKind.wrap IntKind.i64 a) (IntKind.wrap IntKind.i64 ((↑n : Int) + (1 : Int))))) (Sc.no (decide (A > (↑n : Int))) (Sc.chk ((0 : Int) ≤ (0 : Int) ∧ (0 : Int) ≤ Int.tmod (IntKind.wrap IntKind.i64 a) (IntKind.wrap IntKind.i64 ((↑n : Int) + (1 : Int))) ∧ Int.tmod (IntKind.wrap IntKind.i64 a) (IntKind.wrap IntKind.i64 ((↑n : Int) + (1 : Int))) ≤ (↑n : Int)) (Sc.ask (Qry.call (50 : Nat) [AV.c (CV.p (PV.sl (Int.toNat (Int.tmod (IntKind.wrap IntKind.i64 a) (IntKind.wrap IntKind.i64 ((↑n : Int) + (1 : Int)))) - (0 : Nat)) fun i => [PV.v (Value.int IntKind.u8 (↑(b (i + Int.toNat (0 : Int))) : Int))])), AV.c (CV.p (PV.v (Value.int IntKind.u64 (↑V : Int))))] []) (Ans.mk Ex.ret [AV.c (CV.p (PV.sl (Int.toNat A) fun i => [PV.v (Value.int IntKind.u8 (↑(b i) : Int))]))] []) (Sc.chk (bytesOk (Int.toNat A) (Bs b) = true) (Sc.chk ((0 : Int) ≤ (0 : Int) ∧ (0 : Int) ≤ A ∧ A ≤ (↑n : Int)) (Sc.chk ((bytesOk (Int.toNat A - (0 : Nat)) fun i => Bs b (i + (0 : Nat))) = true) (Sc.no (!ByteArray.toList (textOf (Int.toNat A) (Bs b)) == ByteArray.toList (textOf (Int.toNat A - Int.toNat (0 : Int)) fun i => Bs b (i + Int.toNat (0 : Int)))) (Sc.ask (Qry.call (57 : Nat) [AV.agg [CV.p (PV.sl n fun i => [PV.v (Value.int IntKind.u8 (↑(b i) : Int))]), CV.p (PV.v (Value.int IntKind.i64 (Int.tmod (IntKind.wrap IntKind.i64 a) (IntKind.wrap IntKind.i64 ((↑n : Int) + (1 : Int)))))), CV.p (PV.v (Value.int IntKind.i64 (0 : Int)))]] []) (Ans.mk Ex.ret [AV.tup [AV.agg [CV.p (PV.sl n fun i => [PV.v (Value.int IntKind.u8 (↑(b i) : Int))]), CV.p (PV.v (Value.int IntKind.i64 A)), CV.p (PV.v (Value.int IntKind.i64 (0 : Int)))], AV.c (CV.p (PV.v (Value.int IntKind.i64 W)))]] []) (Sc.no (A != A) (Sc.chk ((0 : Int) ≤ (0 : Int) ∧ (0 : Int) ≤ Int.tmod (IntKind.wrap IntKind.i64 a) (IntKind.wrap IntKind.i64 ((↑n : Int) + (1 : Int))) ∧ Int.tmod (IntKind.wrap IntKind.i64 a) (IntKind.wrap IntKind.i64 ((↑n : Int) + (1 : Int))) ≤ (↑n : Int)) (Sc.ask (Qry.call (51 : Nat) [AV.c (CV.p (PV.sl (Int.toNat (Int.tmod (IntKind.wrap IntKind.i64 a) (IntKind.wrap IntKind.i64 ((↑n : Int) + (1 : Int)))) - (0 : Nat)) fun i => [PV.v (Value.int IntKind.u8 (↑(b (i + Int.toNat (0 : Int))) : Int))])), AV.c (CV.p (PV.v (Value.int IntKind.i64 W)))] []) (Ans.mk Ex.ret [AV.c (CV.p (PV.sl (Int.toNat A) fun i => [PV.v (Value.int IntKind.u8 (↑(b i) : Int))]))] []) (Sc.chk (bytesOk (Int.toNat A) (Bs b) = true) (Sc.chk ((0 : Int) ≤ (0 : Int) ∧ (0 : Int) ≤ A ∧ A ≤ (↑n : Int)) (Sc.chk ((bytesOk (Int.toNat A - (0 : Nat)) fun i => Bs b (i + (0 : Nat))) = true) (Sc.no (!ByteArray.toList (textOf (Int.toNat A) (Bs b)) == ByteArray.toList (textOf (Int.toNat A - Int.toNat (0 : Int)) fun i => Bs b (i + Int.toNat (0 : Int)))) (Sc.ask (Qry.call (58 : Nat) [AV.agg [CV.p (PV.sl n fun i => [PV.v (Value.int IntKind.u8 (↑(b i) : Int))]), CV.p (PV.v (Value.int IntKind.i64 (Int.tmod (IntKind.wrap IntKind.i64 a) (IntKind.wrap IntKind.i64 ((↑n : Int) + (1 : Int)))))), CV.p (PV.v (Value.int IntKind.i64 (0 : Int)))], AV.c (CV.p (PV.v (Value.int IntKind.i64 (IntKind.wrap IntKind.i64 m))))] []) (Ans.mk Ex.ret [AV.tup [AV.agg [CV.p (PV.sl n fun i => [PV.v (Value.int IntKind.u8 (↑(b i) : Int))]), CV.p (PV.v (Value.int IntKind.i64 u)), CV.p (PV.v (Value.int IntKind.i64 (0 : Int)))], AV.c (CV.p (PV.v (Value.string s)))]] []) (Sc.yes (decide (u ≥ Int.tmod (IntKind.wrap IntKind.i64 a) (IntKind.wrap IntKind.i64 ((↑n : Int) + (1 : Int))))) (Sc.yes (decide (u ≤ (↑n : Int))) (Sc.yes (decide ((↑(ByteArray.size s) : Int) ≤ IntKind.wrap IntKind.i64 m)) (Sc.chk ((0 : Int) ≤ (0 : Int) ∧ (0 : Int) ≤ Int.tmod (IntKind.wrap IntKind.i64 a) (IntKind.wrap IntKind.i64 ((↑n : Int) + (1 : Int))) ∧ Int.tmod (IntKind.wrap IntKind.i64 a) (IntKind.wrap IntKind.i64 ((↑n : Int) + (1 : Int))) ≤ (↑n : Int)) (Sc.ask (Qry.call (52 : Nat) [AV.c (CV.p (PV.sl (Int.toNat (Int.tmod (IntKind.wrap IntKind.i64 a) (IntKind.wrap IntKind.i64 ((↑n : Int) + (1 : Int)))) - (0 : Nat)) fun i => [PV.v (Value.int IntKind.u8 (↑(b (i + Int.toNat (0 : Int))) : Int))])), AV.c (CV.p (PV.v (Value.string s)))] []) (Ans.mk Ex.ret [AV.c (CV.p (PV.sl (Int.toNat u) fun i => [PV.v (Value.int IntKind.u8 (↑(b i) : Int))]))] []) (Sc.chk (bytesOk (Int.toNat u) (Bs b) = true) (Sc.chk ((0 : Int) ≤ (0 : Int) ∧ (0 : Int) ≤ u ∧ u ≤ (↑n : Int)) (Sc.chk ((bytesOk (Int.toNat u - (0 : Nat)) fun i => Bs b (i + (0 : Nat))) = true) (Sc.done (Ans.mk Ex.ret [AV.c (CV.p (PV.v (Value.bool (ByteArray.toList (textOf (Int.toNat u) (Bs b)) == ByteArray.toList (textOf (Int.toNat u - Int.toNat (0 : Int)) fun i => Bs b (i + Int.toNat (0 : Int)))))))] [])))))))))))))))))))))))))))))) := by kernel_rfl
theorem one01_t (n : Nat)  (b : Nat → Nat)  (a m A W t : Int)  (V : Nat)  (h1 : Int.tmod (IntKind.wrap .i64 a) (IntKind.wrap .i64 ((n : Int) + 1)) ≤ A)  (h2 : A ≤ n)  (h3 : (t == 0) = false)  (h6 : ¬ (2000 : Int) < n)  : fol CK Try.prog (spec [(49, fun _ => some (B true)), (56, fun _ => some (.tup [Cur n (Bs b) A 0, U64 V])), (57, fun _ => some (.tup [Cur n (Bs b) A 0, I W])), (58, fun x => match x with | [c, _] => (curOf c).map fun q => .tup [Cur n (Bs b) q.2.2.1 t, Str ByteArray.empty] | _ => none), (50, fun _ => some (Sl A.toNat (Bs b))), (51, fun _ => some (Sl A.toNat (Bs b)))] []) (An.a (An.l (An.f (An.c (An.d (An.d (An.a (An.d (An.d (An.l (An.d (An.f (An.l (An.d (An.l (An.l (An.l (An.l (An.f (An.l (An.l (An.c (An.l (An.l (An.a (An.l (An.c (An.l (An.l (An.l (An.d (An.l (An.c (An.l (An.c (An.l (An.l (An.f (An.d (An.a (An.d (An.d (An.d (An.l (An.l (An.d (An.l (An.l (An.d (An.l (An.l (An.f (An.l (An.d (An.l (An.l (An.l (An.l (An.l (An.c (An.l (An.l (An.a (An.l (An.c (An.l (An.l (An.l (An.d (An.l (An.c (An.l (An.c (An.l (An.l (An.l (An.l (An.f (An.d (An.a (An.d (An.d (An.t (An.l (An.l (An.d (An.l (An.l (An.l An.e))))))))))))))))))))))))))))))))))))))))))))))))))))))))))))))))))))))))))))))))))))))))) (T.evQ CK Try.prog (.call 13 [Sl n (Bs b), U16 a, U8 m] []) .done) = Sc.ask (Qry.call (49 : Nat) [] []) (Ans.mk Ex.ret [AV.c (CV.p (PV.v (Value.bool true)))] []) (Sc.no (decide ((↑n : Int) > (2000 : Int))) (Sc.chk (IntKind.wrap IntKind.i64 ((↑n : Int) + (1 : Int)) ≠ (0 : Int)) (Sc.ask (Qry.call (56 : Nat) [AV.agg [CV.p (PV.sl n fun i => [PV.v (Value.int IntKind.u8 (↑(b i) : Int))]), CV.p (PV.v (Value.int IntKind.i64 (Int.tmod (IntKind.wrap IntKind.i64 a) (IntKind.wrap IntKind.i64 ((↑n : Int) + (1 : Int)))))), CV.p (PV.v (Value.int IntKind.i64 (0 : Int)))]] []) (Ans.mk Ex.ret [AV.tup [AV.agg [CV.p (PV.sl n fun i => [PV.v (Value.int IntKind.u8 (↑(b i) : Int))]), CV.p (PV.v (Value.int IntKind.i64 A)), CV.p (PV.v (Value.int IntKind.i64 (0 : Int)))], AV.c (CV.p (PV.v (Value.int IntKind.u64 (↑V : Int))))]] []) (Sc.no (decide (A < Int.tmod (IntKind.wrap IntKind.i64 a) (IntKind.wrap IntKind.i64 ((↑n : Int) + (1 : Int))))) (Sc.no (decide (A > (↑n : Int))) (Sc.chk ((0 : Int) ≤ (0 : Int) ∧ (0 : Int) ≤ Int.tmod (IntKind.wrap IntKind.i64 a) (IntKind.wrap IntKind.i64 ((↑n : Int) + (1 : Int))) ∧ Int.tmod (IntKind.wrap IntKind.i64 a) (IntKind.wrap IntKind.i64 ((↑n : Int) + (1 : Int))) ≤ (↑n : Int)) (Sc.ask (Qry.call (50 : Nat) [AV.c (CV.p (PV.sl (Int.toNat (Int.tmod (IntKind.wrap IntKind.i64 a) (IntKind.wrap IntKind.i64 ((↑n : Int) + (1 : Int)))) - (0 : Nat)) fun i => [PV.v (Value.int IntKind.u8 (↑(b (i + Int.toNat (0 : Int))) : Int))])), AV.c (CV.p (PV.v (Value.int IntKind.u64 (↑V : Int))))] []) (Ans.mk Ex.ret [AV.c (CV.p (PV.sl (Int.toNat A) fun i => [PV.v (Value.int IntKind.u8 (↑(b i) : Int))]))] []) (Sc.chk (bytesOk (Int.toNat A) (Bs b) = true) (Sc.chk ((0 : Int) ≤ (0 : Int) ∧ (0 : Int) ≤ A ∧ A ≤ (↑n : Int)) (Sc.chk ((bytesOk (Int.toNat A - (0 : Nat)) fun i => Bs b (i + (0 : Nat))) = true) (Sc.no (!ByteArray.toList (textOf (Int.toNat A) (Bs b)) == ByteArray.toList (textOf (Int.toNat A - Int.toNat (0 : Int)) fun i => Bs b (i + Int.toNat (0 : Int)))) (Sc.ask (Qry.call (57 : Nat) [AV.agg [CV.p (PV.sl n fun i => [PV.v (Value.int IntKind.u8 (↑(b i) : Int))]), CV.p (PV.v (Value.int IntKind.i64 (Int.tmod (IntKind.wrap IntKind.i64 a) (IntKind.wrap IntKind.i64 ((↑n : Int) + (1 : Int)))))), CV.p (PV.v (Value.int IntKind.i64 (0 : Int)))]] []) (Ans.mk Ex.ret [AV.tup [AV.agg [CV.p (PV.sl n fun i => [PV.v (Value.int IntKind.u8 (↑(b i) : Int))]), CV.p (PV.v (Value.int IntKind.i64 A)), CV.p (PV.v (Value.int IntKind.i64 (0 : Int)))], AV.c (CV.p (PV.v (Value.int IntKind.i64 W)))]] []) (Sc.no (A != A) (Sc.chk ((0 : Int) ≤ (0 : Int) ∧ (0 : Int) ≤ Int.tmod (IntKind.wrap IntKind.i64 a) (IntKind.wrap IntKind.i64 ((↑n : Int) + (1 : Int))) ∧ Int.tmod (IntKind.wrap IntKind.i64 a) (IntKind.wrap IntKind.i64 ((↑n : Int) + (1 : Int))) ≤ (↑n : Int)) (Sc.ask (Qry.call (51 : Nat) [AV.c (CV.p (PV.sl (Int.toNat (Int.tmod (IntKind.wrap IntKind.i64 a) (IntKind.wrap IntKind.i64 ((↑n : Int) + (1 : Int)))) - (0 : Nat)) fun i => [PV.v (Value.int IntKind.u8 (↑(b (i + Int.toNat (0 : Int))) : Int))])), AV.c (CV.p (PV.v (Value.int IntKind.i64 W)))] []) (Ans.mk Ex.ret [AV.c (CV.p (PV.sl (Int.toNat A) fun i => [PV.v (Value.int IntKind.u8 (↑(b i) : Int))]))] []) (Sc.chk (bytesOk (Int.toNat A) (Bs b) = true) (Sc.chk ((0 : Int) ≤ (0 : Int) ∧ (0 : Int) ≤ A ∧ A ≤ (↑n : Int)) (Sc.chk ((bytesOk (Int.toNat A - (0 : Nat)) fun i => Bs b (i + (0 : Nat))) = true) (Sc.no (!ByteArray.toList (textOf (Int.toNat A) (Bs b)) == ByteArray.toList (textOf (Int.toNat A - Int.toNat (0 : Int)) fun i => Bs b (i + Int.toNat (0 : Int)))) (Sc.ask (Qry.call (58 : Nat) [AV.agg [CV.p (PV.sl n fun i => [PV.v (Value.int IntKind.u8 (↑(b i) : Int))]), CV.p (PV.v (Value.int IntKind.i64 (Int.tmod (IntKind.wrap IntKind.i64 a) (IntKind.wrap IntKind.i64 ((↑n : Int) + (1 : Int)))))), CV.p (PV.v (Value.int IntKind.i64 (0 : Int)))], AV.c (CV.p (PV.v (Value.int IntKind.i64 (IntKind.wrap IntKind.i64 m))))] []) (Ans.mk Ex.ret [AV.tup [AV.agg [CV.p (PV.sl n fun i => [PV.v (Value.int IntKind.u8 (↑(b i) : Int))]), CV.p (PV.v (Value.int IntKind.i64 (Prod.fst (Int.tmod (IntKind.wrap IntKind.i64 a) (IntKind.wrap IntKind.i64 ((↑n : Int) + (1 : Int))), (0 : Int))))), CV.p (PV.v (Value.int IntKind.i64 t))], AV.c (CV.p (PV.v (Value.string ByteArray.empty)))]] []) (Sc.yes (t != (0 : Int)) (Sc.done (Ans.mk Ex.ret [AV.c (CV.p (PV.v (Value.bool (Prod.fst (Int.tmod (IntKind.wrap IntKind.i64 a) (IntKind.wrap IntKind.i64 ((↑n : Int) + (1 : Int))), (0 : Int)) == Int.tmod (IntKind.wrap IntKind.i64 a) (IntKind.wrap IntKind.i64 ((↑n : Int) + (1 : Int)))))))] []))))))))))))))))))))))) := by kernel_rfl
theorem one11_t (n : Nat)  (b : Nat → Nat)  (a m t e : Int)  (h2 : (e == 0) = false)  (h3 : (t == 0) = false)  (h6 : ¬ (2000 : Int) < n)  : fol CK Try.prog (spec [(49, fun _ => some (B true)), (56, fun x => match x with | [c] => (curOf c).map fun q => (.tup [Cur n (Bs b) q.2.2.1 e, U64 0]) | _ => none), (57, fun x => match x with | [c] => (curOf c).map fun q => (.tup [Cur n (Bs b) q.2.2.1 e, I 0]) | _ => none), (58, fun x => match x with | [c, _] => (curOf c).map fun q => .tup [Cur n (Bs b) q.2.2.1 t, Str ByteArray.empty] | _ => none)] []) (An.a (An.l (An.f (An.c (An.d (An.d (An.a (An.d (An.d (An.f (An.l (An.l (An.d (An.l (An.l (An.l (An.f (An.d (An.a (An.d (An.d (An.d (An.f (An.l (An.d (An.l (An.l (An.d (An.l (An.l (An.f (An.l (An.d (An.l (An.l (An.f (An.l (An.l (An.l (An.l (An.l (An.l (An.l (An.l (An.l (An.l (An.l (An.l (An.l (An.l (An.l (An.d (An.a (An.d (An.d (An.t (An.l (An.l (An.d (An.l (An.l (An.l An.e)))))))))))))))))))))))))))))))))))))))))))))))))))))))))))))) (T.evQ CK Try.prog (.call 13 [Sl n (Bs b), U16 a, U8 m] []) .done) = Sc.ask (Qry.call (49 : Nat) [] []) (Ans.mk Ex.ret [AV.c (CV.p (PV.v (Value.bool true)))] []) (Sc.no (decide ((↑n : Int) > (2000 : Int))) (Sc.chk (IntKind.wrap IntKind.i64 ((↑n : Int) + (1 : Int)) ≠ (0 : Int)) (Sc.ask (Qry.call (56 : Nat) [AV.agg [CV.p (PV.sl n fun i => [PV.v (Value.int IntKind.u8 (↑(b i) : Int))]), CV.p (PV.v (Value.int IntKind.i64 (Int.tmod (IntKind.wrap IntKind.i64 a) (IntKind.wrap IntKind.i64 ((↑n : Int) + (1 : Int)))))), CV.p (PV.v (Value.int IntKind.i64 (0 : Int)))]] []) (Ans.mk Ex.ret [AV.tup [AV.agg [CV.p (PV.sl n fun i => [PV.v (Value.int IntKind.u8 (↑(b i) : Int))]), CV.p (PV.v (Value.int IntKind.i64 (Prod.fst (Int.tmod (IntKind.wrap IntKind.i64 a) (IntKind.wrap IntKind.i64 ((↑n : Int) + (1 : Int))), (0 : Int))))), CV.p (PV.v (Value.int IntKind.i64 e))], AV.c (CV.p (PV.v (Value.int IntKind.u64 (0 : Int))))]] []) (Sc.no (e == (0 : Int)) (Sc.no (Prod.fst (Int.tmod (IntKind.wrap IntKind.i64 a) (IntKind.wrap IntKind.i64 ((↑n : Int) + (1 : Int))), (0 : Int)) != Int.tmod (IntKind.wrap IntKind.i64 a) (IntKind.wrap IntKind.i64 ((↑n : Int) + (1 : Int)))) (Sc.ask (Qry.call (57 : Nat) [AV.agg [CV.p (PV.sl n fun i => [PV.v (Value.int IntKind.u8 (↑(b i) : Int))]), CV.p (PV.v (Value.int IntKind.i64 (Int.tmod (IntKind.wrap IntKind.i64 a) (IntKind.wrap IntKind.i64 ((↑n : Int) + (1 : Int)))))), CV.p (PV.v (Value.int IntKind.i64 (0 : Int)))]] []) (Ans.mk Ex.ret [AV.tup [AV.agg [CV.p (PV.sl n fun i => [PV.v (Value.int IntKind.u8 (↑(b i) : Int))]), CV.p (PV.v (Value.int IntKind.i64 (Prod.fst (Int.tmod (IntKind.wrap IntKind.i64 a) (IntKind.wrap IntKind.i64 ((↑n : Int) + (1 : Int))), (0 : Int))))), CV.p (PV.v (Value.int IntKind.i64 e))], AV.c (CV.p (PV.v (Value.int IntKind.i64 (0 : Int))))]] []) (Sc.no (e != e) (Sc.no (Prod.fst (Int.tmod (IntKind.wrap IntKind.i64 a) (IntKind.wrap IntKind.i64 ((↑n : Int) + (1 : Int))), (0 : Int)) != Prod.fst (Int.tmod (IntKind.wrap IntKind.i64 a) (IntKind.wrap IntKind.i64 ((↑n : Int) + (1 : Int))), (0 : Int))) (Sc.no (e == (0 : Int)) (Sc.ask (Qry.call (58 : Nat) [AV.agg [CV.p (PV.sl n fun i => [PV.v (Value.int IntKind.u8 (↑(b i) : Int))]), CV.p (PV.v (Value.int IntKind.i64 (Int.tmod (IntKind.wrap IntKind.i64 a) (IntKind.wrap IntKind.i64 ((↑n : Int) + (1 : Int)))))), CV.p (PV.v (Value.int IntKind.i64 (0 : Int)))], AV.c (CV.p (PV.v (Value.int IntKind.i64 (IntKind.wrap IntKind.i64 m))))] []) (Ans.mk Ex.ret [AV.tup [AV.agg [CV.p (PV.sl n fun i => [PV.v (Value.int IntKind.u8 (↑(b i) : Int))]), CV.p (PV.v (Value.int IntKind.i64 (Prod.fst (Int.tmod (IntKind.wrap IntKind.i64 a) (IntKind.wrap IntKind.i64 ((↑n : Int) + (1 : Int))), (0 : Int))))), CV.p (PV.v (Value.int IntKind.i64 t))], AV.c (CV.p (PV.v (Value.string ByteArray.empty)))]] []) (Sc.yes (t != (0 : Int)) (Sc.done (Ans.mk Ex.ret [AV.c (CV.p (PV.v (Value.bool (Prod.fst (Int.tmod (IntKind.wrap IntKind.i64 a) (IntKind.wrap IntKind.i64 ((↑n : Int) + (1 : Int))), (0 : Int)) == Int.tmod (IntKind.wrap IntKind.i64 a) (IntKind.wrap IntKind.i64 ((↑n : Int) + (1 : Int)))))))] []))))))))))))) := by kernel_rfl
theorem oneBig_t (n : Nat)  (b : Nat → Nat)  (a m : Int)  (h6 : (2000 : Int) < n)  : fol CK Try.prog (spec [(49, fun _ => some (B true))] []) (An.a (An.l (An.t An.e))) (T.evQ CK Try.prog (.call 13 [Sl n (Bs b), U16 a, U8 m] []) .done) = Sc.ask (Qry.call (49 : Nat) [] []) (Ans.mk Ex.ret [AV.c (CV.p (PV.v (Value.bool true)))] []) (Sc.yes (decide ((↑n : Int) > (2000 : Int))) (Sc.done (Ans.mk Ex.ret [AV.c (CV.p (PV.v (Value.bool true)))] []))) := by kernel_rfl
theorem wireAw_t  : fol CK Try.prog (wrS 1000000) (An.a (An.a (An.a (An.i (An.d (An.d (An.a (An.d (An.d (An.a (An.d (An.d (An.a (An.d (An.d (An.a (An.d (An.d (An.l (An.l (An.l (An.l (An.l (An.l (An.l (An.l (An.l (An.l (An.l (An.d (An.l (An.l (An.l (An.l (An.d (An.l (An.l (An.l (An.d (An.l (An.a (An.l (An.l (An.l (An.l (An.d (An.l (An.l (An.l (An.l (An.d (An.l (An.l An.e))))))))))))))))))))))))))))))))))))))))))))))))))))) (T.evQ CK Try.prog (.call 49 [] []) .done) = Sc.ask (Qry.call (50 : Nat) [AV.c (CV.p (PV.sl (0 : Nat) fun x => [])), AV.c (CV.p (PV.v (Value.int IntKind.u64 (300 : Int))))] []) (Ans.mk Ex.ret [AV.c (CV.os (0 : Nat))] [Ob.row (5 : Nat) (2 : Nat) (fun i => [PV.v (Value.int IntKind.u8 (↑(List.getD [(172 : Nat), (2 : Nat)] (i - (0 : Nat)) (0 : Nat)) : Int))]) true]) (Sc.ask (Qry.call (51 : Nat) [AV.c (CV.p (PV.sl (2 : Nat) fun i => [PV.v (Value.int IntKind.u8 (↑(List.getD [(172 : Nat), (2 : Nat)] (i - (0 : Nat)) (0 : Nat)) : Int))])), AV.c (CV.p (PV.v (Value.int IntKind.i64 (-1 : Int))))] []) (Ans.mk Ex.ret [AV.c (CV.os (0 : Nat))] [Ob.row (5 : Nat) (3 : Nat) (fun i => if i < (2 : Nat) then [PV.v (Value.int IntKind.u8 (↑(List.getD [(172 : Nat), (2 : Nat)] (i - (0 : Nat)) (0 : Nat)) : Int))] else [PV.v (Value.int IntKind.u8 (↑(List.getD [(1 : Nat)] (i - (2 : Nat)) (0 : Nat)) : Int))]) true]) (Sc.ask (Qry.call (52 : Nat) [AV.c (CV.p (PV.sl (3 : Nat) fun i => if i < (2 : Nat) then [PV.v (Value.int IntKind.u8 (↑(List.getD [(172 : Nat), (2 : Nat)] (i - (0 : Nat)) (0 : Nat)) : Int))] else [PV.v (Value.int IntKind.u8 (↑(List.getD [(1 : Nat)] (i - (2 : Nat)) (0 : Nat)) : Int))])), AV.c (CV.p (PV.v (Value.string (ByteArray.mk (Array.mk [OfNat.ofNat (97 : Nat), OfNat.ofNat (98 : Nat)])))))] []) (Ans.mk Ex.ret [AV.c (CV.os (0 : Nat))] [Ob.row (5 : Nat) (6 : Nat) (fun i => if i < (4 : Nat) then catF (3 : Nat) (catF ((0 : Nat) + List.length (pu (Int.toNat (300 : Int)))) (catF (0 : Nat) (fun x => []) (Ls (pu (Int.toNat (300 : Int))))) (Ls (pu (zz (-1 : Int))))) (Ls (pu (ByteArray.size (ByteArray.mk #[(97 : UInt8), (98 : UInt8)])))) i else [PV.v (Value.int IntKind.u8 (byteAt (ByteArray.mk #[(97 : UInt8), (98 : UInt8)]) (i - (4 : Nat))))]) true]) (Sc.ask (Qry.call (56 : Nat) [AV.agg [CV.p (PV.sl (6 : Nat) fun i => if i < (4 : Nat) then catF (3 : Nat) (catF ((0 : Nat) + List.length (pu (Int.toNat (300 : Int)))) (catF (0 : Nat) (fun x => []) (Ls (pu (Int.toNat (300 : Int))))) (Ls (pu (zz (-1 : Int))))) (Ls (pu (ByteArray.size (ByteArray.mk #[(97 : UInt8), (98 : UInt8)])))) i else [PV.v (Value.int IntKind.u8 (byteAt (ByteArray.mk #[(97 : UInt8), (98 : UInt8)]) (i - (4 : Nat))))]), CV.p (PV.v (Value.int IntKind.i64 (0 : Int))), CV.p (PV.v (Value.int IntKind.i64 (0 : Int)))]] []) (Ans.mk Ex.ret [AV.tup [AV.agg [CV.p (PV.sl (6 : Nat) fun i => if i < (4 : Nat) then catF (3 : Nat) (catF ((0 : Nat) + List.length (pu (Int.toNat (300 : Int)))) (catF (0 : Nat) (fun x => []) (Ls (pu (Int.toNat (300 : Int))))) (Ls (pu (zz (-1 : Int))))) (Ls (pu (ByteArray.size (ByteArray.mk #[(97 : UInt8), (98 : UInt8)])))) i else [PV.v (Value.int IntKind.u8 (byteAt (ByteArray.mk #[(97 : UInt8), (98 : UInt8)]) (i - (4 : Nat))))]), CV.p (PV.v (Value.int IntKind.i64 (2 : Int))), CV.p (PV.v (Value.int IntKind.i64 (0 : Int)))], AV.c (CV.p (PV.v (Value.int IntKind.u64 (300 : Int))))]] []) (Sc.ask (Qry.call (57 : Nat) [AV.agg [CV.p (PV.sl (6 : Nat) fun i => if i < (4 : Nat) then catF (3 : Nat) (catF ((0 : Nat) + List.length (pu (Int.toNat (300 : Int)))) (catF (0 : Nat) (fun x => []) (Ls (pu (Int.toNat (300 : Int))))) (Ls (pu (zz (-1 : Int))))) (Ls (pu (ByteArray.size (ByteArray.mk #[(97 : UInt8), (98 : UInt8)])))) i else [PV.v (Value.int IntKind.u8 (byteAt (ByteArray.mk #[(97 : UInt8), (98 : UInt8)]) (i - (4 : Nat))))]), CV.p (PV.v (Value.int IntKind.i64 (2 : Int))), CV.p (PV.v (Value.int IntKind.i64 (0 : Int)))]] []) (Ans.mk Ex.ret [AV.tup [AV.agg [CV.p (PV.sl (6 : Nat) fun i => if i < (4 : Nat) then catF (3 : Nat) (catF ((0 : Nat) + List.length (pu (Int.toNat (300 : Int)))) (catF (0 : Nat) (fun x => []) (Ls (pu (Int.toNat (300 : Int))))) (Ls (pu (zz (-1 : Int))))) (Ls (pu (ByteArray.size (ByteArray.mk #[(97 : UInt8), (98 : UInt8)])))) i else [PV.v (Value.int IntKind.u8 (byteAt (ByteArray.mk #[(97 : UInt8), (98 : UInt8)]) (i - (4 : Nat))))]), CV.p (PV.v (Value.int IntKind.i64 (3 : Int))), CV.p (PV.v (Value.int IntKind.i64 (0 : Int)))], AV.c (CV.p (PV.v (Value.int IntKind.i64 (-1 : Int))))]] []) (Sc.ask (Qry.call (58 : Nat) [AV.agg [CV.p (PV.sl (6 : Nat) fun i => if i < (4 : Nat) then catF (3 : Nat) (catF ((0 : Nat) + List.length (pu (Int.toNat (300 : Int)))) (catF (0 : Nat) (fun x => []) (Ls (pu (Int.toNat (300 : Int))))) (Ls (pu (zz (-1 : Int))))) (Ls (pu (ByteArray.size (ByteArray.mk #[(97 : UInt8), (98 : UInt8)])))) i else [PV.v (Value.int IntKind.u8 (byteAt (ByteArray.mk #[(97 : UInt8), (98 : UInt8)]) (i - (4 : Nat))))]), CV.p (PV.v (Value.int IntKind.i64 (3 : Int))), CV.p (PV.v (Value.int IntKind.i64 (0 : Int)))], AV.c (CV.p (PV.v (Value.int IntKind.i64 (9 : Int))))] []) (Ans.mk Ex.ret [AV.tup [AV.agg [CV.p (PV.sl (6 : Nat) fun i => if i < (4 : Nat) then catF (3 : Nat) (catF ((0 : Nat) + List.length (pu (Int.toNat (300 : Int)))) (catF (0 : Nat) (fun x => []) (Ls (pu (Int.toNat (300 : Int))))) (Ls (pu (zz (-1 : Int))))) (Ls (pu (ByteArray.size (ByteArray.mk #[(97 : UInt8), (98 : UInt8)])))) i else [PV.v (Value.int IntKind.u8 (byteAt (ByteArray.mk #[(97 : UInt8), (98 : UInt8)]) (i - (4 : Nat))))]), CV.p (PV.v (Value.int IntKind.i64 (6 : Int))), CV.p (PV.v (Value.int IntKind.i64 (0 : Int)))], AV.c (CV.p (PV.v (Value.string (tS (6 : Nat) (catF ((0 : Nat) + List.length (pu (Int.toNat (300 : Int))) + List.length (pu (zz (-1 : Int))) + List.length (pu (ByteArray.size (ByteArray.mk #[(97 : UInt8), (98 : UInt8)])))) (catF ((0 : Nat) + List.length (pu (Int.toNat (300 : Int))) + List.length (pu (zz (-1 : Int)))) (catF ((0 : Nat) + List.length (pu (Int.toNat (300 : Int)))) (catF (0 : Nat) (fun x => []) (Ls (pu (Int.toNat (300 : Int))))) (Ls (pu (zz (-1 : Int))))) (Ls (pu (ByteArray.size (ByteArray.mk #[(97 : UInt8), (98 : UInt8)]))))) (strF (ByteArray.mk #[(97 : UInt8), (98 : UInt8)]))) (3 : Int) (0 : Int) (9 : Int)))))]] []) (Sc.ask (Qry.call (56 : Nat) [AV.agg [CV.p (PV.sl (6 : Nat) fun i => if i < (4 : Nat) then catF (3 : Nat) (catF ((0 : Nat) + List.length (pu (Int.toNat (300 : Int)))) (catF (0 : Nat) (fun x => []) (Ls (pu (Int.toNat (300 : Int))))) (Ls (pu (zz (-1 : Int))))) (Ls (pu (ByteArray.size (ByteArray.mk #[(97 : UInt8), (98 : UInt8)])))) i else [PV.v (Value.int IntKind.u8 (byteAt (ByteArray.mk #[(97 : UInt8), (98 : UInt8)]) (i - (4 : Nat))))]), CV.p (PV.v (Value.int IntKind.i64 (6 : Int))), CV.p (PV.v (Value.int IntKind.i64 (0 : Int)))]] []) (Ans.mk Ex.ret [AV.tup [AV.agg [CV.p (PV.sl (6 : Nat) fun i => if i < (4 : Nat) then catF (3 : Nat) (catF ((0 : Nat) + List.length (pu (Int.toNat (300 : Int)))) (catF (0 : Nat) (fun x => []) (Ls (pu (Int.toNat (300 : Int))))) (Ls (pu (zz (-1 : Int))))) (Ls (pu (ByteArray.size (ByteArray.mk #[(97 : UInt8), (98 : UInt8)])))) i else [PV.v (Value.int IntKind.u8 (byteAt (ByteArray.mk #[(97 : UInt8), (98 : UInt8)]) (i - (4 : Nat))))]), CV.p (PV.v (Value.int IntKind.i64 (6 : Int))), CV.p (PV.v (Value.int IntKind.i64 (10 : Int)))], AV.c (CV.p (PV.v (Value.int IntKind.u64 (0 : Int))))]] []) (Sc.ask (Qry.call (55 : Nat) [AV.agg [CV.p (PV.sl (6 : Nat) fun i => if i < (4 : Nat) then catF (3 : Nat) (catF ((0 : Nat) + List.length (pu (Int.toNat (300 : Int)))) (catF (0 : Nat) (fun x => []) (Ls (pu (Int.toNat (300 : Int))))) (Ls (pu (zz (-1 : Int))))) (Ls (pu (ByteArray.size (ByteArray.mk #[(97 : UInt8), (98 : UInt8)])))) i else [PV.v (Value.int IntKind.u8 (byteAt (ByteArray.mk #[(97 : UInt8), (98 : UInt8)]) (i - (4 : Nat))))]), CV.p (PV.v (Value.int IntKind.i64 (6 : Int))), CV.p (PV.v (Value.int IntKind.i64 (0 : Int)))]] []) (Ans.mk Ex.ret [AV.c (CV.p (PV.v (Value.int IntKind.i64 (0 : Int))))] []) (Sc.done (Ans.mk Ex.ret [AV.c (CV.p (PV.v (Value.bool true)))] []))))))))) := by kernel_rfl

theorem strF_text {n : Nat} {f : Nat → List PV} (hf : BOk n f) {i : Nat} (hi : i < n) : strF (textOf n f) i = f i := by
  show [PV.v (Value.int .u8 (((textOf n f).data.getD i 0).toNat : Int))] = f i
  rw [textOf_get hf hi, hf.cell hi]
  rw [UInt8.toNat_ofNat', Nat.mod_eq_of_lt (byN_lt f i)]
theorem cAw : QOk Try.prog CK (.call 49 [] []) ⟨.ret, [B true], []⟩ := by
  refine tree_i hP wireAw_t ?_
  simp only [Sc.Ok]
  have b1 : BOk 0 (fun _ => ([] : List PV)) := fun i hi => by omega
  have small : ∀ {k : Nat}, k ≤ 100 → wl k := fun h => by unfold wl; omega
  refine ⟨cPutU (v := 300) b1 (small (by decide)) (by decide), cPutI (n := 2) (k := -1) ?_ (small (by decide)) (by decide), cPutT (n := 3) (s := ⟨#[97, 98]⟩) ?_ (small (by decide)) (small (by decide)),
    cUint (n := 6) (a := 0) (e := 0) ?_ (small (by decide)), cInt (n := 6) (a := 2) (e := 0) ?_ (small (by decide)), cText (n := 6) (a := 3) (e := 0) (k := 9) ?_ (small (by decide)) (by decide), cUint (n := 6) (a := 6) (e := 0) ?_ (small (by decide)), cLeft (n := 6) (a := 6) (e := 0) (small (by decide)), trivial⟩
  · exact BOk.of fun i hi => by
      match i, hi with
      | 0, _ => exact ⟨172, by decide, rfl⟩
      | 1, _ => exact ⟨2, by decide, rfl⟩
  · exact BOk.of fun i hi => by
      match i, hi with
      | 0, _ => exact ⟨172, by decide, rfl⟩
      | 1, _ => exact ⟨2, by decide, rfl⟩
      | 2, _ => exact ⟨1, by decide, rfl⟩
  all_goals
    exact BOk.of fun i hi => by
      match i, hi with
      | 0, _ => exact ⟨172, by decide, rfl⟩
      | 1, _ => exact ⟨2, by decide, rfl⟩
      | 2, _ => exact ⟨1, by decide, rfl⟩
      | 3, _ => exact ⟨2, by decide, rfl⟩
      | 4, _ => exact ⟨97, by decide, rfl⟩
      | 5, _ => exact ⟨98, by decide, rfl⟩
/-- A place in the bytes. -/
def plc (n : Nat) (a : Int) : Nat := a.toNat % (n + 1)
theorem plc_eq {n : Nat} {a : Int} (hn : n ≤ 2000) (ha : 0 ≤ a ∧ a ≤ 65535) : Int.tmod (IntKind.wrap .i64 a) (IntKind.wrap .i64 ((n : Int) + 1)) = (plc n a : Int) := by
  rw [w64 (by omega), w64 (by omega)]
  obtain ⟨k, rfl⟩ : ∃ k : Nat, a = k := ⟨a.toNat, by omega⟩
  unfold plc
  rw [Int.toNat_natCast]
  exact tmodN k (n + 1)
theorem plc_le (n : Nat) (a : Int) : plc n a ≤ n := by have := Nat.mod_lt a.toNat (show 0 < n + 1 by omega); unfold plc; omega
/-- A number that was read is put as it stood. -/
theorem read_put {n K : Nat} {b : Nat → Nat} (hb : ∀ i, b i < 256) (hK : K ≤ n) (h : uE n (Bs b) K 0 = 0) :
    uA n (Bs b) K 0 = ((K + (pu (uV n (Bs b) K 0)).length : Nat) : Int) ∧ K + (pu (uV n (Bs b) K 0)).length ≤ n ∧ ∀ j, j < (pu (uV n (Bs b) K 0)).length → (pu (uV n (Bs b) K 0)).getD j 0 = b (K + j) := by
  have hr : rt n (K : Int) 0 = true := rt_iff.2 ⟨rfl, by omega, by omega⟩
  have hs : szE (n - (K : Int).toNat) (byN (sh (Bs b) (K : Int).toNat)) = 0 := by unfold uE at h; rw [if_pos hr] at h; exact h
  have e0 : (K : Int).toNat = K := Int.toNat_natCast K
  have := of_size (b := byN (sh (Bs b) (K : Int).toNat)) (fun i => byN_lt _ i) hs
  unfold uA uV uK
  rw [if_pos hr, if_pos hr]
  rw [e0] at this ⊢
  obtain ⟨g1, g2, g3, g4, g5⟩ := this
  rw [g5]
  simp only [List.length_map, List.length_range]
  refine ⟨by omega, by omega, fun j hj => ?_⟩
  rw [List.getD_eq_getElem?_getD, List.getElem?_map, List.getElem?_range hj]
  show byN (Bs b) (j + K) = b (K + j)
  rw [byN_Bs _ _ (hb _), Nat.add_comm]
theorem put_back {n K : Nat} {b : Nat → Nat} (hb : ∀ i, b i < 256) (hK : K ≤ n) (hn : n ≤ 2000) (h : uE n (Bs b) K 0 = 0) :
    QOk Try.prog CK (.call 50 [Sl K (Bs b), U64 (uV n (Bs b) K 0)] []) ⟨.ret, [Sl (uA n (Bs b) K 0).toNat (Bs b)], []⟩ ∧
    QOk Try.prog CK (.call 51 [Sl K (Bs b), I (uz (uV n (Bs b) K 0))] []) ⟨.ret, [Sl (uA n (Bs b) K 0).toNat (Bs b)], []⟩ := by
  obtain ⟨g1, g2, g3⟩ := read_put hb hK h
  have hV := uV_lt n (Bs b) K 0
  have hB : BOk K (Bs b) := BOk.bs K (fun i _ => hb i)
  have pt : ∀ i, i < K + (pu (uV n (Bs b) K 0)).length → catF K (Bs b) (Ls (pu (uV n (Bs b) K 0))) i = Bs b i := by
    intro i hi
    unfold catF
    split
    · rfl
    · show [PV.v (Value.int .u8 (((pu (uV n (Bs b) K 0)).getD (i - K) 0 : Nat) : Int))] = [PV.v (Value.int .u8 ((b i : Nat) : Int))]
      rw [g3 (i - K) (by omega), show K + (i - K) = i by omega]
  constructor
  · refine QOk.slice (cPutU hB (by unfold wl; omega) hV).frz (by rw [g1, Int.toNat_natCast]) pt
  · have q := (cPutI hB (by unfold wl; omega) (uz_rng hV)).frz
    rw [zz_uz] at q
    exact QOk.slice q (by rw [g1, Int.toNat_natCast]) pt
theorem text_back {n K : Nat} {b : Nat → Nat} {m : Int} (hb : ∀ i, b i < 256) (hK : K ≤ n) (hn : n ≤ 2000) (hE : tE n (Bs b) K 0 m = 0) :
    QOk Try.prog CK (.call 52 [Sl K (Bs b), Str (tS n (Bs b) K 0 m)] []) ⟨.ret, [Sl (tA n (Bs b) K 0 m).toNat (Bs b)], []⟩ ∧ (K : Int) ≤ tA n (Bs b) K 0 m ∧ tA n (Bs b) K 0 m ≤ n ∧ ((tS n (Bs b) K 0 m).size : Int) ≤ m := by
  have hu : uE n (Bs b) K 0 = 0 := by
    unfold tE at hE
    split at hE
    · rename_i hx; exact absurd hE hx
    · omega
  obtain ⟨g1, g2, g3⟩ := read_put hb hK hu
  have hm : ¬ (m < 0 ∨ m < uV n (Bs b) K 0) := fun hx => by
    unfold tE at hE
    rw [if_neg (by omega), if_pos hx] at hE
    omega
  have hle : ¬ (n : Int) - uA n (Bs b) K 0 < uV n (Bs b) K 0 := fun hx => by
    unfold tE at hE
    rw [if_neg (by omega), if_neg hm, if_pos hx] at hE
    omega
  have eA : tA n (Bs b) K 0 m = uA n (Bs b) K 0 + uV n (Bs b) K 0 := by unfold tA; rw [if_pos hE]
  have eS : tS n (Bs b) K 0 m = textOf (uV n (Bs b) K 0) (fun i => Bs b (i + (uA n (Bs b) K 0).toNat)) := by unfold tS; rw [if_pos hE]
  have hz : (tS n (Bs b) K 0 m).size = uV n (Bs b) K 0 := by rw [eS, textOf_size]
  generalize hs : tS n (Bs b) K 0 m = s at *
  have hB : BOk K (Bs b) := BOk.bs K (fun i _ => hb i)
  have hV := uV_lt n (Bs b) K 0
  generalize uV n (Bs b) K 0 = V at *
  have q := (cPutT (s := s) hB (by unfold wl; omega) (by unfold wl; omega)).frz
  rw [eA, g1]
  rw [hz] at q
  refine ⟨QOk.slice q (by omega) (fun i hi => ?_), by omega, by omega, by rw [hz]; omega⟩
  unfold catF
  split
  · split
    · rfl
    · show [PV.v (Value.int .u8 (((pu V).getD (i - K) 0 : Nat) : Int))] = [PV.v (Value.int .u8 ((b i : Nat) : Int))]
      rw [g3 (i - K) (by omega), show K + (i - K) = i by omega]
  · rw [eS, strF_text (BOk.bs (l := fun i => b (i + (uA n (Bs b) K 0).toNat)) _ (fun i _ => hb _)) (by omega)]
    rw [g1, Int.toNat_natCast]
    show Bs b _ = Bs b i
    rw [show i - (K + (pu V).length) + (K + (pu V).length) = i by omega]
theorem lawOne {n : Nat} {b : Nat → Nat} {a m : Int} (hb : ∀ i, b i < 256) (ha : 0 ≤ a ∧ a ≤ 65535) (hm : 0 ≤ m ∧ m ≤ 255) : CallIn Try.prog 13 [Sl n (Bs b), U16 a, U8 m] [] ⟨.ret, [B true], []⟩ := by
  by_cases hn : (2000 : Int) < n
  · refine treeIn_i hP (oneBig_t n b a m hn) ?_
    simp only [Sc.Ok]
    exact ⟨cAw, by simpa using hn, trivial⟩
  have hn' : n ≤ 2000 := by omega
  have hK := plc_eq (n := n) hn' ha
  have hKn := plc_le n a
  have hwm : IntKind.wrap .i64 m = m := w64 (by omega)
  have hw1 : IntKind.wrap .i64 ((n : Int) + 1) = (n : Int) + 1 := w64 (by omega)
  have hB : BOk n (Bs b) := BOk.bs n (fun i _ => hb i)
  generalize hKd : plc n a = K at *
  have qU := cUint (a := (K : Int)) (e := 0) hB (by unfold wl; omega)
  have qI := cInt (a := (K : Int)) (e := 0) hB (by unfold wl; omega)
  have qT := cText (a := (K : Int)) (e := 0) (k := m) hB (by unfold wl; omega) (by omega)
  have ok : ∀ l : Nat, bytesOk l (Bs b) = true := fun l => BOk.ok (BOk.bs l (fun i _ => hb i))
  have hno : ∀ {t : Int}, tE n (Bs b) K 0 m = t → t ≠ 0 → tA n (Bs b) K 0 m = K ∧ tS n (Bs b) K 0 m = ByteArray.empty := fun h1 h2 => by
    unfold tA tS; rw [if_neg (by rw [h1]; exact h2), if_neg (by rw [h1]; exact h2)]; exact ⟨rfl, rfl⟩
  by_cases hE : uE n (Bs b) K 0 = 0
  · obtain ⟨g1, g2, g3⟩ := read_put hb hKn hE
    obtain ⟨q1, q2⟩ := put_back hb hKn hn' hE
    rw [hE] at qU qI
    have c1 : (K : Int) ≤ uA n (Bs b) K 0 := by omega
    have c2 : uA n (Bs b) K 0 ≤ n := by omega
    by_cases hT : tE n (Bs b) K 0 m = 0
    · obtain ⟨q3, c3, c4, c5⟩ := text_back hb hKn hn' hT
      rw [hT] at qT
      refine treeIn_i hP (one00_t n b a m (uA n (Bs b) K 0) (uz (uV n (Bs b) K 0)) (tA n (Bs b) K 0 m) (uV n (Bs b) K 0) (tS n (Bs b) K 0 m) (by rw [hK]; exact c1) c2 (by rw [hK]; exact c3) c4 (by rw [hwm]; exact c5) hn) ?_
      simp only [Sc.Ok, hK, Int.toNat_natCast, Nat.sub_zero, Nat.add_zero, Int.toNat_zero, hwm, ok]
      repeat' first | exact cAw | exact qU | exact qI | exact qT | exact q1 | exact q2 | exact q3 | apply And.intro | trivial
      all_goals first | omega | (rw [hw1]; omega) | (simp; done) | (simp; omega) | (simpa using hT)
    · obtain ⟨e1, e2⟩ := hno rfl hT
      rw [e1, e2] at qT
      refine treeIn_i hP (one01_t n b a m (uA n (Bs b) K 0) (uz (uV n (Bs b) K 0)) (tE n (Bs b) K 0 m) (uV n (Bs b) K 0) (by rw [hK]; exact c1) c2 (by simpa using hT) hn) ?_
      simp only [Sc.Ok, hK, Int.toNat_natCast, Nat.sub_zero, Nat.add_zero, Int.toNat_zero, hwm, ok]
      repeat' first | exact cAw | exact qU | exact qI | exact qT | exact q1 | exact q2 | exact q3 | apply And.intro | trivial
      all_goals first | omega | (rw [hw1]; omega) | (simp; done) | (simp; omega) | (simpa using hT)
  · have hr : rt n (K : Int) 0 = true := rt_iff.2 ⟨rfl, by omega, by omega⟩
    have hs : szE (n - (K : Int).toNat) (byN (sh (Bs b) (K : Int).toNat)) ≠ 0 := by unfold uE at hE; rw [if_pos hr] at hE; exact hE
    have hA : uA n (Bs b) K 0 = K := by unfold uA uK; rw [if_pos hr, szK_of_err hs]; omega
    have hV : uV n (Bs b) K 0 = 0 := by unfold uV uK; rw [if_pos hr, szK_of_err hs]; rfl
    have hT : tE n (Bs b) K 0 m ≠ 0 := by unfold tE; rw [if_pos hE]; exact hE
    obtain ⟨e1, e2⟩ := hno rfl hT
    rw [e1, e2] at qT
    rw [hA, hV] at qU qI
    refine treeIn_i hP (one11_t n b a m (tE n (Bs b) K 0 m) (uE n (Bs b) K 0) (by simpa using hE) (by simpa using hT) hn) ?_
    simp only [Sc.Ok, hK, Int.toNat_natCast, Nat.sub_zero, Nat.add_zero, Int.toNat_zero, hwm, ok]
    repeat' first | exact cAw | exact qU | exact qI | exact qT | apply And.intro | trivial
    all_goals first | omega | (rw [hw1]; omega) | (simp; done) | (simp; omega) | (simpa using hT) | (simpa using hE)
theorem av_bytes (n : Nat) (f : Nat → Int) (h : ∀ i, 0 ≤ f i ∧ f i ≤ 255) : Sh.av (.sl (.int .u8)) (n, f) = Sl n (Bs (fun i => (f i).toNat)) := by
  have e : (fun i => [PV.v (Value.int .u8 (f i))]) = Bs (fun i => (f i).toNat) := funext fun i => by
    show _ = [_]
    rw [Int.toNat_of_nonneg (h i).1]
  exact congrArg (fun g => Sl n g) e
theorem rowOne (n : Nat) (f : Nat → Int) (a m : Int) (h1 : ∀ i, 0 ≤ f i ∧ f i ≤ 255) (h2 : 0 ≤ a ∧ a ≤ 65535) (h3 : 0 ≤ m ∧ m ≤ 255) : CallIn Try.prog 13 [Sh.av (.sl (.int .u8)) (n, f), Sh.av (.int .u16) a, Sh.av (.int .u8) m] [] ⟨.ret, [B true], []⟩ := by
  rw [av_bytes n f h1]
  exact lawOne (fun i => by have := h1 i; omega) h2 h3
end Wire
end Go.Fx
