/- Tallies: the laws. -/
import Derived.Test.YtokdkmlpfkeeaaaTallyA
import Derived.Test.YtokdkmlpfkeeaaaFxRow
set_option maxRecDepth 100000
set_option maxHeartbeats 4000000
set_option linter.unusedVariables false
set_option linter.unusedSimpArgs false
namespace Go.Fx
open Go.Proofs
namespace Tally
open Fl
attribute [local irreducible] QOk
theorem law5_t (a b c d m n : Int)  : fol CK Try.prog (tlS 25) (An.a (An.l (An.a (An.a (An.a (An.b (An.l (An.l (An.l (An.l (An.l (An.l (An.l (An.l (An.l (An.l (An.l (An.l (An.l (An.l (An.l (An.l (An.l (An.l (An.l (An.l (An.l (An.l An.e)))))))))))))))))))))) (An.l (An.a (An.l (An.l (An.l (An.l (An.b (An.l (An.l (An.l (An.l (An.l (An.l (An.l (An.l (An.l (An.l (An.l (An.l (An.l (An.l (An.l (An.l An.e)))))))))))))))) (An.l (An.l (An.l (An.a (An.l (An.l (An.l (An.a (An.l (An.l (An.l (An.l (An.l (An.l (An.l (An.a (An.l (An.l (An.b An.e (An.i (An.i (An.l (An.d (An.c (An.i (An.l (An.d (An.c (An.i (An.l (An.a (An.a (An.a (An.i (An.i (An.l (An.d (An.c (An.i (An.l (An.d (An.c (An.i (An.l An.e))))))))))))))))))))))))))))))))))))))))))))))))))))))))) (T.evQ CK Try.prog (.call 5 [I a, I b, I c, I d, .c (.p (.v (.int .i16 m))), .c (.p (.v (.int .i16 n)))] []) .done) = Sc.ask (Qry.call (25 : Nat) [] []) (Ans.mk Ex.ret [AV.c (CV.p (PV.v (Value.bool true)))] []) (Sc.ask (Qry.call (26 : Nat) [AV.c (CV.p (PV.v (Value.int IntKind.i64 a))), AV.c (CV.p (PV.v (Value.int IntKind.i64 b)))] []) (Ans.mk Ex.ret [AV.c (CV.p (PV.v (Value.complex FloatKind.f64 (wf (hold a)) (wf (hold b)))))] []) (Sc.ask (Qry.call (26 : Nat) [AV.c (CV.p (PV.v (Value.int IntKind.i64 c))), AV.c (CV.p (PV.v (Value.int IntKind.i64 d)))] []) (Ans.mk Ex.ret [AV.c (CV.p (PV.v (Value.complex FloatKind.f64 (wf (hold c)) (wf (hold d)))))] []) (Sc.ask (Qry.call (27 : Nat) [AV.c (CV.p (PV.v (Value.complex FloatKind.f64 (wf (hold a)) (wf (hold b))))), AV.c (CV.p (PV.v (Value.int IntKind.i64 (4 : Int))))] []) (Ans.mk Ex.ret [AV.c (CV.p (PV.v (Value.complex FloatKind.f64 (Prod.fst (wf (hold a), wf (hold b))) (Prod.snd (wf (hold a), wf (hold b))))))] []) (Sc.br (!(Ieee.Format.order (FloatKind.format FloatKind.f64) (Prod.fst (wf (hold a), wf (hold b))) (wf (hold a)) == some Ordering.eq && Ieee.Format.order (FloatKind.format FloatKind.f64) (Prod.snd (wf (hold a), wf (hold b))) (wf (hold b)) == some Ordering.eq)) (Sc.done (Ans.mk Ex.ret [AV.c (CV.p (PV.v (Value.bool false)))] [])) (Sc.ask (Qry.call (27 : Nat) [AV.c (CV.p (PV.v (Value.complex FloatKind.f64 (wf (hold a)) (wf (hold b))))), AV.c (CV.p (PV.v (Value.int IntKind.i64 (2 : Int))))] []) (Ans.mk Ex.ret [AV.c (CV.p (PV.v (Value.complex FloatKind.f64 (Prod.fst (ng (Prod.snd (ng (Prod.snd (wf (hold a), wf (hold b))), Prod.fst (wf (hold a), wf (hold b)))), Prod.fst (ng (Prod.snd (wf (hold a), wf (hold b))), Prod.fst (wf (hold a), wf (hold b))))) (Prod.snd (ng (Prod.snd (ng (Prod.snd (wf (hold a), wf (hold b))), Prod.fst (wf (hold a), wf (hold b)))), Prod.fst (ng (Prod.snd (wf (hold a), wf (hold b))), Prod.fst (wf (hold a), wf (hold b))))))))] []) (Sc.br (!(Ieee.Format.order (FloatKind.format FloatKind.f64) (Prod.fst (ng (Prod.snd (ng (Prod.snd (wf (hold a), wf (hold b))), Prod.fst (wf (hold a), wf (hold b)))), Prod.fst (ng (Prod.snd (wf (hold a), wf (hold b))), Prod.fst (wf (hold a), wf (hold b))))) (Op.negFloat FloatKind.f64 (wf (hold a))) == some Ordering.eq && Ieee.Format.order (FloatKind.format FloatKind.f64) (Prod.snd (ng (Prod.snd (ng (Prod.snd (wf (hold a), wf (hold b))), Prod.fst (wf (hold a), wf (hold b)))), Prod.fst (ng (Prod.snd (wf (hold a), wf (hold b))), Prod.fst (wf (hold a), wf (hold b))))) (Op.negFloat FloatKind.f64 (wf (hold b))) == some Ordering.eq)) (Sc.done (Ans.mk Ex.ret [AV.c (CV.p (PV.v (Value.bool false)))] [])) (Sc.ask (Qry.call (27 : Nat) [AV.c (CV.p (PV.v (Value.complex FloatKind.f64 (wf (hold a)) (wf (hold b))))), AV.c (CV.p (PV.v (Value.int IntKind.i64 (IntKind.wrap IntKind.i64 m))))] []) (Ans.mk Ex.ret [AV.c (CV.p (PV.v (Value.complex FloatKind.f64 (Prod.fst (trn (Int.toNat (IntKind.wrap IntKind.i64 m % (4 : Int))) (wf (hold a), wf (hold b)))) (Prod.snd (trn (Int.toNat (IntKind.wrap IntKind.i64 m % (4 : Int))) (wf (hold a), wf (hold b)))))))] []) (Sc.ask (Qry.call (27 : Nat) [AV.c (CV.p (PV.v (Value.complex FloatKind.f64 (Prod.fst (trn (Int.toNat (IntKind.wrap IntKind.i64 m % (4 : Int))) (wf (hold a), wf (hold b)))) (Prod.snd (trn (Int.toNat (IntKind.wrap IntKind.i64 m % (4 : Int))) (wf (hold a), wf (hold b))))))), AV.c (CV.p (PV.v (Value.int IntKind.i64 (IntKind.wrap IntKind.i64 n))))] []) (Ans.mk Ex.ret [AV.c (CV.p (PV.v (Value.complex FloatKind.f64 (Prod.fst (trn (Int.toNat (IntKind.wrap IntKind.i64 n % (4 : Int))) (Prod.fst (trn (Int.toNat (IntKind.wrap IntKind.i64 m % (4 : Int))) (wf (hold a), wf (hold b))), Prod.snd (trn (Int.toNat (IntKind.wrap IntKind.i64 m % (4 : Int))) (wf (hold a), wf (hold b)))))) (Prod.snd (trn (Int.toNat (IntKind.wrap IntKind.i64 n % (4 : Int))) (Prod.fst (trn (Int.toNat (IntKind.wrap IntKind.i64 m % (4 : Int))) (wf (hold a), wf (hold b))), Prod.snd (trn (Int.toNat (IntKind.wrap IntKind.i64 m % (4 : Int))) (wf (hold a), wf (hold b)))))))))] []) (Sc.ask (Qry.call (27 : Nat) [AV.c (CV.p (PV.v (Value.complex FloatKind.f64 (wf (hold a)) (wf (hold b))))), AV.c (CV.p (PV.v (Value.int IntKind.i64 (IntKind.wrap IntKind.i64 (IntKind.wrap IntKind.i64 m + IntKind.wrap IntKind.i64 n)))))] []) (Ans.mk Ex.ret [AV.c (CV.p (PV.v (Value.complex FloatKind.f64 (Prod.fst (trn (Int.toNat (IntKind.wrap IntKind.i64 (IntKind.wrap IntKind.i64 m + IntKind.wrap IntKind.i64 n) % (4 : Int))) (wf (hold a), wf (hold b)))) (Prod.snd (trn (Int.toNat (IntKind.wrap IntKind.i64 (IntKind.wrap IntKind.i64 m + IntKind.wrap IntKind.i64 n) % (4 : Int))) (wf (hold a), wf (hold b)))))))] []) (Sc.br (!(Ieee.Format.order (FloatKind.format FloatKind.f64) (Prod.fst (trn (Int.toNat (IntKind.wrap IntKind.i64 n % (4 : Int))) (Prod.fst (trn (Int.toNat (IntKind.wrap IntKind.i64 m % (4 : Int))) (wf (hold a), wf (hold b))), Prod.snd (trn (Int.toNat (IntKind.wrap IntKind.i64 m % (4 : Int))) (wf (hold a), wf (hold b)))))) (Prod.fst (trn (Int.toNat (IntKind.wrap IntKind.i64 (IntKind.wrap IntKind.i64 m + IntKind.wrap IntKind.i64 n) % (4 : Int))) (wf (hold a), wf (hold b)))) == some Ordering.eq && Ieee.Format.order (FloatKind.format FloatKind.f64) (Prod.snd (trn (Int.toNat (IntKind.wrap IntKind.i64 n % (4 : Int))) (Prod.fst (trn (Int.toNat (IntKind.wrap IntKind.i64 m % (4 : Int))) (wf (hold a), wf (hold b))), Prod.snd (trn (Int.toNat (IntKind.wrap IntKind.i64 m % (4 : Int))) (wf (hold a), wf (hold b)))))) (Prod.snd (trn (Int.toNat (IntKind.wrap IntKind.i64 (IntKind.wrap IntKind.i64 m + IntKind.wrap IntKind.i64 n) % (4 : Int))) (wf (hold a), wf (hold b)))) == some Ordering.eq)) (Sc.done (Ans.mk Ex.ret [AV.c (CV.p (PV.v (Value.bool false)))] [])) (Sc.chk ((Option.isSome (Ieee.Format.add Ieee.double (0 : Nat) (wf (hold a))) && Option.isSome (Ieee.Format.add Ieee.double (0 : Nat) (wf (hold b)))) = true) (Sc.chk ((Option.isSome (Ieee.Format.add Ieee.double (Option.getD (Ieee.Format.add Ieee.double (0 : Nat) (wf (hold a))) (0 : Nat)) (wf (hold c))) && Option.isSome (Ieee.Format.add Ieee.double (Option.getD (Ieee.Format.add Ieee.double (0 : Nat) (wf (hold b))) (0 : Nat)) (wf (hold d)))) = true) (Sc.ask (Qry.call (27 : Nat) [AV.c (CV.p (PV.v (Value.complex FloatKind.f64 (Option.getD (Ieee.Format.add Ieee.double (Option.getD (Ieee.Format.add Ieee.double (0 : Nat) (wf (hold a))) (0 : Nat)) (wf (hold c))) (0 : Nat)) (Option.getD (Ieee.Format.add Ieee.double (Option.getD (Ieee.Format.add Ieee.double (0 : Nat) (wf (hold b))) (0 : Nat)) (wf (hold d))) (0 : Nat))))), AV.c (CV.p (PV.v (Value.int IntKind.i64 (IntKind.wrap IntKind.i64 m))))] []) (Ans.mk Ex.ret [AV.c (CV.p (PV.v (Value.complex FloatKind.f64 (Prod.fst (trn (Int.toNat (IntKind.wrap IntKind.i64 m % (4 : Int))) (Option.getD (Ieee.Format.add Ieee.double (Option.getD (Ieee.Format.add Ieee.double (0 : Nat) (wf (hold a))) (0 : Nat)) (wf (hold c))) (0 : Nat), Option.getD (Ieee.Format.add Ieee.double (Option.getD (Ieee.Format.add Ieee.double (0 : Nat) (wf (hold b))) (0 : Nat)) (wf (hold d))) (0 : Nat)))) (Prod.snd (trn (Int.toNat (IntKind.wrap IntKind.i64 m % (4 : Int))) (Option.getD (Ieee.Format.add Ieee.double (Option.getD (Ieee.Format.add Ieee.double (0 : Nat) (wf (hold a))) (0 : Nat)) (wf (hold c))) (0 : Nat), Option.getD (Ieee.Format.add Ieee.double (Option.getD (Ieee.Format.add Ieee.double (0 : Nat) (wf (hold b))) (0 : Nat)) (wf (hold d))) (0 : Nat)))))))] []) (Sc.ask (Qry.call (27 : Nat) [AV.c (CV.p (PV.v (Value.complex FloatKind.f64 (wf (hold a)) (wf (hold b))))), AV.c (CV.p (PV.v (Value.int IntKind.i64 (IntKind.wrap IntKind.i64 m))))] []) (Ans.mk Ex.ret [AV.c (CV.p (PV.v (Value.complex FloatKind.f64 (Prod.fst (trn (Int.toNat (IntKind.wrap IntKind.i64 m % (4 : Int))) (wf (hold a), wf (hold b)))) (Prod.snd (trn (Int.toNat (IntKind.wrap IntKind.i64 m % (4 : Int))) (wf (hold a), wf (hold b)))))))] []) (Sc.ask (Qry.call (27 : Nat) [AV.c (CV.p (PV.v (Value.complex FloatKind.f64 (wf (hold c)) (wf (hold d))))), AV.c (CV.p (PV.v (Value.int IntKind.i64 (IntKind.wrap IntKind.i64 m))))] []) (Ans.mk Ex.ret [AV.c (CV.p (PV.v (Value.complex FloatKind.f64 (Prod.fst (trn (Int.toNat (IntKind.wrap IntKind.i64 m % (4 : Int))) (wf (hold c), wf (hold d)))) (Prod.snd (trn (Int.toNat (IntKind.wrap IntKind.i64 m % (4 : Int))) (wf (hold c), wf (hold d)))))))] []) (Sc.chk ((Option.isSome (Ieee.Format.add Ieee.double (0 : Nat) (Prod.fst (trn (Int.toNat (IntKind.wrap IntKind.i64 m % (4 : Int))) (wf (hold a), wf (hold b))))) && Option.isSome (Ieee.Format.add Ieee.double (0 : Nat) (Prod.snd (trn (Int.toNat (IntKind.wrap IntKind.i64 m % (4 : Int))) (wf (hold a), wf (hold b)))))) = true) (Sc.chk ((Option.isSome (Ieee.Format.add Ieee.double (Option.getD (Ieee.Format.add Ieee.double (0 : Nat) (Prod.fst (trn (Int.toNat (IntKind.wrap IntKind.i64 m % (4 : Int))) (wf (hold a), wf (hold b))))) (0 : Nat)) (Prod.fst (trn (Int.toNat (IntKind.wrap IntKind.i64 m % (4 : Int))) (wf (hold c), wf (hold d))))) && Option.isSome (Ieee.Format.add Ieee.double (Option.getD (Ieee.Format.add Ieee.double (0 : Nat) (Prod.snd (trn (Int.toNat (IntKind.wrap IntKind.i64 m % (4 : Int))) (wf (hold a), wf (hold b))))) (0 : Nat)) (Prod.snd (trn (Int.toNat (IntKind.wrap IntKind.i64 m % (4 : Int))) (wf (hold c), wf (hold d)))))) = true) (Sc.done (Ans.mk Ex.ret [AV.c (CV.p (PV.v (Value.bool (Ieee.Format.order (FloatKind.format FloatKind.f64) (Prod.fst (trn (Int.toNat (IntKind.wrap IntKind.i64 m % (4 : Int))) (Option.getD (Ieee.Format.add Ieee.double (Option.getD (Ieee.Format.add Ieee.double (0 : Nat) (wf (hold a))) (0 : Nat)) (wf (hold c))) (0 : Nat), Option.getD (Ieee.Format.add Ieee.double (Option.getD (Ieee.Format.add Ieee.double (0 : Nat) (wf (hold b))) (0 : Nat)) (wf (hold d))) (0 : Nat)))) (Option.getD (Ieee.Format.add Ieee.double (Option.getD (Ieee.Format.add Ieee.double (0 : Nat) (Prod.fst (trn (Int.toNat (IntKind.wrap IntKind.i64 m % (4 : Int))) (wf (hold a), wf (hold b))))) (0 : Nat)) (Prod.fst (trn (Int.toNat (IntKind.wrap IntKind.i64 m % (4 : Int))) (wf (hold c), wf (hold d))))) (0 : Nat)) == some Ordering.eq && Ieee.Format.order (FloatKind.format FloatKind.f64) (Prod.snd (trn (Int.toNat (IntKind.wrap IntKind.i64 m % (4 : Int))) (Option.getD (Ieee.Format.add Ieee.double (Option.getD (Ieee.Format.add Ieee.double (0 : Nat) (wf (hold a))) (0 : Nat)) (wf (hold c))) (0 : Nat), Option.getD (Ieee.Format.add Ieee.double (Option.getD (Ieee.Format.add Ieee.double (0 : Nat) (wf (hold b))) (0 : Nat)) (wf (hold d))) (0 : Nat)))) (Option.getD (Ieee.Format.add Ieee.double (Option.getD (Ieee.Format.add Ieee.double (0 : Nat) (Prod.snd (trn (Int.toNat (IntKind.wrap IntKind.i64 m % (4 : Int))) (wf (hold a), wf (hold b))))) (0 : Nat)) (Prod.snd (trn (Int.toNat (IntKind.wrap IntKind.i64 m % (4 : Int))) (wf (hold c), wf (hold d))))) (0 : Nat)) == some Ordering.eq))))] []))))))))))))))))))) := by kernel_rfl
theorem awake25_t  : fol CK Try.prog (tlS 1000000) (An.a (An.a (An.i (An.i (An.l (An.d (An.d (An.i (An.l (An.d (An.d (An.i (An.l (An.a (An.a (An.a (An.a (An.a (An.l (An.l (An.l (An.l (An.l (An.l (An.l (An.l (An.l (An.l (An.l (An.l (An.l (An.l (An.l An.e))))))))))))))))))))))))))))))))) (T.evQ CK Try.prog (.call 25 [] []) .done) = Sc.ask (Qry.call (26 : Nat) [AV.c (CV.p (PV.v (Value.int IntKind.i64 (3 : Int)))), AV.c (CV.p (PV.v (Value.int IntKind.i64 (4 : Int))))] []) (Ans.mk Ex.ret [AV.c (CV.p (PV.v (Value.complex FloatKind.f64 (4613937818241073152 : Nat) (4616189618054758400 : Nat))))] []) (Sc.ask (Qry.call (26 : Nat) [AV.c (CV.p (PV.v (Value.int IntKind.i64 (1 : Int)))), AV.c (CV.p (PV.v (Value.int IntKind.i64 (1 : Int))))] []) (Ans.mk Ex.ret [AV.c (CV.p (PV.v (Value.complex FloatKind.f64 (4607182418800017408 : Nat) (4607182418800017408 : Nat))))] []) (Sc.ask (Qry.call (62 : Nat) [AV.c (CV.p (PV.v (Value.complex FloatKind.f64 (4616189618054758400 : Nat) (4617315517961601024 : Nat))))] []) (Ans.mk Ex.ret [AV.tup [AV.c (CV.p (PV.v (Value.int IntKind.i64 (4 : Int)))), AV.c (CV.p (PV.v (Value.int IntKind.i64 (5 : Int))))]] []) (Sc.ask (Qry.call (26 : Nat) [AV.c (CV.p (PV.v (Value.int IntKind.i64 (3 : Int)))), AV.c (CV.p (PV.v (Value.int IntKind.i64 (4 : Int))))] []) (Ans.mk Ex.ret [AV.c (CV.p (PV.v (Value.complex FloatKind.f64 (4613937818241073152 : Nat) (4616189618054758400 : Nat))))] []) (Sc.ask (Qry.call (27 : Nat) [AV.c (CV.p (PV.v (Value.complex FloatKind.f64 (4613937818241073152 : Nat) (4616189618054758400 : Nat)))), AV.c (CV.p (PV.v (Value.int IntKind.i64 (5 : Int))))] []) (Ans.mk Ex.ret [AV.c (CV.p (PV.v (Value.complex FloatKind.f64 (13839561654909534208 : Nat) (4613937818241073152 : Nat))))] []) (Sc.ask (Qry.call (62 : Nat) [AV.c (CV.p (PV.v (Value.complex FloatKind.f64 (13839561654909534208 : Nat) (4613937818241073152 : Nat))))] []) (Ans.mk Ex.ret [AV.tup [AV.c (CV.p (PV.v (Value.int IntKind.i64 (-4 : Int)))), AV.c (CV.p (PV.v (Value.int IntKind.i64 (3 : Int))))]] []) (Sc.ask (Qry.call (29 : Nat) [AV.c (CV.p (PV.sl (5 : Nat) fun i => List.getD [[PV.v (Value.int IntKind.i64 (5 : Int))], [PV.v (Value.int IntKind.i64 (1 : Int))], [PV.v (Value.int IntKind.i64 (0 : Int))], [PV.v (Value.int IntKind.i64 (0 : Int))], [PV.v (Value.int IntKind.i64 (5 : Int))]] i []))] []) (Ans.mk Ex.ret [AV.tup [AV.c (CV.p (PV.v (Value.int IntKind.i64 (10 : Int)))), AV.c (CV.p (PV.v (Value.int IntKind.i64 (1 : Int))))]] []) (Sc.done (Ans.mk Ex.ret [AV.c (CV.p (PV.v (Value.bool true)))] [])))))))) := by kernel_rfl
theorem law6Z_t (n : Nat)  (l : Nat → Int)  (z : Int)  : fol CK Try.prog (tlS 25) (An.a (An.l (An.b An.e (An.a (An.a (An.b (An.l (An.l (An.l (An.l An.e)))) (An.l (An.l (An.l (An.b An.e (An.i (An.l (An.a (An.l (An.l (An.l (An.l (An.b An.e (An.c (An.a (An.b (An.l (An.l (An.l An.e))) (An.l (An.l (An.l An.e)))))))))))))))))))))))) (T.evQ CK Try.prog (.call 6 [Sl n (Is l), I z, .c (.p (.v (.int .u8 0)))] []) .done) = Sc.ask (Qry.call (25 : Nat) [] []) (Ans.mk Ex.ret [AV.c (CV.p (PV.v (Value.bool true)))] []) (Sc.br (decide ((↑n : Int) > (5000 : Int))) (Sc.done (Ans.mk Ex.ret [AV.c (CV.p (PV.v (Value.bool true)))] [])) (Sc.ask (Qry.call (29 : Nat) [AV.c (CV.p (PV.sl n fun i => [PV.v (Value.int IntKind.i64 (l i))]))] []) (Ans.mk Ex.ret [AV.tup [AV.c (CV.p (PV.v (Value.int IntKind.i64 (Prod.fst (bif Nat.ble n (4096 : Nat) then brun (fun i => intC [PV.v (Value.int IntKind.i64 (l i))]) n (0 : Nat) ((0 : Int), (0 : Int)) else ((0 : Int), (0 : Int))))))), AV.c (CV.p (PV.v (Value.int IntKind.i64 (Prod.snd (bif Nat.ble n (4096 : Nat) then brun (fun i => intC [PV.v (Value.int IntKind.i64 (l i))]) n (0 : Nat) ((0 : Int), (0 : Int)) else ((0 : Int), (0 : Int)))))))]] []) (Sc.ask (Qry.call (30 : Nat) [AV.c (CV.p (PV.sl n fun i => [PV.v (Value.int IntKind.i64 (l i))]))] []) (Ans.mk Ex.ret [AV.tup [AV.c (CV.p (PV.v (Value.int IntKind.i64 (Prod.fst (bif Nat.ble n (4096 : Nat) then brun (fun i => intC [PV.v (Value.int IntKind.i64 (l i))]) n (0 : Nat) ((0 : Int), (0 : Int)) else ((0 : Int), (0 : Int))))))), AV.c (CV.p (PV.v (Value.int IntKind.i64 (Prod.snd (bif Nat.ble n (4096 : Nat) then brun (fun i => intC [PV.v (Value.int IntKind.i64 (l i))]) n (0 : Nat) ((0 : Int), (0 : Int)) else ((0 : Int), (0 : Int)))))))]] []) (Sc.br (Prod.fst (bif Nat.ble n (4096 : Nat) then brun (fun i => intC [PV.v (Value.int IntKind.i64 (l i))]) n (0 : Nat) ((0 : Int), (0 : Int)) else ((0 : Int), (0 : Int))) != Prod.fst (bif Nat.ble n (4096 : Nat) then brun (fun i => intC [PV.v (Value.int IntKind.i64 (l i))]) n (0 : Nat) ((0 : Int), (0 : Int)) else ((0 : Int), (0 : Int)))) (Sc.done (Ans.mk Ex.ret [AV.c (CV.p (PV.v (Value.bool false)))] [])) (Sc.br (Prod.snd (bif Nat.ble n (4096 : Nat) then brun (fun i => intC [PV.v (Value.int IntKind.i64 (l i))]) n (0 : Nat) ((0 : Int), (0 : Int)) else ((0 : Int), (0 : Int))) != Prod.snd (bif Nat.ble n (4096 : Nat) then brun (fun i => intC [PV.v (Value.int IntKind.i64 (l i))]) n (0 : Nat) ((0 : Int), (0 : Int)) else ((0 : Int), (0 : Int)))) (Sc.done (Ans.mk Ex.ret [AV.c (CV.p (PV.v (Value.bool false)))] [])) (Sc.ask (Qry.call (29 : Nat) [AV.c (CV.p (PV.sl (0 : Nat) fun x => []))] []) (Ans.mk Ex.ret [AV.tup [AV.c (CV.p (PV.v (Value.int IntKind.i64 (0 : Int)))), AV.c (CV.p (PV.v (Value.int IntKind.i64 (0 : Int))))]] []) (Sc.br (decide ((↑n : Int) ≥ (4096 : Int))) (Sc.done (Ans.mk Ex.ret [AV.c (CV.p (PV.v (Value.bool true)))] [])) (Sc.chk (((1 : Nat) + n) * (8 : Nat) ≤ (140737488355328 : Nat) ∧ (1 : Nat) + n ≤ (9223372036854775807 : Nat)) (Sc.ask (Qry.call (29 : Nat) [AV.c (CV.p (PV.sl ((1 : Nat) + n) fun i => if i < (1 : Nat) then litF [[PV.v (Value.int IntKind.i64 (0 : Int))]] i else [PV.v (Value.int IntKind.i64 (l (i - (1 : Nat))))]))] []) (Ans.mk Ex.ret [AV.tup [AV.c (CV.p (PV.v (Value.int IntKind.i64 (Prod.fst (bif Nat.ble ((1 : Nat) + n) (4096 : Nat) then brun (fun i => intC (catF (1 : Nat) (litF [[PV.v (Value.int IntKind.i64 (0 : Int))]]) (Is l) i)) ((1 : Nat) + n) (0 : Nat) ((0 : Int), (0 : Int)) else ((0 : Int), (0 : Int))))))), AV.c (CV.p (PV.v (Value.int IntKind.i64 (Prod.snd (bif Nat.ble ((1 : Nat) + n) (4096 : Nat) then brun (fun i => intC (catF (1 : Nat) (litF [[PV.v (Value.int IntKind.i64 (0 : Int))]]) (Is l) i)) ((1 : Nat) + n) (0 : Nat) ((0 : Int), (0 : Int)) else ((0 : Int), (0 : Int)))))))]] []) (Sc.br (Prod.fst (bif Nat.ble ((1 : Nat) + n) (4096 : Nat) then brun (fun i => intC (catF (1 : Nat) (litF [[PV.v (Value.int IntKind.i64 (0 : Int))]]) (Is l) i)) ((1 : Nat) + n) (0 : Nat) ((0 : Int), (0 : Int)) else ((0 : Int), (0 : Int))) == IntKind.wrap IntKind.i64 ((0 : Int) - Prod.snd (bif Nat.ble n (4096 : Nat) then brun (fun i => intC [PV.v (Value.int IntKind.i64 (l i))]) n (0 : Nat) ((0 : Int), (0 : Int)) else ((0 : Int), (0 : Int))))) (Sc.done (Ans.mk Ex.ret [AV.c (CV.p (PV.v (Value.bool (Prod.snd (bif Nat.ble ((1 : Nat) + n) (4096 : Nat) then brun (fun i => intC (catF (1 : Nat) (litF [[PV.v (Value.int IntKind.i64 (0 : Int))]]) (Is l) i)) ((1 : Nat) + n) (0 : Nat) ((0 : Int), (0 : Int)) else ((0 : Int), (0 : Int))) == Prod.fst (bif Nat.ble n (4096 : Nat) then brun (fun i => intC [PV.v (Value.int IntKind.i64 (l i))]) n (0 : Nat) ((0 : Int), (0 : Int)) else ((0 : Int), (0 : Int)))))))] [])) (Sc.done (Ans.mk Ex.ret [AV.c (CV.p (PV.v (Value.bool false)))] [])))))))))))) := by kernel_rfl
theorem law6_t (n : Nat)  (l : Nat → Int)  (z : Int)  (t : Nat)  : fol CK Try.prog (SLo 6 (fun vals h => match vals with | [a, b, c, d, e, _, _] => some ⟨.exit 0, [a, b, c, d, e, .c (.os 0), I (4 * t : Nat)], [.row 2 (4 * t) (Is fun _ => z) true]⟩ | _ => none) (tlS 25)) (An.a (An.l (An.b An.e (An.a (An.a (An.b (An.l (An.l (An.l (An.l An.e)))) (An.l (An.l (An.l (An.b An.e (An.a (An.a (An.b (An.l (An.l (An.l An.e))) (An.l (An.l (An.b An.e (An.b An.e (An.c (An.a (An.b (An.l (An.l (An.l An.e))) (An.l (An.l (An.l An.e))))))))))))))))))))))) (T.evQ CK Try.prog (.call 6 [Sl n (Is l), I z, .c (.p (.v (.int .u8 t)))] []) .done) = Sc.ask (Qry.call (25 : Nat) [] []) (Ans.mk Ex.ret [AV.c (CV.p (PV.v (Value.bool true)))] []) (Sc.br (decide ((↑n : Int) > (5000 : Int))) (Sc.done (Ans.mk Ex.ret [AV.c (CV.p (PV.v (Value.bool true)))] [])) (Sc.ask (Qry.call (29 : Nat) [AV.c (CV.p (PV.sl n fun i => [PV.v (Value.int IntKind.i64 (l i))]))] []) (Ans.mk Ex.ret [AV.tup [AV.c (CV.p (PV.v (Value.int IntKind.i64 (Prod.fst (bif Nat.ble n (4096 : Nat) then brun (fun i => intC [PV.v (Value.int IntKind.i64 (l i))]) n (0 : Nat) ((0 : Int), (0 : Int)) else ((0 : Int), (0 : Int))))))), AV.c (CV.p (PV.v (Value.int IntKind.i64 (Prod.snd (bif Nat.ble n (4096 : Nat) then brun (fun i => intC [PV.v (Value.int IntKind.i64 (l i))]) n (0 : Nat) ((0 : Int), (0 : Int)) else ((0 : Int), (0 : Int)))))))]] []) (Sc.ask (Qry.call (30 : Nat) [AV.c (CV.p (PV.sl n fun i => [PV.v (Value.int IntKind.i64 (l i))]))] []) (Ans.mk Ex.ret [AV.tup [AV.c (CV.p (PV.v (Value.int IntKind.i64 (Prod.fst (bif Nat.ble n (4096 : Nat) then brun (fun i => intC [PV.v (Value.int IntKind.i64 (l i))]) n (0 : Nat) ((0 : Int), (0 : Int)) else ((0 : Int), (0 : Int))))))), AV.c (CV.p (PV.v (Value.int IntKind.i64 (Prod.snd (bif Nat.ble n (4096 : Nat) then brun (fun i => intC [PV.v (Value.int IntKind.i64 (l i))]) n (0 : Nat) ((0 : Int), (0 : Int)) else ((0 : Int), (0 : Int)))))))]] []) (Sc.br (Prod.fst (bif Nat.ble n (4096 : Nat) then brun (fun i => intC [PV.v (Value.int IntKind.i64 (l i))]) n (0 : Nat) ((0 : Int), (0 : Int)) else ((0 : Int), (0 : Int))) != Prod.fst (bif Nat.ble n (4096 : Nat) then brun (fun i => intC [PV.v (Value.int IntKind.i64 (l i))]) n (0 : Nat) ((0 : Int), (0 : Int)) else ((0 : Int), (0 : Int)))) (Sc.done (Ans.mk Ex.ret [AV.c (CV.p (PV.v (Value.bool false)))] [])) (Sc.br (Prod.snd (bif Nat.ble n (4096 : Nat) then brun (fun i => intC [PV.v (Value.int IntKind.i64 (l i))]) n (0 : Nat) ((0 : Int), (0 : Int)) else ((0 : Int), (0 : Int))) != Prod.snd (bif Nat.ble n (4096 : Nat) then brun (fun i => intC [PV.v (Value.int IntKind.i64 (l i))]) n (0 : Nat) ((0 : Int), (0 : Int)) else ((0 : Int), (0 : Int)))) (Sc.done (Ans.mk Ex.ret [AV.c (CV.p (PV.v (Value.bool false)))] [])) (Sc.ask (Qry.loop (6 : Nat) (0 : Nat) [(1 : Nat), (1 : Nat), (1 : Nat), (1 : Nat), (1 : Nat), (1 : Nat), (1 : Nat), (0 : Nat), (1 : Nat), (0 : Nat)] [AV.c (CV.p (PV.sl n fun i => [PV.v (Value.int IntKind.i64 (l i))])), AV.c (CV.p (PV.v (Value.int IntKind.i64 z))), AV.c (CV.p (PV.v (Value.int IntKind.u8 (↑t : Int)))), AV.c (CV.p (PV.v (Value.int IntKind.i64 (Prod.fst (bif Nat.ble n (4096 : Nat) then brun (fun i => intC [PV.v (Value.int IntKind.i64 (l i))]) n (0 : Nat) ((0 : Int), (0 : Int)) else ((0 : Int), (0 : Int))))))), AV.c (CV.p (PV.v (Value.int IntKind.i64 (Prod.snd (bif Nat.ble n (4096 : Nat) then brun (fun i => intC [PV.v (Value.int IntKind.i64 (l i))]) n (0 : Nat) ((0 : Int), (0 : Int)) else ((0 : Int), (0 : Int))))))), AV.c CV.nils, AV.c (CV.p (PV.v (Value.int IntKind.i64 (0 : Int))))] []) (Ans.mk (Ex.exit (0 : Nat)) [AV.c (CV.p (PV.sl n fun i => [PV.v (Value.int IntKind.i64 (l i))])), AV.c (CV.p (PV.v (Value.int IntKind.i64 z))), AV.c (CV.p (PV.v (Value.int IntKind.u8 (↑t : Int)))), AV.c (CV.p (PV.v (Value.int IntKind.i64 (Prod.fst (bif Nat.ble n (4096 : Nat) then brun (fun i => intC [PV.v (Value.int IntKind.i64 (l i))]) n (0 : Nat) ((0 : Int), (0 : Int)) else ((0 : Int), (0 : Int))))))), AV.c (CV.p (PV.v (Value.int IntKind.i64 (Prod.snd (bif Nat.ble n (4096 : Nat) then brun (fun i => intC [PV.v (Value.int IntKind.i64 (l i))]) n (0 : Nat) ((0 : Int), (0 : Int)) else ((0 : Int), (0 : Int))))))), AV.c (CV.os (0 : Nat)), AV.c (CV.p (PV.v (Value.int IntKind.i64 (↑((4 : Nat) * t) : Int))))] [Ob.row (2 : Nat) ((4 : Nat) * t) (fun i => [PV.v (Value.int IntKind.i64 z)]) true]) (Sc.ask (Qry.call (29 : Nat) [AV.c (CV.p (PV.sl ((4 : Nat) * t) fun i => [PV.v (Value.int IntKind.i64 z)]))] []) (Ans.mk Ex.ret [AV.tup [AV.c (CV.p (PV.v (Value.int IntKind.i64 (Prod.fst (bif Nat.ble ((4 : Nat) * t) (4096 : Nat) then brun (fun i => intC [PV.v (Value.int IntKind.i64 z)]) ((4 : Nat) * t) (0 : Nat) ((0 : Int), (0 : Int)) else ((0 : Int), (0 : Int))))))), AV.c (CV.p (PV.v (Value.int IntKind.i64 (Prod.snd (bif Nat.ble ((4 : Nat) * t) (4096 : Nat) then brun (fun i => intC [PV.v (Value.int IntKind.i64 z)]) ((4 : Nat) * t) (0 : Nat) ((0 : Int), (0 : Int)) else ((0 : Int), (0 : Int)))))))]] []) (Sc.br (Prod.fst (bif Nat.ble ((4 : Nat) * t) (4096 : Nat) then brun (fun i => intC [PV.v (Value.int IntKind.i64 z)]) ((4 : Nat) * t) (0 : Nat) ((0 : Int), (0 : Int)) else ((0 : Int), (0 : Int))) != (0 : Int)) (Sc.done (Ans.mk Ex.ret [AV.c (CV.p (PV.v (Value.bool false)))] [])) (Sc.br (Prod.snd (bif Nat.ble ((4 : Nat) * t) (4096 : Nat) then brun (fun i => intC [PV.v (Value.int IntKind.i64 z)]) ((4 : Nat) * t) (0 : Nat) ((0 : Int), (0 : Int)) else ((0 : Int), (0 : Int))) != (0 : Int)) (Sc.done (Ans.mk Ex.ret [AV.c (CV.p (PV.v (Value.bool false)))] [])) (Sc.br (decide ((↑n : Int) ≥ (4096 : Int))) (Sc.done (Ans.mk Ex.ret [AV.c (CV.p (PV.v (Value.bool true)))] [])) (Sc.chk (((1 : Nat) + n) * (8 : Nat) ≤ (140737488355328 : Nat) ∧ (1 : Nat) + n ≤ (9223372036854775807 : Nat)) (Sc.ask (Qry.call (29 : Nat) [AV.c (CV.p (PV.sl ((1 : Nat) + n) fun i => if i < (1 : Nat) then litF [[PV.v (Value.int IntKind.i64 (0 : Int))]] i else [PV.v (Value.int IntKind.i64 (l (i - (1 : Nat))))]))] []) (Ans.mk Ex.ret [AV.tup [AV.c (CV.p (PV.v (Value.int IntKind.i64 (Prod.fst (bif Nat.ble ((1 : Nat) + n) (4096 : Nat) then brun (fun i => intC (catF (1 : Nat) (litF [[PV.v (Value.int IntKind.i64 (0 : Int))]]) (Is l) i)) ((1 : Nat) + n) (0 : Nat) ((0 : Int), (0 : Int)) else ((0 : Int), (0 : Int))))))), AV.c (CV.p (PV.v (Value.int IntKind.i64 (Prod.snd (bif Nat.ble ((1 : Nat) + n) (4096 : Nat) then brun (fun i => intC (catF (1 : Nat) (litF [[PV.v (Value.int IntKind.i64 (0 : Int))]]) (Is l) i)) ((1 : Nat) + n) (0 : Nat) ((0 : Int), (0 : Int)) else ((0 : Int), (0 : Int)))))))]] []) (Sc.br (Prod.fst (bif Nat.ble ((1 : Nat) + n) (4096 : Nat) then brun (fun i => intC (catF (1 : Nat) (litF [[PV.v (Value.int IntKind.i64 (0 : Int))]]) (Is l) i)) ((1 : Nat) + n) (0 : Nat) ((0 : Int), (0 : Int)) else ((0 : Int), (0 : Int))) == IntKind.wrap IntKind.i64 ((0 : Int) - Prod.snd (bif Nat.ble n (4096 : Nat) then brun (fun i => intC [PV.v (Value.int IntKind.i64 (l i))]) n (0 : Nat) ((0 : Int), (0 : Int)) else ((0 : Int), (0 : Int))))) (Sc.done (Ans.mk Ex.ret [AV.c (CV.p (PV.v (Value.bool (Prod.snd (bif Nat.ble ((1 : Nat) + n) (4096 : Nat) then brun (fun i => intC (catF (1 : Nat) (litF [[PV.v (Value.int IntKind.i64 (0 : Int))]]) (Is l) i)) ((1 : Nat) + n) (0 : Nat) ((0 : Int), (0 : Int)) else ((0 : Int), (0 : Int))) == Prod.fst (bif Nat.ble n (4096 : Nat) then brun (fun i => intC [PV.v (Value.int IntKind.i64 (l i))]) n (0 : Nat) ((0 : Int), (0 : Int)) else ((0 : Int), (0 : Int)))))))] [])) (Sc.done (Ans.mk Ex.ret [AV.c (CV.p (PV.v (Value.bool false)))] []))))))))))))))) := by kernel_rfl
theorem law6R0_t (n : Nat)  (l : Nat → Int)  (z : Int)  (t : Nat)  (a b : Int)  : fol CK Try.prog (SLo 6 (fun vals h => match vals with | [a, b, c, d, e, _, _] => some ⟨.exit 0, [a, b, c, d, e, .c (.os 0), I (4 * t : Nat)], [.row 2 (4 * t) (Is fun _ => z) true]⟩ | _ => none) noS) (An.b (An.d (An.a An.e)) An.e) (T.evQ CK Try.prog (.loop 6 0 [1, 1, 1, 1, 1, 1, 1, 0, 1, 0] [Sl n (Is l), I z, .c (.p (.v (.int .u8 t))), I a, I b, .c .nils, I 0] []) .done) = Sc.br (decide ((0 : Int) < IntKind.wrap IntKind.i64 ((4 : Int) * IntKind.wrap IntKind.i64 (↑t : Int)))) (Sc.ask (Qry.loop (6 : Nat) (0 : Nat) [(1 : Nat), (1 : Nat), (1 : Nat), (1 : Nat), (1 : Nat), (1 : Nat), (1 : Nat), (0 : Nat), (1 : Nat), (0 : Nat)] [AV.c (CV.p (PV.sl n fun i => [PV.v (Value.int IntKind.i64 (l i))])), AV.c (CV.p (PV.v (Value.int IntKind.i64 z))), AV.c (CV.p (PV.v (Value.int IntKind.u8 (↑t : Int)))), AV.c (CV.p (PV.v (Value.int IntKind.i64 a))), AV.c (CV.p (PV.v (Value.int IntKind.i64 b))), AV.c (CV.os (0 : Nat)), AV.c (CV.p (PV.v (Value.int IntKind.i64 (1 : Int))))] [Ob.row (2 : Nat) (1 : Nat) (fun i => if i < (0 : Nat) then [] else litF [[PV.v (Value.int IntKind.i64 z)]] (i - (0 : Nat))) true]) (Ans.mk (Ex.exit (0 : Nat)) [AV.c (CV.p (PV.sl n fun i => [PV.v (Value.int IntKind.i64 (l i))])), AV.c (CV.p (PV.v (Value.int IntKind.i64 z))), AV.c (CV.p (PV.v (Value.int IntKind.u8 (↑t : Int)))), AV.c (CV.p (PV.v (Value.int IntKind.i64 a))), AV.c (CV.p (PV.v (Value.int IntKind.i64 b))), AV.c (CV.os (0 : Nat)), AV.c (CV.p (PV.v (Value.int IntKind.i64 (↑((4 : Nat) * t) : Int))))] [Ob.row (2 : Nat) ((4 : Nat) * t) (fun i => [PV.v (Value.int IntKind.i64 z)]) true]) (Sc.done (Ans.mk (Ex.exit (0 : Nat)) [AV.c (CV.p (PV.sl n fun i => [PV.v (Value.int IntKind.i64 (l i))])), AV.c (CV.p (PV.v (Value.int IntKind.i64 z))), AV.c (CV.p (PV.v (Value.int IntKind.u8 (↑t : Int)))), AV.c (CV.p (PV.v (Value.int IntKind.i64 a))), AV.c (CV.p (PV.v (Value.int IntKind.i64 b))), AV.c (CV.os (0 : Nat)), AV.c (CV.p (PV.v (Value.int IntKind.i64 (↑((4 : Nat) * t) : Int))))] [Ob.row (2 : Nat) ((4 : Nat) * t) (fun i => [PV.v (Value.int IntKind.i64 z)]) true]))) (Sc.done (Ans.mk (Ex.exit (0 : Nat)) [AV.c (CV.p (PV.sl n fun i => [PV.v (Value.int IntKind.i64 (l i))])), AV.c (CV.p (PV.v (Value.int IntKind.i64 z))), AV.c (CV.p (PV.v (Value.int IntKind.u8 (↑t : Int)))), AV.c (CV.p (PV.v (Value.int IntKind.i64 a))), AV.c (CV.p (PV.v (Value.int IntKind.i64 b))), AV.c CV.nils, AV.c (CV.p (PV.v (Value.int IntKind.i64 (0 : Int))))] [])) := by kernel_rfl
theorem law6R_t (n : Nat)  (l : Nat → Int)  (z : Int)  (t : Nat)  (a b : Int)  (i : Nat)  : fol CK Try.prog (SLo 6 (fun vals h => match vals with | [a, b, c, d, e, _, _] => some ⟨.exit 0, [a, b, c, d, e, .c (.os 0), I (4 * t : Nat)], [.row 2 (4 * t) (Is fun _ => z) true]⟩ | _ => none) noS) (An.b (An.c (An.a An.e)) An.e) (T.evQ CK Try.prog (.loop 6 0 [1, 1, 1, 1, 1, 1, 1, 0, 1, 0] [Sl n (Is l), I z, .c (.p (.v (.int .u8 t))), I a, I b, .c (.os 0), I i] [.row 2 i (Is fun _ => z) true]) .done) = Sc.br (decide ((↑i : Int) < IntKind.wrap IntKind.i64 ((4 : Int) * IntKind.wrap IntKind.i64 (↑t : Int)))) (Sc.chk ((i + (1 : Nat)) * (8 : Nat) ≤ (140737488355328 : Nat) ∧ i + (1 : Nat) ≤ (9223372036854775807 : Nat)) (Sc.ask (Qry.loop (6 : Nat) (0 : Nat) [(1 : Nat), (1 : Nat), (1 : Nat), (1 : Nat), (1 : Nat), (1 : Nat), (1 : Nat), (0 : Nat), (1 : Nat), (0 : Nat)] [AV.c (CV.p (PV.sl n fun i => [PV.v (Value.int IntKind.i64 (l i))])), AV.c (CV.p (PV.v (Value.int IntKind.i64 z))), AV.c (CV.p (PV.v (Value.int IntKind.u8 (↑t : Int)))), AV.c (CV.p (PV.v (Value.int IntKind.i64 a))), AV.c (CV.p (PV.v (Value.int IntKind.i64 b))), AV.c (CV.os (0 : Nat)), AV.c (CV.p (PV.v (Value.int IntKind.i64 (IntKind.wrap IntKind.i64 ((↑i : Int) + (1 : Int))))))] [Ob.row (2 : Nat) (i + (1 : Nat)) (fun i_1 => if i_1 < i then [PV.v (Value.int IntKind.i64 z)] else litF [[PV.v (Value.int IntKind.i64 z)]] (i_1 - i)) true]) (Ans.mk (Ex.exit (0 : Nat)) [AV.c (CV.p (PV.sl n fun i => [PV.v (Value.int IntKind.i64 (l i))])), AV.c (CV.p (PV.v (Value.int IntKind.i64 z))), AV.c (CV.p (PV.v (Value.int IntKind.u8 (↑t : Int)))), AV.c (CV.p (PV.v (Value.int IntKind.i64 a))), AV.c (CV.p (PV.v (Value.int IntKind.i64 b))), AV.c (CV.os (0 : Nat)), AV.c (CV.p (PV.v (Value.int IntKind.i64 (↑((4 : Nat) * t) : Int))))] [Ob.row (2 : Nat) ((4 : Nat) * t) (fun i => [PV.v (Value.int IntKind.i64 z)]) true]) (Sc.done (Ans.mk (Ex.exit (0 : Nat)) [AV.c (CV.p (PV.sl n fun i => [PV.v (Value.int IntKind.i64 (l i))])), AV.c (CV.p (PV.v (Value.int IntKind.i64 z))), AV.c (CV.p (PV.v (Value.int IntKind.u8 (↑t : Int)))), AV.c (CV.p (PV.v (Value.int IntKind.i64 a))), AV.c (CV.p (PV.v (Value.int IntKind.i64 b))), AV.c (CV.os (0 : Nat)), AV.c (CV.p (PV.v (Value.int IntKind.i64 (↑((4 : Nat) * t) : Int))))] [Ob.row (2 : Nat) ((4 : Nat) * t) (fun i => [PV.v (Value.int IntKind.i64 z)]) true])))) (Sc.done (Ans.mk (Ex.exit (0 : Nat)) [AV.c (CV.p (PV.sl n fun i => [PV.v (Value.int IntKind.i64 (l i))])), AV.c (CV.p (PV.v (Value.int IntKind.i64 z))), AV.c (CV.p (PV.v (Value.int IntKind.u8 (↑t : Int)))), AV.c (CV.p (PV.v (Value.int IntKind.i64 a))), AV.c (CV.p (PV.v (Value.int IntKind.i64 b))), AV.c (CV.os (0 : Nat)), AV.c (CV.p (PV.v (Value.int IntKind.i64 (↑i : Int))))] [Ob.row (2 : Nat) i (fun i => [PV.v (Value.int IntKind.i64 z)]) true])) := by kernel_rfl

theorem fvl {w : Nat} {n : Int} (hw : wf n = w) (h : -9007199254740992 ≤ n ∧ n ≤ 9007199254740992) : FV w n := hw ▸ fv_of n h
theorem k1 : wf 1 = 4607182418800017408 := by kernel_rfl
theorem k3 : wf 3 = 4613937818241073152 := by kernel_rfl
theorem k4 : wf 4 = 4616189618054758400 := by kernel_rfl
theorem k5 : wf 5 = 4617315517961601024 := by kernel_rfl
theorem g1 : hold 1 = 1 := by decide
theorem g3 : hold 3 = 3 := by decide
theorem g4 : hold 4 = 4 := by decide
theorem ng4 : ng 4616189618054758400 = 13839561654909534208 := by kernel_rfl
abbrev l5 : Nat → Int := fun i => List.getD [5, 1, 0, 0, 5] i 0
theorem beat5 : beat 5 l5 = (10, 1) := by kernel_rfl
theorem c25 : QOk Try.prog CK (.call 25 [] []) ⟨.ret, [B true], []⟩ := by
  refine tree_i hP awake25_t ?_
  have o34 := cOf (a := 3) (b := 4)
  rw [g3, g4, k3, k4] at o34
  have o11 := cOf (a := 1) (b := 1)
  rw [g1, k1] at o11
  have f4 : FV 4616189618054758400 4 := fvl k4 (by omega)
  have f5 : FV 4617315517961601024 5 := fvl k5 (by omega)
  have f3 : FV 4613937818241073152 3 := fvl k3 (by omega)
  have fm : FV 13839561654909534208 (-4) := by rw [← ng4]; exact f4.neg
  have p1 := cParts f4 f5
  rw [toIntW_fv f4, toIntW_fv f5] at p1
  have p2 := cParts fm f3
  rw [toIntW_fv fm, toIntW_fv f3] at p2
  have t1 := cTurn (a := 4613937818241073152) (b := 4616189618054758400) (q := 5)
  have t2 : trn (5 % 4 : Int).toNat (4613937818241073152, 4616189618054758400) = (13839561654909534208, 4613937818241073152) := by
    show (ng 4616189618054758400, 4613937818241073152) = _
    rw [ng4]
  rw [t2] at t1
  have b5 := cBeat (n := 5) (l := l5)
  rw [beat5] at b5
  refine ⟨o34, o11, p1, o34, t1, p2, QOk.arg b5 (.cons (ALe.sl fun i hi => ?_) .nil), rfl⟩
  match i, hi with
  | 0, _ => rfl
  | 1, _ => rfl
  | 2, _ => rfl
  | 3, _ => rfl
  | 4, _ => rfl
theorem law5 {a b c d m n : Int} (hm : -32768 ≤ m ∧ m ≤ 32767) (hn : -32768 ≤ n ∧ n ≤ 32767) : CallIn Try.prog 5 [I a, I b, I c, I d, .c (.p (.v (.int .i16 m))), .c (.p (.v (.int .i16 n)))] [] ⟨.ret, [B true], []⟩ := by
  refine treeIn_i hP (law5_t a b c d m n) ?_
  have w1 : IntKind.wrap .i64 m = m := w64 (by omega)
  have w2 : IntKind.wrap .i64 n = n := w64 (by omega)
  have w3 : IntKind.wrap .i64 (m + n) = m + n := w64 (by omega)
  have ha := hold_bounds a; have hb := hold_bounds b; have hc := hold_bounds c; have hd := hold_bounds d
  have fa := fv_hold a; have fb := fv_hold b; have fc := fv_hold c; have fd := fv_hold d
  obtain ⟨M, hM⟩ : ∃ M, M = (m % 4).toNat := ⟨_, rfl⟩
  obtain ⟨N, hN⟩ : ∃ N, N = (n % 4).toNat := ⟨_, rfl⟩
  obtain ⟨K, hK⟩ : ∃ K, K = ((m + n) % 4).toNat := ⟨_, rfl⟩
  have tM : ∀ {u v : Nat}, QOk Try.prog CK (.call 27 [Cpx u v, I m] []) ⟨.ret, [Cpx (trn M (u, v)).1 (trn M (u, v)).2], []⟩ := fun {u v} => by rw [hM]; exact cTurn
  have tN : ∀ {u v : Nat}, QOk Try.prog CK (.call 27 [Cpx u v, I n] []) ⟨.ret, [Cpx (trn N (u, v)).1 (trn N (u, v)).2], []⟩ := fun {u v} => by rw [hN]; exact cTurn
  have tK : ∀ {u v : Nat}, QOk Try.prog CK (.call 27 [Cpx u v, I (m + n)] []) ⟨.ret, [Cpx (trn K (u, v)).1 (trn K (u, v)).2], []⟩ := fun {u v} => by rw [hK]; exact cTurn
  have e2 : (2 % 4 : Int).toNat = 2 := rfl
  have e4 : (4 % 4 : Int).toNat = 0 := rfl
  have t2 := cTurn (a := wf (hold a)) (b := wf (hold b)) (q := 2)
  have t4 := cTurn (a := wf (hold a)) (b := wf (hold b)) (q := 4)
  obtain ⟨m1, m2⟩ := fv_trn M fa fb
  obtain ⟨m3, m4⟩ := fv_trn M fc fd
  obtain ⟨n1, n2⟩ := fv_trn N m1 m2
  obtain ⟨q1, q2⟩ := fv_trn K fa fb
  have hrot : rot N (rot M (hold a, hold b)) = rot K (hold a, hold b) := by
    rw [rot_rot, rot_mod, rot_mod K]
    congr 1; omega
  obtain ⟨⟨b1, b2⟩, b3, b4⟩ := rot_le (B := 1099511627776) M (x := hold a) (y := hold b) (by omega) (by omega)
  obtain ⟨⟨b5, b6⟩, b7, b8⟩ := rot_le (B := 1099511627776) M (x := hold c) (y := hold d) (by omega) (by omega)
  obtain ⟨s1, s2⟩ := fv_plus fv0 fa (by omega)
  obtain ⟨s3, s4⟩ := fv_plus fv0 fb (by omega)
  obtain ⟨s5, s6⟩ := fv_plus s2 fc (by omega)
  obtain ⟨s7, s8⟩ := fv_plus s4 fd (by omega)
  obtain ⟨r1, r2⟩ := fv_trn M s6 s8
  obtain ⟨u1, u2⟩ := fv_plus fv0 m1 (by omega)
  obtain ⟨u3, u4⟩ := fv_plus fv0 m2 (by omega)
  obtain ⟨u5, u6⟩ := fv_plus u2 m3 (by omega)
  obtain ⟨u7, u8⟩ := fv_plus u4 m4 (by omega)
  have hadd := rot_add M (hold a) (hold b) (hold c) (hold d)
  rw [Int.zero_add, Int.zero_add] at r1 r2
  rw [hadd] at r1 r2
  simp only [Sc.Ok, w1, w2, w3, ← hM, ← hN, ← hK]
  refine ⟨c25, cOf, cOf, t4, fun h => ?_, fun _ => ⟨t2, fun h => ?_, fun _ => ⟨tM, tN, tK, fun h => ?_, fun _ => ⟨by rw [s1, s3]; rfl, by rw [s5, s7]; rfl, tM, tM, tM, by rw [u1, u3]; rfl, by rw [u5, u7]; rfl, ar (congrArg B ?_)⟩⟩⟩⟩
  · rw [fv_eq fa fa rfl, fv_eq fb fb rfl] at h; simp at h
  · have x1 := fv_eq fa.neg fa.neg rfl
    have x2 := fv_eq fb.neg fb.neg rfl
    simp only [Bool.not_eq_true'] at h
    rw [show ∀ p q : Bool, p = true → q = true → (p && q) = true from fun p q h1 h2 => by rw [h1, h2]; rfl] at h
    · cases h
    · exact x1
    · exact x2
  · rw [fv_eq n1 q1 (by rw [hrot]), fv_eq n2 q2 (by rw [hrot])] at h; simp at h
  · rw [fv_eq r1 u6 (by omega), fv_eq r2 u8 (by omega)]; rfl
/-! ### Beats -/
theorem brun4 (z : Int) : ∀ (t i : Nat) (p : Int × Int), i % 4 = 0 → brun (fun _ => z) (4 * t) i p = p
  | 0, i, p, hi => rfl
  | t + 1, i, p, hi => by
    rw [show 4 * (t + 1) = 4 * t + 1 + 1 + 1 + 1 by omega]
    unfold brun
    unfold brun
    unfold brun
    unfold brun
    rw [brun4 z t _ _ (by omega)]
    have h0 : bst (fun _ => z) i p = (p.1 + hold z, p.2) := by unfold bst; rw [hi]; rfl
    have h1 : ∀ q, bst (fun _ => z) (i + 1) q = (q.1, q.2 + hold z) := fun q => by unfold bst; rw [show (i + 1) % 4 = 1 by omega]; rfl
    have h2 : ∀ q, bst (fun _ => z) (i + 1 + 1) q = (q.1 - hold z, q.2) := fun q => by unfold bst; rw [show (i + 1 + 1) % 4 = 2 by omega]; rfl
    have h3 : ∀ q, bst (fun _ => z) (i + 1 + 1 + 1) q = (q.1, q.2 - hold z) := fun q => by unfold bst; rw [show (i + 1 + 1 + 1) % 4 = 3 by omega]; rfl
    rw [h3, h2, h1, h0]
    apply Prod.ext
    · show p.1 + hold z - hold z = p.1; omega
    · show p.2 + hold z - hold z = p.2; omega
theorem beat_same (z : Int) (t : Nat) (h : t ≤ 1024) : beat (4 * t) (fun _ => z) = (0, 0) := by
  unfold beat
  rw [Nat.ble_eq_true_of_le (show 4 * t ≤ 4096 by omega)]
  exact brun4 z t 0 _ rfl
theorem brun_turn {l L : Nat → Int} (h : ∀ i, L (i + 1) = l i) : ∀ (k i : Nat) (x y : Int), brun L k (i + 1) (-y, x) = (-(brun l k i (x, y)).2, (brun l k i (x, y)).1)
  | 0, i, x, y => rfl
  | k + 1, i, x, y => by
    show brun L k (i + 1 + 1) (bst L (i + 1) (-y, x)) = (-(brun l k (i + 1) (bst l i (x, y))).2, (brun l k (i + 1) (bst l i (x, y))).1)
    obtain ⟨u, hu⟩ : ∃ u, u = (bst l i (x, y)).1 := ⟨_, rfl⟩
    obtain ⟨v, hv⟩ : ∃ v, v = (bst l i (x, y)).2 := ⟨_, rfl⟩
    have e1 : bst l i (x, y) = (u, v) := by rw [hu, hv]
    have e2 : bst L (i + 1) (-y, x) = (-v, u) := by
      rw [hu, hv]
      unfold bst
      rw [h i]
      have h4 : i % 4 < 4 := Nat.mod_lt _ (by decide)
      have h5 : (i + 1) % 4 = (i % 4 + 1) % 4 := by omega
      rw [h5]
      generalize i % 4 = r at *
      match r, h4 with
      | 0, _ => rfl
      | 1, _ => show (-y - hold (l i), x) = (-(y + hold (l i)), x); rw [show -y - hold (l i) = -(y + hold (l i)) by omega]
      | 2, _ => rfl
      | 3, _ => show (-y + hold (l i), x) = (-(y - hold (l i)), x); rw [show -y + hold (l i) = -(y - hold (l i)) by omega]
    rw [e1, e2]
    exact brun_turn h k (i + 1) u v
theorem beat_cons {n : Nat} {l L : Nat → Int} (h0 : L 0 = 0) (h : ∀ i, L (i + 1) = l i) (hn : n < 4096) : beat (1 + n) L = (-(beat n l).2, (beat n l).1) := by
  unfold beat
  rw [Nat.ble_eq_true_of_le (show 1 + n ≤ 4096 by omega), Nat.ble_eq_true_of_le (show n ≤ 4096 by omega), Nat.add_comm 1 n]
  show brun L n (0 + 1) (bst L 0 (0, 0)) = _
  have e : bst L 0 (0, 0) = (-0, 0) := by unfold bst; rw [h0]; rfl
  rw [e]
  exact brun_turn h n 0 0 0
theorem beat_le (n : Nat) (l : Nat → Int) : (-4503599627370496 ≤ (beat n l).1 ∧ (beat n l).1 ≤ 4503599627370496) ∧ (-4503599627370496 ≤ (beat n l).2 ∧ (beat n l).2 ≤ 4503599627370496) := by
  have key : ∀ (k i : Nat) (x y : Int), (-(1099511627776 * i : Int) ≤ x ∧ x ≤ 1099511627776 * i) → (-(1099511627776 * i : Int) ≤ y ∧ y ≤ 1099511627776 * i) →
      (-(1099511627776 * (i + k) : Int) ≤ (brun l k i (x, y)).1 ∧ (brun l k i (x, y)).1 ≤ 1099511627776 * (i + k)) ∧ (-(1099511627776 * (i + k) : Int) ≤ (brun l k i (x, y)).2 ∧ (brun l k i (x, y)).2 ≤ 1099511627776 * (i + k)) := by
    intro k
    induction k with
    | zero =>
      intro i x y hx hy
      show (_ ≤ x ∧ x ≤ _) ∧ (_ ≤ y ∧ y ≤ _)
      omega
    | succ k ih =>
      intro i x y hx hy
      have hh := hold_bounds (l i)
      obtain ⟨g1, g2⟩ := rot_le (B := 1099511627776) (i % 4) (x := hold (l i)) (y := 0) (by omega) (by omega)
      have := ih (i + 1) (x + (rot (i % 4) (hold (l i), 0)).1) (y + (rot (i % 4) (hold (l i), 0)).2) (by omega) (by omega)
      have hr : brun l (k + 1) i (x, y) = brun l k (i + 1) (x + (rot (i % 4) (hold (l i), 0)).1, y + (rot (i % 4) (hold (l i), 0)).2) := by
        show brun l k (i + 1) (bst l i (x, y)) = _
        rw [bst_rot]
      rw [hr]
      constructor
      · have := this.1
        constructor <;> omega
      · have := this.2
        constructor <;> omega
  unfold beat
  cases hn : Nat.ble n 4096 with
  | false => simp
  | true =>
    have hn : n ≤ 4096 := Nat.le_of_ble_eq_true hn
    have := key n 0 0 0 (by omega) (by omega)
    obtain ⟨⟨a1, a2⟩, a3, a4⟩ := this
    show (_ ≤ (brun l n 0 (0, 0)).1 ∧ (brun l n 0 (0, 0)).1 ≤ _) ∧ (_ ≤ (brun l n 0 (0, 0)).2 ∧ (brun l n 0 (0, 0)).2 ≤ _)
    exact ⟨⟨by omega, by omega⟩, ⟨by omega, by omega⟩⟩
abbrev sQ (n : Nat) (l : Nat → Int) (z : Int) (t : Nat) (a b : Int) (i : Nat) : Qry := .loop 6 0 [1, 1, 1, 1, 1, 1, 1, 0, 1, 0] [Sl n (Is l), I z, .c (.p (.v (.int .u8 t))), I a, I b, .c (.os 0), I i] [.row 2 i (Is fun _ => z) true]
abbrev sA (n : Nat) (l : Nat → Int) (z : Int) (t : Nat) (a b : Int) : Ans := ⟨.exit 0, [Sl n (Is l), I z, .c (.p (.v (.int .u8 t))), I a, I b, .c (.os 0), I (4 * t : Nat)], [.row 2 (4 * t) (Is fun _ => z) true]⟩
theorem sameLoop (n : Nat) (l : Nat → Int) (z : Int) (t : Nat) (ht : t < 256) (a b : Int) : ∀ (k i : Nat), i + k = 4 * t → QOk Try.prog CK (sQ n l z t a b i) (sA n l z t a b)
  | 0, i, hk => by
    refine tree_i hP (law6R_t n l z t a b i) ?_
    have w1 : IntKind.wrap .i64 (t : Int) = (t : Int) := w64 (by omega)
    have w2 : IntKind.wrap .i64 (4 * (t : Int)) = ((4 * t : Nat) : Int) := by rw [w64 (by omega)]; omega
    simp only [Sc.Ok, w1, w2]
    refine ⟨fun h => ?_, fun h => ?_⟩
    · rw [decide_eq_true_iff] at h; omega
    · rw [show i = 4 * t by omega]
  | k + 1, i, hk => by
    have e7 : IntKind.wrap .i64 ((i : Int) + 1) = ((i + 1 : Nat) : Int) := by rw [w64 (by omega)]; omega
    have w1 : IntKind.wrap .i64 (t : Int) = (t : Int) := w64 (by omega)
    have w2 : IntKind.wrap .i64 (4 * (t : Int)) = ((4 * t : Nat) : Int) := by rw [w64 (by omega)]; omega
    have ih := sameLoop n l z t ht a b k (i + 1) (by omega)
    refine tree_i hP (law6R_t n l z t a b i) ?_
    simp only [Sc.Ok, w1, w2, e7]
    refine ⟨fun _ => ⟨by omega, QOk.lp ih (ALes.refl _) (.cons (.row rfl fun j hj => ?_) .nil), trivial⟩, fun h => ?_⟩
    · by_cases h : j < i
      · rw [if_pos h]
      · rw [if_neg h, show j - i = 0 by omega]; rfl
    · rw [decide_eq_false_iff_not] at h; omega
theorem sameLoop0 (n : Nat) (l : Nat → Int) (z : Int) (t : Nat) (ht : t < 256) (h0 : 0 < t) (a b : Int) : QOk Try.prog CK (.loop 6 0 [1, 1, 1, 1, 1, 1, 1, 0, 1, 0] [Sl n (Is l), I z, .c (.p (.v (.int .u8 t))), I a, I b, .c .nils, I 0] []) (sA n l z t a b) := by
  have w1 : IntKind.wrap .i64 (t : Int) = (t : Int) := w64 (by omega)
  have w2 : IntKind.wrap .i64 (4 * (t : Int)) = ((4 * t : Nat) : Int) := by rw [w64 (by omega)]; omega
  have ih := sameLoop n l z t ht a b (4 * t - 1) 1 (by omega)
  refine tree_i hP (law6R0_t n l z t a b) ?_
  simp only [Sc.Ok, w1, w2]
  refine ⟨fun _ => ⟨QOk.lp ih (ALes.refl _) (.cons (.row rfl fun j hj => ?_) .nil), trivial⟩, fun h => ?_⟩
  · have : j = 0 := by omega
    subst this; rfl
  · rw [decide_eq_false_iff_not] at h; omega
theorem law6 {n : Nat} {l : Nat → Int} {z : Int} {t : Nat} (ht : t < 256) : CallIn Try.prog 6 [Sl n (Is l), I z, .c (.p (.v (.int .u8 t)))] [] ⟨.ret, [B true], []⟩ := by
  have e1 : (bif Nat.ble n 4096 then brun (fun i => intC [PV.v (Value.int IntKind.i64 (l i))]) n 0 (0, 0) else (0, 0)) = beat n l := rfl
  obtain ⟨L, hL⟩ : ∃ L : Nat → Int, L = fun i => intC (catF 1 (litF [[PV.v (Value.int IntKind.i64 0)]]) (Is l) i) := ⟨_, rfl⟩
  have e3 : (bif Nat.ble (1 + n) 4096 then brun (fun i => intC (catF 1 (litF [[PV.v (Value.int IntKind.i64 0)]]) (Is l) i)) (1 + n) 0 (0, 0) else (0, 0)) = beat (1 + n) L := by rw [hL]; rfl
  have hc : n < 4096 → beat (1 + n) L = (-(beat n l).2, (beat n l).1) := fun hn => beat_cons (by rw [hL]; rfl) (fun i => by rw [hL]; rfl) hn
  obtain ⟨⟨b1, b2⟩, b3, b4⟩ := beat_le n l
  have wb : IntKind.wrap .i64 (0 - (beat n l).2) = -(beat n l).2 := by rw [w64 (by omega)]; omega
  have q3 : QOk Try.prog CK (.call 29 [Sl (1 + n) (catF 1 (litF [[PV.v (Value.int IntKind.i64 0)]]) (Is l))] []) ⟨.ret, [.tup [I (beat (1 + n) L).1, I (beat (1 + n) L).2]], []⟩ := by
    refine QOk.arg (cBeat (n := 1 + n) (l := L)) (.cons (ALe.sl fun i hi => ?_) .nil)
    rw [hL]
    match i with
    | 0 => rfl
    | i + 1 => rfl
  by_cases h0 : t = 0
  · subst h0
    refine treeIn_i hP (law6Z_t n l z) ?_
    have q0 : QOk Try.prog CK (.call 29 [Sl 0 fun _ => []] []) ⟨.ret, [.tup [I 0, I 0]], []⟩ := QOk.arg (cBeat (n := 0) (l := fun _ => 0)) (.cons (ALe.sl fun i hi => by omega) .nil)
    simp only [Sc.Ok, e1, e3, wb]
    refine ⟨c25, fun _ => trivial, fun h5 => ⟨cBeat, cRBeat, fun h => ?_, fun _ => ⟨fun h => ?_, fun _ => ⟨q0, fun _ => trivial, fun h4 => ?_⟩⟩⟩⟩
    · simp at h
    · simp at h
    · have hn : n < 4096 := by rw [decide_eq_false_iff_not] at h4; omega
      rw [hc hn] at q3 ⊢
      refine ⟨by omega, q3, fun _ => ar (congrArg B ?_), fun h => ?_⟩
      · simp
      · simp at h
  · refine treeIn_i hP (law6_t n l z t) ?_
    have e2 : (bif Nat.ble (4 * t) 4096 then brun (fun i => intC [PV.v (Value.int IntKind.i64 z)]) (4 * t) 0 (0, 0) else (0, 0)) = (0, 0) := beat_same z t (by omega)
    have q0 := cBeat (n := 4 * t) (l := fun _ => z)
    rw [beat_same z t (by omega)] at q0
    have hs := sameLoop0 n l z t ht (by omega)
    simp only [Sc.Ok, e1, e2, e3, wb]
    refine ⟨c25, fun _ => trivial, fun h5 => ⟨cBeat, cRBeat, fun h => ?_, fun _ => ⟨fun h => ?_, fun _ => ⟨hs _ _, q0, fun h => ?_, fun _ => ⟨fun h => ?_, fun _ => ⟨fun _ => trivial, fun h4 => ?_⟩⟩⟩⟩⟩⟩
    · simp at h
    · simp at h
    · simp at h
    · simp at h
    · have hn : n < 4096 := by rw [decide_eq_false_iff_not] at h4; omega
      rw [hc hn] at q3 ⊢
      refine ⟨by omega, q3, fun _ => ar (congrArg B ?_), fun h => ?_⟩
      · simp
      · simp at h
theorem av_int (k : IntKind) (x : Int) (h : 0 ≤ x) : Sh.av (.int k) x = .c (.p (.v (.int k ((x.toNat : Nat) : Int)))) := by
  rw [Int.toNat_of_nonneg h]; rfl
theorem row6 (n : Nat) (l : Nat → Int) (z t : Int) (h : 0 ≤ t ∧ t ≤ 255) : CallIn Try.prog 6 [Sh.av (.sl (.int .i64)) (n, l), Sh.av (.int .i64) z, Sh.av (.int .u8) t] [] ⟨.ret, [B true], []⟩ := by
  rw [av_int .u8 t h.1]
  exact law6 (by omega)
end Tally
end Go.Fx
