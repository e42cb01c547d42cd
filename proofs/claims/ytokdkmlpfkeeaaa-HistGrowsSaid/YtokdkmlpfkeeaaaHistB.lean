/- Histograms: HistOrder answers true. -/
import Derived.Test.YtokdkmlpfkeeaaaHistA
namespace Go.Fx
open Go.Proofs
set_option maxRecDepth 100000
set_option maxHeartbeats 4000000
set_option linter.unusedVariables false
set_option linter.unusedSimpArgs false
namespace Hist
attribute [local irreducible] QOk
theorem law9_t (c0 c1 c2 c3 c4 c5 c6 c7 c8 s : Int)  (n : Nat)  (l : Nat → Int)  (A' B' : List Int)  : fol CK Try.prog (SO n A' B') (An.a (An.l (An.b An.e (An.d (An.d (An.d (An.d (An.a (An.d (An.d An.e)))))))))) (T.evQ CK Try.prog (.call 9 [Hi c0 c1 c2 c3 c4 c5 c6 c7 c8 s, Sl n (Is32 l)] []) .done) = Sc.ask (Qry.call (31 : Nat) [] []) (Ans.mk Ex.ret [AV.c (CV.p (PV.v (Value.bool true)))] []) (Sc.br (decide ((↑n : Int) > (60 : Int))) (Sc.done (Ans.mk Ex.ret [AV.c (CV.p (PV.v (Value.bool true)))] [])) (Sc.ask (Qry.loop (9 : Nat) (0 : Nat) [(1 : Nat), (1 : Nat), (1 : Nat), (1 : Nat), (0 : Nat), (1 : Nat), (0 : Nat)] [AV.c (CV.p (PV.sl n fun i => [PV.v (Value.int IntKind.i32 (l i))])), AV.c (CV.ptr (0 : Nat) (0 : Nat)), AV.c (CV.ptr (1 : Nat) (0 : Nat)), AV.c (CV.p (PV.v (Value.int IntKind.i64 (0 : Int))))] [Ob.box [CV.p (PV.v (Value.int IntKind.i64 c0)), CV.p (PV.v (Value.int IntKind.i64 c1)), CV.p (PV.v (Value.int IntKind.i64 c2)), CV.p (PV.v (Value.int IntKind.i64 c3)), CV.p (PV.v (Value.int IntKind.i64 c4)), CV.p (PV.v (Value.int IntKind.i64 c5)), CV.p (PV.v (Value.int IntKind.i64 c6)), CV.p (PV.v (Value.int IntKind.i64 c7)), CV.p (PV.v (Value.int IntKind.i64 c8)), CV.p (PV.v (Value.int IntKind.i64 s))] true, Ob.box [CV.p (PV.v (Value.int IntKind.i64 c0)), CV.p (PV.v (Value.int IntKind.i64 c1)), CV.p (PV.v (Value.int IntKind.i64 c2)), CV.p (PV.v (Value.int IntKind.i64 c3)), CV.p (PV.v (Value.int IntKind.i64 c4)), CV.p (PV.v (Value.int IntKind.i64 c5)), CV.p (PV.v (Value.int IntKind.i64 c6)), CV.p (PV.v (Value.int IntKind.i64 c7)), CV.p (PV.v (Value.int IntKind.i64 c8)), CV.p (PV.v (Value.int IntKind.i64 s))] true]) (Ans.mk (Ex.exit (0 : Nat)) [AV.c (CV.p (PV.sl n fun i => [PV.v (Value.int IntKind.i32 (l i))])), AV.c (CV.ptr (0 : Nat) (0 : Nat)), AV.c (CV.ptr (1 : Nat) (0 : Nat)), AV.c (CV.p (PV.v (Value.int IntKind.i64 (↑n : Int))))] [Ob.box [CV.p (PV.v (Value.int IntKind.i64 (nth A' (0 : Nat)))), CV.p (PV.v (Value.int IntKind.i64 (nth A' (1 : Nat)))), CV.p (PV.v (Value.int IntKind.i64 (nth A' (2 : Nat)))), CV.p (PV.v (Value.int IntKind.i64 (nth A' (3 : Nat)))), CV.p (PV.v (Value.int IntKind.i64 (nth A' (4 : Nat)))), CV.p (PV.v (Value.int IntKind.i64 (nth A' (5 : Nat)))), CV.p (PV.v (Value.int IntKind.i64 (nth A' (6 : Nat)))), CV.p (PV.v (Value.int IntKind.i64 (nth A' (7 : Nat)))), CV.p (PV.v (Value.int IntKind.i64 (nth A' (8 : Nat)))), CV.p (PV.v (Value.int IntKind.i64 (nth A' (9 : Nat))))] true, Ob.box [CV.p (PV.v (Value.int IntKind.i64 (nth B' (0 : Nat)))), CV.p (PV.v (Value.int IntKind.i64 (nth B' (1 : Nat)))), CV.p (PV.v (Value.int IntKind.i64 (nth B' (2 : Nat)))), CV.p (PV.v (Value.int IntKind.i64 (nth B' (3 : Nat)))), CV.p (PV.v (Value.int IntKind.i64 (nth B' (4 : Nat)))), CV.p (PV.v (Value.int IntKind.i64 (nth B' (5 : Nat)))), CV.p (PV.v (Value.int IntKind.i64 (nth B' (6 : Nat)))), CV.p (PV.v (Value.int IntKind.i64 (nth B' (7 : Nat)))), CV.p (PV.v (Value.int IntKind.i64 (nth B' (8 : Nat)))), CV.p (PV.v (Value.int IntKind.i64 (nth B' (9 : Nat))))] true]) (Sc.done (Ans.mk Ex.ret [AV.c (CV.p (PV.v (Value.bool (nth A' (0 : Nat) == nth B' (0 : Nat) && (nth A' (1 : Nat) == nth B' (1 : Nat) && (nth A' (2 : Nat) == nth B' (2 : Nat) && (nth A' (3 : Nat) == nth B' (3 : Nat) && (nth A' (4 : Nat) == nth B' (4 : Nat) && (nth A' (5 : Nat) == nth B' (5 : Nat) && (nth A' (6 : Nat) == nth B' (6 : Nat) && (nth A' (7 : Nat) == nth B' (7 : Nat) && (nth A' (8 : Nat) == nth B' (8 : Nat) && true)))))))) && (nth A' (9 : Nat) == nth B' (9 : Nat) && true)))))] [])))) := by kernel_rfl
theorem round9_t (A B : List Int)  (n : Nat)  (l : Nat → Int)  (i : Nat)  (A' B' : List Int)  : fol CK Try.prog (SO n A' B') (An.b (An.d (An.c (An.a (An.d (An.d (An.c (An.a (An.d (An.a An.e))))))))) An.e) (T.evQ CK Try.prog (.loop 9 0 [1, 1, 1, 1, 0, 1, 0] [Sl n (Is32 l), .c (.ptr 0 0), .c (.ptr 1 0), I i] [.box (cellsL A) true, .box (cellsL B) true]) .done) = Sc.br (decide ((↑i : Int) < (↑n : Int))) (Sc.chk ((0 : Int) ≤ (↑i : Int) ∧ (↑i : Int) < (↑n : Int)) (Sc.ask (Qry.call (38 : Nat) [AV.agg [CV.p (PV.v (Value.int IntKind.i64 (nth A (0 : Nat)))), CV.p (PV.v (Value.int IntKind.i64 (nth A (1 : Nat)))), CV.p (PV.v (Value.int IntKind.i64 (nth A (2 : Nat)))), CV.p (PV.v (Value.int IntKind.i64 (nth A (3 : Nat)))), CV.p (PV.v (Value.int IntKind.i64 (nth A (4 : Nat)))), CV.p (PV.v (Value.int IntKind.i64 (nth A (5 : Nat)))), CV.p (PV.v (Value.int IntKind.i64 (nth A (6 : Nat)))), CV.p (PV.v (Value.int IntKind.i64 (nth A (7 : Nat)))), CV.p (PV.v (Value.int IntKind.i64 (nth A (8 : Nat)))), CV.p (PV.v (Value.int IntKind.i64 (nth A (9 : Nat))))], AV.c (CV.p (PV.v (Value.int IntKind.i64 (IntKind.wrap IntKind.i64 (l (Int.toNat (↑i : Int)))))))] []) (Ans.mk Ex.ret [AV.agg [CV.p (PV.v (Value.int IntKind.i64 (hadd [nth A (0 : Nat), nth A (1 : Nat), nth A (2 : Nat), nth A (3 : Nat), nth A (4 : Nat), nth A (5 : Nat), nth A (6 : Nat), nth A (7 : Nat), nth A (8 : Nat), nth A (9 : Nat)] (IntKind.wrap IntKind.i64 (l (Int.toNat (↑i : Int)))) (0 : Nat)))), CV.p (PV.v (Value.int IntKind.i64 (hadd [nth A (0 : Nat), nth A (1 : Nat), nth A (2 : Nat), nth A (3 : Nat), nth A (4 : Nat), nth A (5 : Nat), nth A (6 : Nat), nth A (7 : Nat), nth A (8 : Nat), nth A (9 : Nat)] (IntKind.wrap IntKind.i64 (l (Int.toNat (↑i : Int)))) (1 : Nat)))), CV.p (PV.v (Value.int IntKind.i64 (hadd [nth A (0 : Nat), nth A (1 : Nat), nth A (2 : Nat), nth A (3 : Nat), nth A (4 : Nat), nth A (5 : Nat), nth A (6 : Nat), nth A (7 : Nat), nth A (8 : Nat), nth A (9 : Nat)] (IntKind.wrap IntKind.i64 (l (Int.toNat (↑i : Int)))) (2 : Nat)))), CV.p (PV.v (Value.int IntKind.i64 (hadd [nth A (0 : Nat), nth A (1 : Nat), nth A (2 : Nat), nth A (3 : Nat), nth A (4 : Nat), nth A (5 : Nat), nth A (6 : Nat), nth A (7 : Nat), nth A (8 : Nat), nth A (9 : Nat)] (IntKind.wrap IntKind.i64 (l (Int.toNat (↑i : Int)))) (3 : Nat)))), CV.p (PV.v (Value.int IntKind.i64 (hadd [nth A (0 : Nat), nth A (1 : Nat), nth A (2 : Nat), nth A (3 : Nat), nth A (4 : Nat), nth A (5 : Nat), nth A (6 : Nat), nth A (7 : Nat), nth A (8 : Nat), nth A (9 : Nat)] (IntKind.wrap IntKind.i64 (l (Int.toNat (↑i : Int)))) (4 : Nat)))), CV.p (PV.v (Value.int IntKind.i64 (hadd [nth A (0 : Nat), nth A (1 : Nat), nth A (2 : Nat), nth A (3 : Nat), nth A (4 : Nat), nth A (5 : Nat), nth A (6 : Nat), nth A (7 : Nat), nth A (8 : Nat), nth A (9 : Nat)] (IntKind.wrap IntKind.i64 (l (Int.toNat (↑i : Int)))) (5 : Nat)))), CV.p (PV.v (Value.int IntKind.i64 (hadd [nth A (0 : Nat), nth A (1 : Nat), nth A (2 : Nat), nth A (3 : Nat), nth A (4 : Nat), nth A (5 : Nat), nth A (6 : Nat), nth A (7 : Nat), nth A (8 : Nat), nth A (9 : Nat)] (IntKind.wrap IntKind.i64 (l (Int.toNat (↑i : Int)))) (6 : Nat)))), CV.p (PV.v (Value.int IntKind.i64 (hadd [nth A (0 : Nat), nth A (1 : Nat), nth A (2 : Nat), nth A (3 : Nat), nth A (4 : Nat), nth A (5 : Nat), nth A (6 : Nat), nth A (7 : Nat), nth A (8 : Nat), nth A (9 : Nat)] (IntKind.wrap IntKind.i64 (l (Int.toNat (↑i : Int)))) (7 : Nat)))), CV.p (PV.v (Value.int IntKind.i64 (hadd [nth A (0 : Nat), nth A (1 : Nat), nth A (2 : Nat), nth A (3 : Nat), nth A (4 : Nat), nth A (5 : Nat), nth A (6 : Nat), nth A (7 : Nat), nth A (8 : Nat), nth A (9 : Nat)] (IntKind.wrap IntKind.i64 (l (Int.toNat (↑i : Int)))) (8 : Nat)))), CV.p (PV.v (Value.int IntKind.i64 (hadd [nth A (0 : Nat), nth A (1 : Nat), nth A (2 : Nat), nth A (3 : Nat), nth A (4 : Nat), nth A (5 : Nat), nth A (6 : Nat), nth A (7 : Nat), nth A (8 : Nat), nth A (9 : Nat)] (IntKind.wrap IntKind.i64 (l (Int.toNat (↑i : Int)))) (9 : Nat))))]] []) (Sc.chk ((0 : Int) ≤ IntKind.wrap IntKind.i64 (IntKind.wrap IntKind.i64 ((↑n : Int) - (1 : Int)) - (↑i : Int)) ∧ IntKind.wrap IntKind.i64 (IntKind.wrap IntKind.i64 ((↑n : Int) - (1 : Int)) - (↑i : Int)) < (↑n : Int)) (Sc.ask (Qry.call (38 : Nat) [AV.agg [CV.p (PV.v (Value.int IntKind.i64 (nth B (0 : Nat)))), CV.p (PV.v (Value.int IntKind.i64 (nth B (1 : Nat)))), CV.p (PV.v (Value.int IntKind.i64 (nth B (2 : Nat)))), CV.p (PV.v (Value.int IntKind.i64 (nth B (3 : Nat)))), CV.p (PV.v (Value.int IntKind.i64 (nth B (4 : Nat)))), CV.p (PV.v (Value.int IntKind.i64 (nth B (5 : Nat)))), CV.p (PV.v (Value.int IntKind.i64 (nth B (6 : Nat)))), CV.p (PV.v (Value.int IntKind.i64 (nth B (7 : Nat)))), CV.p (PV.v (Value.int IntKind.i64 (nth B (8 : Nat)))), CV.p (PV.v (Value.int IntKind.i64 (nth B (9 : Nat))))], AV.c (CV.p (PV.v (Value.int IntKind.i64 (IntKind.wrap IntKind.i64 (l (Int.toNat (IntKind.wrap IntKind.i64 (IntKind.wrap IntKind.i64 ((↑n : Int) - (1 : Int)) - (↑i : Int)))))))))] []) (Ans.mk Ex.ret [AV.agg [CV.p (PV.v (Value.int IntKind.i64 (hadd [nth B (0 : Nat), nth B (1 : Nat), nth B (2 : Nat), nth B (3 : Nat), nth B (4 : Nat), nth B (5 : Nat), nth B (6 : Nat), nth B (7 : Nat), nth B (8 : Nat), nth B (9 : Nat)] (IntKind.wrap IntKind.i64 (l (Int.toNat (IntKind.wrap IntKind.i64 (IntKind.wrap IntKind.i64 ((↑n : Int) - (1 : Int)) - (↑i : Int)))))) (0 : Nat)))), CV.p (PV.v (Value.int IntKind.i64 (hadd [nth B (0 : Nat), nth B (1 : Nat), nth B (2 : Nat), nth B (3 : Nat), nth B (4 : Nat), nth B (5 : Nat), nth B (6 : Nat), nth B (7 : Nat), nth B (8 : Nat), nth B (9 : Nat)] (IntKind.wrap IntKind.i64 (l (Int.toNat (IntKind.wrap IntKind.i64 (IntKind.wrap IntKind.i64 ((↑n : Int) - (1 : Int)) - (↑i : Int)))))) (1 : Nat)))), CV.p (PV.v (Value.int IntKind.i64 (hadd [nth B (0 : Nat), nth B (1 : Nat), nth B (2 : Nat), nth B (3 : Nat), nth B (4 : Nat), nth B (5 : Nat), nth B (6 : Nat), nth B (7 : Nat), nth B (8 : Nat), nth B (9 : Nat)] (IntKind.wrap IntKind.i64 (l (Int.toNat (IntKind.wrap IntKind.i64 (IntKind.wrap IntKind.i64 ((↑n : Int) - (1 : Int)) - (↑i : Int)))))) (2 : Nat)))), CV.p (PV.v (Value.int IntKind.i64 (hadd [nth B (0 : Nat), nth B (1 : Nat), nth B (2 : Nat), nth B (3 : Nat), nth B (4 : Nat), nth B (5 : Nat), nth B (6 : Nat), nth B (7 : Nat), nth B (8 : Nat), nth B (9 : Nat)] (IntKind.wrap IntKind.i64 (l (Int.toNat (IntKind.wrap IntKind.i64 (IntKind.wrap IntKind.i64 ((↑n : Int) - (1 : Int)) - (↑i : Int)))))) (3 : Nat)))), CV.p (PV.v (Value.int IntKind.i64 (hadd [nth B (0 : Nat), nth B (1 : Nat), nth B (2 : Nat), nth B (3 : Nat), nth B (4 : Nat), nth B (5 : Nat), nth B (6 : Nat), nth B (7 : Nat), nth B (8 : Nat), nth B (9 : Nat)] (IntKind.wrap IntKind.i64 (l (Int.toNat (IntKind.wrap IntKind.i64 (IntKind.wrap IntKind.i64 ((↑n : Int) - (1 : Int)) - (↑i : Int)))))) (4 : Nat)))), CV.p (PV.v (Value.int IntKind.i64 (hadd [nth B (0 : Nat), nth B (1 : Nat), nth B (2 : Nat), nth B (3 : Nat), nth B (4 : Nat), nth B (5 : Nat), nth B (6 : Nat), nth B (7 : Nat), nth B (8 : Nat), nth B (9 : Nat)] (IntKind.wrap IntKind.i64 (l (Int.toNat (IntKind.wrap IntKind.i64 (IntKind.wrap IntKind.i64 ((↑n : Int) - (1 : Int)) - (↑i : Int)))))) (5 : Nat)))), CV.p (PV.v (Value.int IntKind.i64 (hadd [nth B (0 : Nat), nth B (1 : Nat), nth B (2 : Nat), nth B (3 : Nat), nth B (4 : Nat), nth B (5 : Nat), nth B (6 : Nat), nth B (7 : Nat), nth B (8 : Nat), nth B (9 : Nat)] (IntKind.wrap IntKind.i64 (l (Int.toNat (IntKind.wrap IntKind.i64 (IntKind.wrap IntKind.i64 ((↑n : Int) - (1 : Int)) - (↑i : Int)))))) (6 : Nat)))), CV.p (PV.v (Value.int IntKind.i64 (hadd [nth B (0 : Nat), nth B (1 : Nat), nth B (2 : Nat), nth B (3 : Nat), nth B (4 : Nat), nth B (5 : Nat), nth B (6 : Nat), nth B (7 : Nat), nth B (8 : Nat), nth B (9 : Nat)] (IntKind.wrap IntKind.i64 (l (Int.toNat (IntKind.wrap IntKind.i64 (IntKind.wrap IntKind.i64 ((↑n : Int) - (1 : Int)) - (↑i : Int)))))) (7 : Nat)))), CV.p (PV.v (Value.int IntKind.i64 (hadd [nth B (0 : Nat), nth B (1 : Nat), nth B (2 : Nat), nth B (3 : Nat), nth B (4 : Nat), nth B (5 : Nat), nth B (6 : Nat), nth B (7 : Nat), nth B (8 : Nat), nth B (9 : Nat)] (IntKind.wrap IntKind.i64 (l (Int.toNat (IntKind.wrap IntKind.i64 (IntKind.wrap IntKind.i64 ((↑n : Int) - (1 : Int)) - (↑i : Int)))))) (8 : Nat)))), CV.p (PV.v (Value.int IntKind.i64 (hadd [nth B (0 : Nat), nth B (1 : Nat), nth B (2 : Nat), nth B (3 : Nat), nth B (4 : Nat), nth B (5 : Nat), nth B (6 : Nat), nth B (7 : Nat), nth B (8 : Nat), nth B (9 : Nat)] (IntKind.wrap IntKind.i64 (l (Int.toNat (IntKind.wrap IntKind.i64 (IntKind.wrap IntKind.i64 ((↑n : Int) - (1 : Int)) - (↑i : Int)))))) (9 : Nat))))]] []) (Sc.ask (Qry.loop (9 : Nat) (0 : Nat) [(1 : Nat), (1 : Nat), (1 : Nat), (1 : Nat), (0 : Nat), (1 : Nat), (0 : Nat)] [AV.c (CV.p (PV.sl n fun i => [PV.v (Value.int IntKind.i32 (l i))])), AV.c (CV.ptr (0 : Nat) (0 : Nat)), AV.c (CV.ptr (1 : Nat) (0 : Nat)), AV.c (CV.p (PV.v (Value.int IntKind.i64 (IntKind.wrap IntKind.i64 ((↑i : Int) + (1 : Int))))))] [Ob.box [CV.p (PV.v (Value.int IntKind.i64 (hadd [nth A (0 : Nat), nth A (1 : Nat), nth A (2 : Nat), nth A (3 : Nat), nth A (4 : Nat), nth A (5 : Nat), nth A (6 : Nat), nth A (7 : Nat), nth A (8 : Nat), nth A (9 : Nat)] (IntKind.wrap IntKind.i64 (l (Int.toNat (↑i : Int)))) (0 : Nat)))), CV.p (PV.v (Value.int IntKind.i64 (hadd [nth A (0 : Nat), nth A (1 : Nat), nth A (2 : Nat), nth A (3 : Nat), nth A (4 : Nat), nth A (5 : Nat), nth A (6 : Nat), nth A (7 : Nat), nth A (8 : Nat), nth A (9 : Nat)] (IntKind.wrap IntKind.i64 (l (Int.toNat (↑i : Int)))) (1 : Nat)))), CV.p (PV.v (Value.int IntKind.i64 (hadd [nth A (0 : Nat), nth A (1 : Nat), nth A (2 : Nat), nth A (3 : Nat), nth A (4 : Nat), nth A (5 : Nat), nth A (6 : Nat), nth A (7 : Nat), nth A (8 : Nat), nth A (9 : Nat)] (IntKind.wrap IntKind.i64 (l (Int.toNat (↑i : Int)))) (2 : Nat)))), CV.p (PV.v (Value.int IntKind.i64 (hadd [nth A (0 : Nat), nth A (1 : Nat), nth A (2 : Nat), nth A (3 : Nat), nth A (4 : Nat), nth A (5 : Nat), nth A (6 : Nat), nth A (7 : Nat), nth A (8 : Nat), nth A (9 : Nat)] (IntKind.wrap IntKind.i64 (l (Int.toNat (↑i : Int)))) (3 : Nat)))), CV.p (PV.v (Value.int IntKind.i64 (hadd [nth A (0 : Nat), nth A (1 : Nat), nth A (2 : Nat), nth A (3 : Nat), nth A (4 : Nat), nth A (5 : Nat), nth A (6 : Nat), nth A (7 : Nat), nth A (8 : Nat), nth A (9 : Nat)] (IntKind.wrap IntKind.i64 (l (Int.toNat (↑i : Int)))) (4 : Nat)))), CV.p (PV.v (Value.int IntKind.i64 (hadd [nth A (0 : Nat), nth A (1 : Nat), nth A (2 : Nat), nth A (3 : Nat), nth A (4 : Nat), nth A (5 : Nat), nth A (6 : Nat), nth A (7 : Nat), nth A (8 : Nat), nth A (9 : Nat)] (IntKind.wrap IntKind.i64 (l (Int.toNat (↑i : Int)))) (5 : Nat)))), CV.p (PV.v (Value.int IntKind.i64 (hadd [nth A (0 : Nat), nth A (1 : Nat), nth A (2 : Nat), nth A (3 : Nat), nth A (4 : Nat), nth A (5 : Nat), nth A (6 : Nat), nth A (7 : Nat), nth A (8 : Nat), nth A (9 : Nat)] (IntKind.wrap IntKind.i64 (l (Int.toNat (↑i : Int)))) (6 : Nat)))), CV.p (PV.v (Value.int IntKind.i64 (hadd [nth A (0 : Nat), nth A (1 : Nat), nth A (2 : Nat), nth A (3 : Nat), nth A (4 : Nat), nth A (5 : Nat), nth A (6 : Nat), nth A (7 : Nat), nth A (8 : Nat), nth A (9 : Nat)] (IntKind.wrap IntKind.i64 (l (Int.toNat (↑i : Int)))) (7 : Nat)))), CV.p (PV.v (Value.int IntKind.i64 (hadd [nth A (0 : Nat), nth A (1 : Nat), nth A (2 : Nat), nth A (3 : Nat), nth A (4 : Nat), nth A (5 : Nat), nth A (6 : Nat), nth A (7 : Nat), nth A (8 : Nat), nth A (9 : Nat)] (IntKind.wrap IntKind.i64 (l (Int.toNat (↑i : Int)))) (8 : Nat)))), CV.p (PV.v (Value.int IntKind.i64 (hadd [nth A (0 : Nat), nth A (1 : Nat), nth A (2 : Nat), nth A (3 : Nat), nth A (4 : Nat), nth A (5 : Nat), nth A (6 : Nat), nth A (7 : Nat), nth A (8 : Nat), nth A (9 : Nat)] (IntKind.wrap IntKind.i64 (l (Int.toNat (↑i : Int)))) (9 : Nat))))] true, Ob.box [CV.p (PV.v (Value.int IntKind.i64 (hadd [nth B (0 : Nat), nth B (1 : Nat), nth B (2 : Nat), nth B (3 : Nat), nth B (4 : Nat), nth B (5 : Nat), nth B (6 : Nat), nth B (7 : Nat), nth B (8 : Nat), nth B (9 : Nat)] (IntKind.wrap IntKind.i64 (l (Int.toNat (IntKind.wrap IntKind.i64 (IntKind.wrap IntKind.i64 ((↑n : Int) - (1 : Int)) - (↑i : Int)))))) (0 : Nat)))), CV.p (PV.v (Value.int IntKind.i64 (hadd [nth B (0 : Nat), nth B (1 : Nat), nth B (2 : Nat), nth B (3 : Nat), nth B (4 : Nat), nth B (5 : Nat), nth B (6 : Nat), nth B (7 : Nat), nth B (8 : Nat), nth B (9 : Nat)] (IntKind.wrap IntKind.i64 (l (Int.toNat (IntKind.wrap IntKind.i64 (IntKind.wrap IntKind.i64 ((↑n : Int) - (1 : Int)) - (↑i : Int)))))) (1 : Nat)))), CV.p (PV.v (Value.int IntKind.i64 (hadd [nth B (0 : Nat), nth B (1 : Nat), nth B (2 : Nat), nth B (3 : Nat), nth B (4 : Nat), nth B (5 : Nat), nth B (6 : Nat), nth B (7 : Nat), nth B (8 : Nat), nth B (9 : Nat)] (IntKind.wrap IntKind.i64 (l (Int.toNat (IntKind.wrap IntKind.i64 (IntKind.wrap IntKind.i64 ((↑n : Int) - (1 : Int)) - (↑i : Int)))))) (2 : Nat)))), CV.p (PV.v (Value.int IntKind.i64 (hadd [nth B (0 : Nat), nth B (1 : Nat), nth B (2 : Nat), nth B (3 : Nat), nth B (4 : Nat), nth B (5 : Nat), nth B (6 : Nat), nth B (7 : Nat), nth B (8 : Nat), nth B (9 : Nat)] (IntKind.wrap IntKind.i64 (l (Int.toNat (IntKind.wrap IntKind.i64 (IntKind.wrap IntKind.i64 ((↑n : Int) - (1 : Int)) - (↑i : Int)))))) (3 : Nat)))), CV.p (PV.v (Value.int IntKind.i64 (hadd [nth B (0 : Nat), nth B (1 : Nat), nth B (2 : Nat), nth B (3 : Nat), nth B (4 : Nat), nth B (5 : Nat), nth B (6 : Nat), nth B (7 : Nat), nth B (8 : Nat), nth B (9 : Nat)] (IntKind.wrap IntKind.i64 (l (Int.toNat (IntKind.wrap IntKind.i64 (IntKind.wrap IntKind.i64 ((↑n : Int) - (1 : Int)) - (↑i : Int)))))) (4 : Nat)))), CV.p (PV.v (Value.int IntKind.i64 (hadd [nth B (0 : Nat), nth B (1 : Nat), nth B (2 : Nat), nth B (3 : Nat), nth B (4 : Nat), nth B (5 : Nat), nth B (6 : Nat), nth B (7 : Nat), nth B (8 : Nat), nth B (9 : Nat)] (IntKind.wrap IntKind.i64 (l (Int.toNat (IntKind.wrap IntKind.i64 (IntKind.wrap IntKind.i64 ((↑n : Int) - (1 : Int)) - (↑i : Int)))))) (5 : Nat)))), CV.p (PV.v (Value.int IntKind.i64 (hadd [nth B (0 : Nat), nth B (1 : Nat), nth B (2 : Nat), nth B (3 : Nat), nth B (4 : Nat), nth B (5 : Nat), nth B (6 : Nat), nth B (7 : Nat), nth B (8 : Nat), nth B (9 : Nat)] (IntKind.wrap IntKind.i64 (l (Int.toNat (IntKind.wrap IntKind.i64 (IntKind.wrap IntKind.i64 ((↑n : Int) - (1 : Int)) - (↑i : Int)))))) (6 : Nat)))), CV.p (PV.v (Value.int IntKind.i64 (hadd [nth B (0 : Nat), nth B (1 : Nat), nth B (2 : Nat), nth B (3 : Nat), nth B (4 : Nat), nth B (5 : Nat), nth B (6 : Nat), nth B (7 : Nat), nth B (8 : Nat), nth B (9 : Nat)] (IntKind.wrap IntKind.i64 (l (Int.toNat (IntKind.wrap IntKind.i64 (IntKind.wrap IntKind.i64 ((↑n : Int) - (1 : Int)) - (↑i : Int)))))) (7 : Nat)))), CV.p (PV.v (Value.int IntKind.i64 (hadd [nth B (0 : Nat), nth B (1 : Nat), nth B (2 : Nat), nth B (3 : Nat), nth B (4 : Nat), nth B (5 : Nat), nth B (6 : Nat), nth B (7 : Nat), nth B (8 : Nat), nth B (9 : Nat)] (IntKind.wrap IntKind.i64 (l (Int.toNat (IntKind.wrap IntKind.i64 (IntKind.wrap IntKind.i64 ((↑n : Int) - (1 : Int)) - (↑i : Int)))))) (8 : Nat)))), CV.p (PV.v (Value.int IntKind.i64 (hadd [nth B (0 : Nat), nth B (1 : Nat), nth B (2 : Nat), nth B (3 : Nat), nth B (4 : Nat), nth B (5 : Nat), nth B (6 : Nat), nth B (7 : Nat), nth B (8 : Nat), nth B (9 : Nat)] (IntKind.wrap IntKind.i64 (l (Int.toNat (IntKind.wrap IntKind.i64 (IntKind.wrap IntKind.i64 ((↑n : Int) - (1 : Int)) - (↑i : Int)))))) (9 : Nat))))] true]) (Ans.mk (Ex.exit (0 : Nat)) [AV.c (CV.p (PV.sl n fun i => [PV.v (Value.int IntKind.i32 (l i))])), AV.c (CV.ptr (0 : Nat) (0 : Nat)), AV.c (CV.ptr (1 : Nat) (0 : Nat)), AV.c (CV.p (PV.v (Value.int IntKind.i64 (↑n : Int))))] [Ob.box [CV.p (PV.v (Value.int IntKind.i64 (nth A' (0 : Nat)))), CV.p (PV.v (Value.int IntKind.i64 (nth A' (1 : Nat)))), CV.p (PV.v (Value.int IntKind.i64 (nth A' (2 : Nat)))), CV.p (PV.v (Value.int IntKind.i64 (nth A' (3 : Nat)))), CV.p (PV.v (Value.int IntKind.i64 (nth A' (4 : Nat)))), CV.p (PV.v (Value.int IntKind.i64 (nth A' (5 : Nat)))), CV.p (PV.v (Value.int IntKind.i64 (nth A' (6 : Nat)))), CV.p (PV.v (Value.int IntKind.i64 (nth A' (7 : Nat)))), CV.p (PV.v (Value.int IntKind.i64 (nth A' (8 : Nat)))), CV.p (PV.v (Value.int IntKind.i64 (nth A' (9 : Nat))))] true, Ob.box [CV.p (PV.v (Value.int IntKind.i64 (nth B' (0 : Nat)))), CV.p (PV.v (Value.int IntKind.i64 (nth B' (1 : Nat)))), CV.p (PV.v (Value.int IntKind.i64 (nth B' (2 : Nat)))), CV.p (PV.v (Value.int IntKind.i64 (nth B' (3 : Nat)))), CV.p (PV.v (Value.int IntKind.i64 (nth B' (4 : Nat)))), CV.p (PV.v (Value.int IntKind.i64 (nth B' (5 : Nat)))), CV.p (PV.v (Value.int IntKind.i64 (nth B' (6 : Nat)))), CV.p (PV.v (Value.int IntKind.i64 (nth B' (7 : Nat)))), CV.p (PV.v (Value.int IntKind.i64 (nth B' (8 : Nat)))), CV.p (PV.v (Value.int IntKind.i64 (nth B' (9 : Nat))))] true]) (Sc.done (Ans.mk (Ex.exit (0 : Nat)) [AV.c (CV.p (PV.sl n fun i => [PV.v (Value.int IntKind.i32 (l i))])), AV.c (CV.ptr (0 : Nat) (0 : Nat)), AV.c (CV.ptr (1 : Nat) (0 : Nat)), AV.c (CV.p (PV.v (Value.int IntKind.i64 (↑n : Int))))] [Ob.box [CV.p (PV.v (Value.int IntKind.i64 (nth A' (0 : Nat)))), CV.p (PV.v (Value.int IntKind.i64 (nth A' (1 : Nat)))), CV.p (PV.v (Value.int IntKind.i64 (nth A' (2 : Nat)))), CV.p (PV.v (Value.int IntKind.i64 (nth A' (3 : Nat)))), CV.p (PV.v (Value.int IntKind.i64 (nth A' (4 : Nat)))), CV.p (PV.v (Value.int IntKind.i64 (nth A' (5 : Nat)))), CV.p (PV.v (Value.int IntKind.i64 (nth A' (6 : Nat)))), CV.p (PV.v (Value.int IntKind.i64 (nth A' (7 : Nat)))), CV.p (PV.v (Value.int IntKind.i64 (nth A' (8 : Nat)))), CV.p (PV.v (Value.int IntKind.i64 (nth A' (9 : Nat))))] true, Ob.box [CV.p (PV.v (Value.int IntKind.i64 (nth B' (0 : Nat)))), CV.p (PV.v (Value.int IntKind.i64 (nth B' (1 : Nat)))), CV.p (PV.v (Value.int IntKind.i64 (nth B' (2 : Nat)))), CV.p (PV.v (Value.int IntKind.i64 (nth B' (3 : Nat)))), CV.p (PV.v (Value.int IntKind.i64 (nth B' (4 : Nat)))), CV.p (PV.v (Value.int IntKind.i64 (nth B' (5 : Nat)))), CV.p (PV.v (Value.int IntKind.i64 (nth B' (6 : Nat)))), CV.p (PV.v (Value.int IntKind.i64 (nth B' (7 : Nat)))), CV.p (PV.v (Value.int IntKind.i64 (nth B' (8 : Nat)))), CV.p (PV.v (Value.int IntKind.i64 (nth B' (9 : Nat))))] true]))))))) (Sc.done (Ans.mk (Ex.exit (0 : Nat)) [AV.c (CV.p (PV.sl n fun i => [PV.v (Value.int IntKind.i32 (l i))])), AV.c (CV.ptr (0 : Nat) (0 : Nat)), AV.c (CV.ptr (1 : Nat) (0 : Nat)), AV.c (CV.p (PV.v (Value.int IntKind.i64 (↑i : Int))))] [Ob.box [CV.p (PV.v (Value.int IntKind.i64 (nth A (0 : Nat)))), CV.p (PV.v (Value.int IntKind.i64 (nth A (1 : Nat)))), CV.p (PV.v (Value.int IntKind.i64 (nth A (2 : Nat)))), CV.p (PV.v (Value.int IntKind.i64 (nth A (3 : Nat)))), CV.p (PV.v (Value.int IntKind.i64 (nth A (4 : Nat)))), CV.p (PV.v (Value.int IntKind.i64 (nth A (5 : Nat)))), CV.p (PV.v (Value.int IntKind.i64 (nth A (6 : Nat)))), CV.p (PV.v (Value.int IntKind.i64 (nth A (7 : Nat)))), CV.p (PV.v (Value.int IntKind.i64 (nth A (8 : Nat)))), CV.p (PV.v (Value.int IntKind.i64 (nth A (9 : Nat))))] true, Ob.box [CV.p (PV.v (Value.int IntKind.i64 (nth B (0 : Nat)))), CV.p (PV.v (Value.int IntKind.i64 (nth B (1 : Nat)))), CV.p (PV.v (Value.int IntKind.i64 (nth B (2 : Nat)))), CV.p (PV.v (Value.int IntKind.i64 (nth B (3 : Nat)))), CV.p (PV.v (Value.int IntKind.i64 (nth B (4 : Nat)))), CV.p (PV.v (Value.int IntKind.i64 (nth B (5 : Nat)))), CV.p (PV.v (Value.int IntKind.i64 (nth B (6 : Nat)))), CV.p (PV.v (Value.int IntKind.i64 (nth B (7 : Nat)))), CV.p (PV.v (Value.int IntKind.i64 (nth B (8 : Nat)))), CV.p (PV.v (Value.int IntKind.i64 (nth B (9 : Nat))))] true])) := by kernel_rfl

def runA (l : Nat → Int) : Nat → Nat → List Int → List Int
  | 0, _, A => A
  | k + 1, i, A => runA l k (i + 1) (hstep A (l i))
def down (l : Nat → Int) : Nat → List Int → List Int
  | 0, A => A
  | k + 1, A => down l k (hstep A (l k))
theorem nth_hstep (A : List Int) (x : Int) (j : Nat) (hj : j < 10) : nth (hstep A x) j = hadd (ten A) x j := by
  match j, hj with
  | 0, _ => rfl
  | 1, _ => rfl
  | 2, _ => rfl
  | 3, _ => rfl
  | 4, _ => rfl
  | 5, _ => rfl
  | 6, _ => rfl
  | 7, _ => rfl
  | 8, _ => rfl
  | 9, _ => rfl
theorem nth_ten (A : List Int) (j : Nat) (hj : j < 10) : nth (ten A) j = nth A j := by
  match j, hj with
  | 0, _ => rfl
  | 1, _ => rfl
  | 2, _ => rfl
  | 3, _ => rfl
  | 4, _ => rfl
  | 5, _ => rfl
  | 6, _ => rfl
  | 7, _ => rfl
  | 8, _ => rfl
  | 9, _ => rfl
theorem ten_hstep (A : List Int) (x : Int) : ten (hstep A x) = hstep A x := rfl
theorem right_iff (A : List Int) : hright (ten A) = true ↔ ∀ j, j < 10 → 0 ≤ nth A j ∧ nth A j ≤ 1099511627776 := by
  unfold ten
  rw [hright_iff]
  constructor
  · intro h j hj
    match j, hj with
    | 0, _ => exact h.1
    | 1, _ => exact h.2.1
    | 2, _ => exact h.2.2.1
    | 3, _ => exact h.2.2.2.1
    | 4, _ => exact h.2.2.2.2.1
    | 5, _ => exact h.2.2.2.2.2.1
    | 6, _ => exact h.2.2.2.2.2.2.1
    | 7, _ => exact h.2.2.2.2.2.2.2.1
    | 8, _ => exact h.2.2.2.2.2.2.2.2.1
    | 9, _ => exact h.2.2.2.2.2.2.2.2.2
  · intro h
    exact ⟨h 0 (by omega), h 1 (by omega), h 2 (by omega), h 3 (by omega), h 4 (by omega), h 5 (by omega), h 6 (by omega), h 7 (by omega), h 8 (by omega), h 9 (by omega)⟩
theorem up_rng (a b : Int) : 0 ≤ up a b ∧ up a b ≤ 1099511627776 := by
  have := hold_rng a
  have := hold_rng b
  unfold up; omega
theorem right_step (A : List Int) (x : Int) (h : hright (ten A) = true) : hright (hstep A x) = true := by
  rw [← ten_hstep, right_iff]
  intro j hj
  rw [nth_hstep A x j hj]
  have ha := (right_iff A).1 h j hj
  unfold hadd
  rw [nth_ten A j hj]
  repeat' split
  all_goals first | exact ha | exact up_rng _ _
theorem stay (A : List Int) (x : Int) (h : hright (ten A) = false ∨ x < 0) : hstep A x = ten A := by
  have key : ∀ j, hadd (ten A) x j = nth (ten A) j := fun j => by
    unfold hadd
    rcases h with h | h
    · rw [h]; split <;> rfl
    · rw [if_pos h]
  unfold hstep
  simp only [key]
  rfl
theorem hadd_right (A : List Int) (x : Int) (j : Nat) (hj : j < 10) (h : hright (ten A) = true) (hx : ¬ x < 0) : hadd (ten A) x j = if j = 9 then up (nth A 9) x else if (j : Int) = place x then up (nth A j) 1 else nth A j := by
  unfold hadd
  rw [if_neg hx, if_pos h, nth_ten A 9 (by omega), nth_ten A j hj]
theorem up_comm (a x y : Int) (ha : 0 ≤ a) : up (up a x) y = up (up a y) x := by
  unfold up hold; omega
theorem hstep_comm (A : List Int) (x y : Int) : hstep (hstep A x) y = hstep (hstep A y) x := by
  by_cases h : hright (ten A) = true
  · by_cases hx : x < 0
    · rw [stay A x (.inr hx), stay (hstep A y) x (.inr hx), ten_hstep]; rfl
    · by_cases hy : y < 0
      · rw [stay A y (.inr hy), stay (hstep A x) y (.inr hy), ten_hstep]; rfl
      · have hX := right_step A x h
        have hY := right_step A y h
        have key : ∀ j, j < 10 → hadd (ten (hstep A x)) y j = hadd (ten (hstep A y)) x j := fun j hj => by
          rw [hadd_right (hstep A x) y j hj (by rw [ten_hstep]; exact hX) hy, hadd_right (hstep A y) x j hj (by rw [ten_hstep]; exact hY) hx]
          rw [nth_hstep A x 9 (by omega), nth_hstep A y 9 (by omega), nth_hstep A x j hj, nth_hstep A y j hj]
          rw [hadd_right A x 9 (by omega) h hx, hadd_right A y 9 (by omega) h hy, hadd_right A x j hj h hx, hadd_right A y j hj h hy]
          have h9 := ((right_iff A).1 h 9 (by omega)).1
          by_cases hj9 : j = 9
          · subst hj9; simp only [if_true]; exact up_comm _ x y h9
          · simp only [hj9, if_false]
            by_cases e1 : (j : Int) = place x <;> by_cases e2 : (j : Int) = place y <;> simp [e1, e2]
            all_goals simp_all
        have e0 : ∀ B z, hstep B z = [hadd (ten B) z 0, hadd (ten B) z 1, hadd (ten B) z 2, hadd (ten B) z 3, hadd (ten B) z 4, hadd (ten B) z 5, hadd (ten B) z 6, hadd (ten B) z 7, hadd (ten B) z 8, hadd (ten B) z 9] := fun _ _ => rfl
        rw [e0 (hstep A x) y, e0 (hstep A y) x, key 0 (by omega), key 1 (by omega), key 2 (by omega), key 3 (by omega), key 4 (by omega), key 5 (by omega), key 6 (by omega), key 7 (by omega), key 8 (by omega), key 9 (by omega)]
  · have h : hright (ten A) = false := by simpa using h
    rw [stay A x (.inl h), stay A y (.inl h)]
    exact (stay (ten A) y (.inl h)).trans (stay (ten A) x (.inl h)).symm
theorem down_push (l : Nat → Int) : ∀ k A x, hstep (down l k A) x = down l k (hstep A x)
  | 0, A, x => rfl
  | k + 1, A, x => by
    unfold down
    rw [down_push l k, hstep_comm]
theorem runA_last (l : Nat → Int) : ∀ k i A, runA l (k + 1) i A = hstep (runA l k i A) (l (i + k))
  | 0, i, A => rfl
  | k + 1, i, A => by
    rw [runA, runA_last l k (i + 1)]
    conv => rhs; rw [runA]
    rw [show i + 1 + k = i + (k + 1) by omega]
theorem runs (l : Nat → Int) : ∀ n A, runA l n 0 A = down l n A
  | 0, A => rfl
  | n + 1, A => by
    rw [runA_last, runs l n A, Nat.zero_add, down_push, down]
def Lq9 (n : Nat) (l : Nat → Int) (i : Int) (A B : List Int) : Qry := .loop 9 0 [1, 1, 1, 1, 0, 1, 0] [Sl n (Is32 l), .c (.ptr 0 0), .c (.ptr 1 0), I i] [.box (cellsL A) true, .box (cellsL B) true]
def La9 (n : Nat) (l : Nat → Int) (A B : List Int) : Ans := ⟨.exit 0, [Sl n (Is32 l), .c (.ptr 0 0), .c (.ptr 1 0), I n], [.box (cellsL A) true, .box (cellsL B) true]⟩
theorem loop9 (n : Nat) (l : Nat → Int) (hx : ∀ i, -2147483648 ≤ l i ∧ l i ≤ 2147483647) (hn : n ≤ 60) : ∀ (k i : Nat) (A B : List Int), i + k = n → QOk Try.prog CK (Lq9 n l i A B) (La9 n l (runA l k i A) (down l k B))
  | 0, i, A, B, hk => by
    refine tree_i hP (round9_t A B n l i [] []) ?_
    simp only [Sc.Ok]
    refine ⟨fun hq => ?_, fun hq => ?_⟩
    · simp at hq; omega
    · rw [La9, show i = n by omega]; rfl
  | k + 1, i, A, B, hk => by
    have ih := loop9 n l hx hn k (i + 1) (hstep A (l i)) (hstep B (l k)) (by omega)
    have h1 := hx i
    have h2 := hx k
    refine tree_i hP (round9_t A B n l i (runA l k (i + 1) (hstep A (l i))) (down l k (hstep B (l k)))) ?_
    have w0 : IntKind.i64.wrap (l i) = l i := w64 (by omega)
    have w1 : IntKind.i64.wrap (l k) = l k := w64 (by omega)
    have w2 : IntKind.i64.wrap ((n : Int) - 1) = (n : Int) - 1 := w64 (by omega)
    have w3 : IntKind.i64.wrap ((n : Int) - 1 - i) = (k : Int) := by rw [w64 (by omega)]; omega
    have w4 : IntKind.i64.wrap ((i : Int) + 1) = ((i + 1 : Nat) : Int) := by rw [w64 (by omega)]; omega
    simp only [Sc.Ok, Int.toNat_natCast, w0, w1, w2, w3, w4]
    have q1 := c38 (nth A 0) (nth A 1) (nth A 2) (nth A 3) (nth A 4) (nth A 5) (nth A 6) (nth A 7) (nth A 8) (nth A 9) (l i) (by omega)
    have q2 := c38 (nth B 0) (nth B 1) (nth B 2) (nth B 3) (nth B 4) (nth B 5) (nth B 6) (nth B 7) (nth B 8) (nth B 9) (l k) (by omega)
    repeat' first | exact q1 | exact q2 | exact ih | apply And.intro | intro _
    all_goals first
      | rfl
      | omega
      | (simp at *; omega)
theorem law9 (c0 c1 c2 c3 c4 c5 c6 c7 c8 s : Int) (n : Nat) (l : Nat → Int) (hx : ∀ i, -2147483648 ≤ l i ∧ l i ≤ 2147483647) : CallIn Try.prog 9 [Hi c0 c1 c2 c3 c4 c5 c6 c7 c8 s, Sl n (Is32 l)] [] ⟨.ret, [B true], []⟩ := by
  by_cases hn : n ≤ 60
  · have h := loop9 n l hx hn n 0 [c0, c1, c2, c3, c4, c5, c6, c7, c8, s] [c0, c1, c2, c3, c4, c5, c6, c7, c8, s] (by omega)
    rw [runs] at h
    refine treeIn_i hP (law9_t c0 c1 c2 c3 c4 c5 c6 c7 c8 s n l (down l n [c0, c1, c2, c3, c4, c5, c6, c7, c8, s]) (down l n [c0, c1, c2, c3, c4, c5, c6, c7, c8, s])) ?_
    simp only [Sc.Ok]
    refine ⟨c31, fun _ => trivial, fun _ => ⟨h, ?_⟩⟩
    simp
  · refine treeIn_i hP (law9_t c0 c1 c2 c3 c4 c5 c6 c7 c8 s n l [] []) ?_
    simp only [Sc.Ok]
    refine ⟨c31, fun _ => trivial, fun h => ?_⟩
    simp at h; omega
end Hist
end Go.Fx
