/- Lists of names: the laws. -/
import Derived.Test.YtaodejfbmnoelaaNamesA
import Derived.Test.YtaodejfbmnoelaaFxRow
set_option maxRecDepth 100000
set_option maxHeartbeats 4000000
set_option linter.unusedVariables false
set_option linter.unusedSimpArgs false
namespace Go.Fx
open Go.Proofs
namespace Names
attribute [local irreducible] QOk
theorem law9_t (n : Nat)  (s : Nat → ByteArray)  (x : ByteArray)  (p : Int)  : fol CK Try.prog (nmS 31) (An.a (An.l (An.a (An.b (An.l (An.l (An.l (An.l An.e)))) (An.l (An.l (An.l (An.b An.e (An.a (An.a (An.a (An.a (An.b (An.l (An.l (An.l (An.l (An.l (An.l (An.l (An.l (An.l (An.l (An.l (An.l (An.l (An.l (An.l (An.l (An.l An.e))))))))))))))))) (An.l (An.l (An.a (An.l (An.l (An.l (An.a (An.l (An.l (An.b (An.l (An.l (An.l (An.l (An.l (An.l (An.l (An.l (An.l An.e))))))))) (An.l (An.l (An.l (An.b (An.l (An.l (An.l (An.l (An.l An.e))))) (An.l (An.l (An.a (An.l (An.l (An.b An.e (An.a (An.b (An.b (An.l (An.l (An.l (An.l (An.l (An.l (An.l (An.l An.e)))))))) (An.l (An.l (An.l (An.l (An.b (An.l (An.l (An.l An.e))) (An.c (An.b (An.l (An.l An.e)) (An.l (An.l An.e)))))))))) (An.b (An.l (An.l (An.l (An.l (An.l (An.b (An.l (An.l An.e)) (An.l (An.l An.e)))))))) (An.l (An.l (An.l (An.l (An.b (An.b (An.l (An.l An.e)) (An.l (An.l An.e))) (An.c (An.b (An.l (An.l An.e)) (An.l (An.l An.e))))))))))))))))))))))))))))))))))))))))))))) (T.evQ CK Try.prog (.call 9 [Sl n (Ss s), Str x, I p] []) .done) = Sc.ask (Qry.call (31 : Nat) [] []) (Ans.mk Ex.ret [AV.c (CV.p (PV.v (Value.bool true)))] []) (Sc.ask (Qry.call (32 : Nat) [AV.c (CV.p (PV.sl n fun i => [PV.v (Value.string (s i))]))] []) (Ans.mk Ex.ret [AV.c (CV.p (PV.v (Value.bool (shortN n fun i => strC [PV.v (Value.string (s i))]))))] []) (Sc.br (!shortN n fun i => strC [PV.v (Value.string (s i))]) (Sc.done (Ans.mk Ex.ret [AV.c (CV.p (PV.v (Value.bool true)))] [])) (Sc.br (decide ((↑(ByteArray.size x) : Int) > (100 : Int))) (Sc.done (Ans.mk Ex.ret [AV.c (CV.p (PV.v (Value.bool true)))] [])) (Sc.ask (Qry.call (33 : Nat) [AV.c (CV.p (PV.sl n fun i => [PV.v (Value.string (s i))])), AV.c (CV.p (PV.v (Value.string x)))] []) (Ans.mk Ex.ret [AV.tup [AV.c (CV.p (PV.sl (ptN n (fun i => strC [PV.v (Value.string (s i))]) x) fun i => [PV.v (Value.string (ptF n (fun i => strC [PV.v (Value.string (s i))]) x i))])), AV.c (CV.p (PV.v (Value.int IntKind.i64 (↑(ptE n (fun i => strC [PV.v (Value.string (s i))]) x) : Int))))]] []) (Sc.ask (Qry.call (34 : Nat) [AV.c (CV.p (PV.sl n fun i => [PV.v (Value.string (s i))])), AV.c (CV.p (PV.v (Value.string x)))] []) (Ans.mk Ex.ret [AV.tup [AV.c (CV.p (PV.sl (ptN n (fun i => strC [PV.v (Value.string (s i))]) x) fun i => [PV.v (Value.string (ptF n (fun i => strC [PV.v (Value.string (s i))]) x i))])), AV.c (CV.p (PV.v (Value.int IntKind.i64 (↑(ptE n (fun i => strC [PV.v (Value.string (s i))]) x) : Int))))]] []) (Sc.ask (Qry.call (35 : Nat) [AV.c (CV.p (PV.sl n fun i => [PV.v (Value.string (s i))]))] []) (Ans.mk Ex.ret [AV.c (CV.p (PV.v (Value.bool (right n fun i => strC [PV.v (Value.string (s i))]))))] []) (Sc.ask (Qry.call (36 : Nat) [AV.c (CV.p (PV.sl n fun i => [PV.v (Value.string (s i))]))] []) (Ans.mk Ex.ret [AV.c (CV.p (PV.v (Value.bool (right n fun i => strC [PV.v (Value.string (s i))]))))] []) (Sc.br (!(right n fun i => strC [PV.v (Value.string (s i))]) == right n fun i => strC [PV.v (Value.string (s i))]) (Sc.done (Ans.mk Ex.ret [AV.c (CV.p (PV.v (Value.bool false)))] [])) (Sc.ask (Qry.call (37 : Nat) [AV.c (CV.p (PV.sl n fun i => [PV.v (Value.string (s i))])), AV.c (CV.p (PV.v (Value.string x)))] []) (Ans.mk Ex.ret [AV.c (CV.p (PV.v (Value.int IntKind.i64 (↑(plc (fun i => strC [PV.v (Value.string (s i))]) x n (0 : Nat)) : Int))))] []) (Sc.ask (Qry.call (38 : Nat) [AV.c (CV.p (PV.sl n fun i => [PV.v (Value.string (s i))])), AV.c (CV.p (PV.v (Value.string x)))] []) (Ans.mk Ex.ret [AV.c (CV.p (PV.v (Value.int IntKind.i64 (↑(plc (fun i => strC [PV.v (Value.string (s i))]) x n (0 : Nat)) : Int))))] []) (Sc.br ((↑(plc (fun i => strC [PV.v (Value.string (s i))]) x n (0 : Nat)) : Int) != (↑(plc (fun i => strC [PV.v (Value.string (s i))]) x n (0 : Nat)) : Int)) (Sc.done (Ans.mk Ex.ret [AV.c (CV.p (PV.v (Value.bool false)))] [])) (Sc.br ((↑(ptE n (fun i => strC [PV.v (Value.string (s i))]) x) : Int) != (↑(ptE n (fun i => strC [PV.v (Value.string (s i))]) x) : Int)) (Sc.done (Ans.mk Ex.ret [AV.c (CV.p (PV.v (Value.bool false)))] [])) (Sc.ask (Qry.call (39 : Nat) [AV.c (CV.p (PV.sl (ptN n (fun i => strC [PV.v (Value.string (s i))]) x) fun i => [PV.v (Value.string (ptF n (fun i => strC [PV.v (Value.string (s i))]) x i))])), AV.c (CV.p (PV.sl (ptN n (fun i => strC [PV.v (Value.string (s i))]) x) fun i => [PV.v (Value.string (ptF n (fun i => strC [PV.v (Value.string (s i))]) x i))]))] []) (Ans.mk Ex.ret [AV.c (CV.p (PV.v (Value.bool (sameS (ptN n (fun i => strC [PV.v (Value.string (s i))]) x) (ptN n (fun i => strC [PV.v (Value.string (s i))]) x) (fun i => strC [PV.v (Value.string (ptF n (fun i => strC [PV.v (Value.string (s i))]) x i))]) fun i => strC [PV.v (Value.string (ptF n (fun i => strC [PV.v (Value.string (s i))]) x i))]))))] []) (Sc.br (!sameS (ptN n (fun i => strC [PV.v (Value.string (s i))]) x) (ptN n (fun i => strC [PV.v (Value.string (s i))]) x) (fun i => strC [PV.v (Value.string (ptF n (fun i => strC [PV.v (Value.string (s i))]) x i))]) fun i => strC [PV.v (Value.string (ptF n (fun i => strC [PV.v (Value.string (s i))]) x i))]) (Sc.done (Ans.mk Ex.ret [AV.c (CV.p (PV.v (Value.bool false)))] [])) (Sc.ask (Qry.call (40 : Nat) [AV.c (CV.p (PV.sl n fun i => [PV.v (Value.string (s i))])), AV.c (CV.p (PV.v (Value.int IntKind.i64 p)))] []) (bif decide (p < (1 : Int) ∨ (↑n : Int) < p) then Ans.mk Ex.ret [AV.tup [AV.c (CV.p (PV.v (Value.string ByteArray.empty))), AV.c (CV.p (PV.v (Value.int IntKind.i64 (14 : Int))))]] [] else Ans.mk Ex.ret [AV.tup [AV.c (CV.p (PV.v (Value.string (strC [PV.v (Value.string (s (Int.toNat (p - (1 : Int)))))])))), AV.c (CV.p (PV.v (Value.int IntKind.i64 (0 : Int))))]] []) (Sc.br (decide (p < (1 : Int) ∨ (↑n : Int) < p)) (Sc.br (decide (p < (1 : Int))) (Sc.done (Ans.mk Ex.ret [AV.c (CV.p (PV.v (Value.bool true)))] [])) (Sc.br (decide (p > (↑n : Int))) (Sc.done (Ans.mk Ex.ret [AV.c (CV.p (PV.v (Value.bool true)))] [])) (Sc.chk ((0 : Int) ≤ IntKind.wrap IntKind.i64 (p - (1 : Int)) ∧ IntKind.wrap IntKind.i64 (p - (1 : Int)) < (↑n : Int)) (Sc.br ([] == ByteArray.toList (s (Int.toNat (IntKind.wrap IntKind.i64 (p - (1 : Int)))))) (Sc.done (Ans.mk Ex.ret [AV.c (CV.p (PV.v (Value.bool false)))] [])) (Sc.done (Ans.mk Ex.ret [AV.c (CV.p (PV.v (Value.bool false)))] [])))))) (Sc.br (decide (p < (1 : Int))) (Sc.br (ByteArray.toList (strC (Ss s (Int.toNat (p - (1 : Int))))) == []) (Sc.done (Ans.mk Ex.ret [AV.c (CV.p (PV.v (Value.bool false)))] [])) (Sc.done (Ans.mk Ex.ret [AV.c (CV.p (PV.v (Value.bool false)))] []))) (Sc.br (decide (p > (↑n : Int))) (Sc.br (ByteArray.toList (strC (Ss s (Int.toNat (p - (1 : Int))))) == []) (Sc.done (Ans.mk Ex.ret [AV.c (CV.p (PV.v (Value.bool false)))] [])) (Sc.done (Ans.mk Ex.ret [AV.c (CV.p (PV.v (Value.bool false)))] []))) (Sc.chk ((0 : Int) ≤ IntKind.wrap IntKind.i64 (p - (1 : Int)) ∧ IntKind.wrap IntKind.i64 (p - (1 : Int)) < (↑n : Int)) (Sc.br (ByteArray.toList (strC (Ss s (Int.toNat (p - (1 : Int))))) == ByteArray.toList (s (Int.toNat (IntKind.wrap IntKind.i64 (p - (1 : Int)))))) (Sc.done (Ans.mk Ex.ret [AV.c (CV.p (PV.v (Value.bool true)))] [])) (Sc.done (Ans.mk Ex.ret [AV.c (CV.p (PV.v (Value.bool false)))] [])))))))))))))))))))))) := by kernel_rfl
theorem law10_t (n : Nat)  (s : Nat → ByteArray)  (m : Nat)  (u : Nat → ByteArray)  : fol CK Try.prog (SLo 10 (fun vals h => match vals with | [a, b, _, _] => some ⟨.exit 0, [a, b, Sl m (Ss u), I n], h⟩ | _ => none) (nmS 31)) (An.a (An.l (An.a (An.b An.e (An.a An.e))))) (T.evQ CK Try.prog (.call 10 [Sl n (Ss s)] []) .done) = Sc.ask (Qry.call (31 : Nat) [] []) (Ans.mk Ex.ret [AV.c (CV.p (PV.v (Value.bool true)))] []) (Sc.ask (Qry.call (32 : Nat) [AV.c (CV.p (PV.sl n fun i => [PV.v (Value.string (s i))]))] []) (Ans.mk Ex.ret [AV.c (CV.p (PV.v (Value.bool (shortN n fun i => strC [PV.v (Value.string (s i))]))))] []) (Sc.br (!shortN n fun i => strC [PV.v (Value.string (s i))]) (Sc.done (Ans.mk Ex.ret [AV.c (CV.p (PV.v (Value.bool true)))] [])) (Sc.ask (Qry.loop (10 : Nat) (0 : Nat) [(1 : Nat), (1 : Nat), (1 : Nat), (1 : Nat), (0 : Nat), (1 : Nat), (0 : Nat)] [AV.c (CV.p (PV.sl n fun i => [PV.v (Value.string (s i))])), AV.c (CV.p (PV.v (Value.bool false))), AV.c CV.nils, AV.c (CV.p (PV.v (Value.int IntKind.i64 (0 : Int))))] []) (Ans.mk (Ex.exit (0 : Nat)) [AV.c (CV.p (PV.sl n fun i => [PV.v (Value.string (s i))])), AV.c (CV.p (PV.v (Value.bool false))), AV.c (CV.p (PV.sl m fun i => [PV.v (Value.string (u i))])), AV.c (CV.p (PV.v (Value.int IntKind.i64 (↑n : Int))))] []) (Sc.done (Ans.mk Ex.ret [AV.c (CV.p (PV.v (Value.bool true)))] []))))) := by kernel_rfl
theorem law10Q_t (n : Nat)  (s : Nat → ByteArray)  (k : Nat)  (v : Nat → ByteArray)  (i : Nat)  (a : Nat)  (A : Nat → ByteArray)  (e p f : Nat)  (z : ByteArray)  (m : Nat)  (u : Nat → ByteArray)  : fol CK Try.prog (SLo 10 (fun vals h => match vals with | [a, b, _, _] => some ⟨.exit 0, [a, b, Sl m (Ss u), I n], h⟩ | _ => none) (spec [(33, fun _ => some (.tup [Sl a (Ss A), I e])), (35, fun _ => some (B true)), (39, fun _ => some (B true)), (37, fun _ => some (I p)), (40, fun _ => some (.tup [Str z, I f]))] [])) (An.b (An.c (An.a (An.c (An.a (An.a (An.l (An.l (An.l (An.l (An.l (An.l (An.b (An.l (An.l (An.l (An.l (An.l (An.l (An.l (An.l An.e)))))))) (An.l (An.l (An.l (An.c (An.l (An.l (An.a (An.l (An.l (An.l (An.b (An.b (An.l (An.l (An.l (An.l (An.l An.e))))) (An.l (An.l (An.l (An.l (An.b An.e (An.a (An.b (An.l (An.l (An.l (An.l (An.l An.e))))) (An.l (An.l (An.b (An.l (An.l (An.l (An.c (An.l (An.l (An.l (An.l (An.l (An.b An.e (An.a An.e))))))))))) (An.l (An.l (An.l (An.l (An.l (An.l (An.l (An.l (An.l (An.a An.e))))))))))))))))))))) (An.b (An.b (An.l (An.l (An.l (An.l (An.l An.e))))) (An.l (An.l (An.l (An.l (An.b An.e (An.a (An.b (An.l (An.l (An.l (An.l (An.l An.e))))) (An.l (An.l (An.b (An.l (An.l (An.l (An.c (An.l (An.l (An.l (An.l (An.l (An.b An.e (An.a An.e))))))))))) (An.l (An.l (An.l (An.l (An.l (An.l (An.l (An.l (An.l (An.a An.e))))))))))))))))))))) (An.b (An.c (An.b (An.l (An.l (An.c (An.l (An.l (An.l (An.l (An.b An.e (An.a (An.b (An.l (An.l (An.l (An.l (An.l An.e))))) (An.l (An.l (An.b (An.l (An.l (An.l (An.c (An.l (An.l (An.l (An.l (An.l (An.b An.e (An.a An.e))))))))))) (An.l (An.l (An.l (An.l (An.l (An.l (An.l (An.l (An.l (An.a An.e))))))))))))))))))))))) (An.l (An.l (An.l (An.l (An.l (An.l (An.l (An.a (An.b (An.l (An.l (An.l (An.l (An.l An.e))))) (An.l (An.l (An.b (An.l (An.l (An.l (An.c (An.l (An.l (An.l (An.l (An.l (An.b An.e (An.a An.e))))))))))) (An.l (An.l (An.l (An.l (An.l (An.l (An.l (An.l (An.l (An.a An.e)))))))))))))))))))))))) (An.b (An.l (An.l (An.l (An.l (An.l (An.l (An.l An.e))))))) (An.l (An.l (An.l (An.b (An.l (An.l (An.l An.e))) (An.l (An.l (An.b An.e (An.a (An.b (An.l (An.l (An.l (An.l (An.l An.e))))) (An.l (An.l (An.b (An.l (An.l (An.l (An.c (An.l (An.l (An.l (An.l (An.l (An.b An.e (An.a An.e))))))))))) (An.l (An.l (An.l (An.l (An.l (An.l (An.l (An.l (An.l (An.a An.e)))))))))))))))))))))))))))))))))))))))))))))))) An.e) (T.evQ CK Try.prog (.loop 10 0 [1, 1, 1, 1, 0, 1, 0] [Sl n (Ss s), B false, Sl k (Ss v), I i] []) .done) = Sc.br (decide ((↑i : Int) < (↑n : Int))) (Sc.chk ((0 : Int) ≤ (↑i : Int) ∧ (↑i : Int) < (↑n : Int)) (Sc.ask (Qry.call (33 : Nat) [AV.c (CV.p (PV.sl k fun i => [PV.v (Value.string (v i))])), AV.c (CV.p (PV.v (Value.string (s (Int.toNat (↑i : Int))))))] []) (Ans.mk Ex.ret [AV.tup [AV.c (CV.p (PV.sl a fun i => [PV.v (Value.string (A i))])), AV.c (CV.p (PV.v (Value.int IntKind.i64 (↑e : Int))))]] []) (Sc.chk ((0 : Int) ≤ (↑i : Int) ∧ (↑i : Int) < (↑n : Int)) (Sc.ask (Qry.call (37 : Nat) [AV.c (CV.p (PV.sl a fun i => [PV.v (Value.string (A i))])), AV.c (CV.p (PV.v (Value.string (s (Int.toNat (↑i : Int))))))] []) (Ans.mk Ex.ret [AV.c (CV.p (PV.v (Value.int IntKind.i64 (↑p : Int))))] []) (Sc.ask (Qry.call (35 : Nat) [AV.c (CV.p (PV.sl a fun i => [PV.v (Value.string (A i))]))] []) (Ans.mk Ex.ret [AV.c (CV.p (PV.v (Value.bool true)))] []) (Sc.br (decide ((↑a : Int) < (↑k : Int))) (Sc.done (Ans.mk Ex.ret [AV.c (CV.p (PV.sl n fun i => [PV.v (Value.string (s i))])), AV.c (CV.p (PV.v (Value.bool false))), AV.c (CV.p (PV.sl k fun i => [PV.v (Value.string (v i))])), AV.c (CV.p (PV.v (Value.int IntKind.i64 (↑i : Int))))] [])) (Sc.chk ((0 : Int) ≤ (0 : Int) ∧ (0 : Int) ≤ (↑k : Int) ∧ (↑k : Int) ≤ (↑a : Int)) (Sc.ask (Qry.call (39 : Nat) [AV.c (CV.p (PV.sl (Int.toNat (↑k : Int) - (0 : Nat)) fun i => [PV.v (Value.string (A (i + Int.toNat (0 : Int))))])), AV.c (CV.p (PV.sl k fun i => [PV.v (Value.string (v i))]))] []) (Ans.mk Ex.ret [AV.c (CV.p (PV.v (Value.bool true)))] []) (Sc.br ((↑e : Int) == (0 : Int)) (Sc.br ((↑p : Int) != IntKind.wrap IntKind.i64 ((↑k : Int) + (1 : Int))) (Sc.done (Ans.mk Ex.ret [AV.c (CV.p (PV.sl n fun i => [PV.v (Value.string (s i))])), AV.c (CV.p (PV.v (Value.bool false))), AV.c (CV.p (PV.sl k fun i => [PV.v (Value.string (v i))])), AV.c (CV.p (PV.v (Value.int IntKind.i64 (↑i : Int))))] [])) (Sc.br ((↑a : Int) != (↑p : Int)) (Sc.done (Ans.mk Ex.ret [AV.c (CV.p (PV.sl n fun i => [PV.v (Value.string (s i))])), AV.c (CV.p (PV.v (Value.bool false))), AV.c (CV.p (PV.sl k fun i => [PV.v (Value.string (v i))])), AV.c (CV.p (PV.v (Value.int IntKind.i64 (↑i : Int))))] [])) (Sc.ask (Qry.call (40 : Nat) [AV.c (CV.p (PV.sl a fun i => [PV.v (Value.string (A i))])), AV.c (CV.p (PV.v (Value.int IntKind.i64 (↑p : Int))))] []) (Ans.mk Ex.ret [AV.tup [AV.c (CV.p (PV.v (Value.string z))), AV.c (CV.p (PV.v (Value.int IntKind.i64 (↑f : Int))))]] []) (Sc.br (!decide ((↑p : Int) > (0 : Int)) == ((↑f : Int) == (0 : Int))) (Sc.done (Ans.mk Ex.ret [AV.c (CV.p (PV.sl n fun i => [PV.v (Value.string (s i))])), AV.c (CV.p (PV.v (Value.bool false))), AV.c (CV.p (PV.sl k fun i => [PV.v (Value.string (v i))])), AV.c (CV.p (PV.v (Value.int IntKind.i64 (↑i : Int))))] [])) (Sc.br (decide ((↑p : Int) > (0 : Int))) (Sc.chk ((0 : Int) ≤ (↑i : Int) ∧ (↑i : Int) < (↑n : Int)) (Sc.br (!ByteArray.toList z == ByteArray.toList (s (Int.toNat (↑i : Int)))) (Sc.done (Ans.mk Ex.ret [AV.c (CV.p (PV.sl n fun i => [PV.v (Value.string (s i))])), AV.c (CV.p (PV.v (Value.bool false))), AV.c (CV.p (PV.sl k fun i => [PV.v (Value.string (v i))])), AV.c (CV.p (PV.v (Value.int IntKind.i64 (↑i : Int))))] [])) (Sc.ask (Qry.loop (10 : Nat) (0 : Nat) [(1 : Nat), (1 : Nat), (1 : Nat), (1 : Nat), (0 : Nat), (1 : Nat), (0 : Nat)] [AV.c (CV.p (PV.sl n fun i => [PV.v (Value.string (s i))])), AV.c (CV.p (PV.v (Value.bool false))), AV.c (CV.p (PV.sl a fun i => [PV.v (Value.string (A i))])), AV.c (CV.p (PV.v (Value.int IntKind.i64 (IntKind.wrap IntKind.i64 ((↑i : Int) + (1 : Int))))))] []) (Ans.mk (Ex.exit (0 : Nat)) [AV.c (CV.p (PV.sl n fun i => [PV.v (Value.string (s i))])), AV.c (CV.p (PV.v (Value.bool false))), AV.c (CV.p (PV.sl m fun i => [PV.v (Value.string (u i))])), AV.c (CV.p (PV.v (Value.int IntKind.i64 (↑n : Int))))] []) (Sc.done (Ans.mk (Ex.exit (0 : Nat)) [AV.c (CV.p (PV.sl n fun i => [PV.v (Value.string (s i))])), AV.c (CV.p (PV.v (Value.bool false))), AV.c (CV.p (PV.sl m fun i => [PV.v (Value.string (u i))])), AV.c (CV.p (PV.v (Value.int IntKind.i64 (↑n : Int))))] []))))) (Sc.ask (Qry.loop (10 : Nat) (0 : Nat) [(1 : Nat), (1 : Nat), (1 : Nat), (1 : Nat), (0 : Nat), (1 : Nat), (0 : Nat)] [AV.c (CV.p (PV.sl n fun i => [PV.v (Value.string (s i))])), AV.c (CV.p (PV.v (Value.bool false))), AV.c (CV.p (PV.sl a fun i => [PV.v (Value.string (A i))])), AV.c (CV.p (PV.v (Value.int IntKind.i64 (IntKind.wrap IntKind.i64 ((↑i : Int) + (1 : Int))))))] []) (Ans.mk (Ex.exit (0 : Nat)) [AV.c (CV.p (PV.sl n fun i => [PV.v (Value.string (s i))])), AV.c (CV.p (PV.v (Value.bool false))), AV.c (CV.p (PV.sl m fun i => [PV.v (Value.string (u i))])), AV.c (CV.p (PV.v (Value.int IntKind.i64 (↑n : Int))))] []) (Sc.done (Ans.mk (Ex.exit (0 : Nat)) [AV.c (CV.p (PV.sl n fun i => [PV.v (Value.string (s i))])), AV.c (CV.p (PV.v (Value.bool false))), AV.c (CV.p (PV.sl m fun i => [PV.v (Value.string (u i))])), AV.c (CV.p (PV.v (Value.int IntKind.i64 (↑n : Int))))] [])))))))) (Sc.br ((↑e : Int) == (7 : Int)) (Sc.br (decide ((↑p : Int) < (1 : Int))) (Sc.done (Ans.mk Ex.ret [AV.c (CV.p (PV.sl n fun i => [PV.v (Value.string (s i))])), AV.c (CV.p (PV.v (Value.bool false))), AV.c (CV.p (PV.sl k fun i => [PV.v (Value.string (v i))])), AV.c (CV.p (PV.v (Value.int IntKind.i64 (↑i : Int))))] [])) (Sc.br (decide ((↑p : Int) > (↑k : Int))) (Sc.done (Ans.mk Ex.ret [AV.c (CV.p (PV.sl n fun i => [PV.v (Value.string (s i))])), AV.c (CV.p (PV.v (Value.bool false))), AV.c (CV.p (PV.sl k fun i => [PV.v (Value.string (v i))])), AV.c (CV.p (PV.v (Value.int IntKind.i64 (↑i : Int))))] [])) (Sc.ask (Qry.call (40 : Nat) [AV.c (CV.p (PV.sl a fun i => [PV.v (Value.string (A i))])), AV.c (CV.p (PV.v (Value.int IntKind.i64 (↑p : Int))))] []) (Ans.mk Ex.ret [AV.tup [AV.c (CV.p (PV.v (Value.string z))), AV.c (CV.p (PV.v (Value.int IntKind.i64 (↑f : Int))))]] []) (Sc.br (!decide ((↑p : Int) > (0 : Int)) == ((↑f : Int) == (0 : Int))) (Sc.done (Ans.mk Ex.ret [AV.c (CV.p (PV.sl n fun i => [PV.v (Value.string (s i))])), AV.c (CV.p (PV.v (Value.bool false))), AV.c (CV.p (PV.sl k fun i => [PV.v (Value.string (v i))])), AV.c (CV.p (PV.v (Value.int IntKind.i64 (↑i : Int))))] [])) (Sc.br (decide ((↑p : Int) > (0 : Int))) (Sc.chk ((0 : Int) ≤ (↑i : Int) ∧ (↑i : Int) < (↑n : Int)) (Sc.br (!ByteArray.toList z == ByteArray.toList (s (Int.toNat (↑i : Int)))) (Sc.done (Ans.mk Ex.ret [AV.c (CV.p (PV.sl n fun i => [PV.v (Value.string (s i))])), AV.c (CV.p (PV.v (Value.bool false))), AV.c (CV.p (PV.sl k fun i => [PV.v (Value.string (v i))])), AV.c (CV.p (PV.v (Value.int IntKind.i64 (↑i : Int))))] [])) (Sc.ask (Qry.loop (10 : Nat) (0 : Nat) [(1 : Nat), (1 : Nat), (1 : Nat), (1 : Nat), (0 : Nat), (1 : Nat), (0 : Nat)] [AV.c (CV.p (PV.sl n fun i => [PV.v (Value.string (s i))])), AV.c (CV.p (PV.v (Value.bool false))), AV.c (CV.p (PV.sl a fun i => [PV.v (Value.string (A i))])), AV.c (CV.p (PV.v (Value.int IntKind.i64 (IntKind.wrap IntKind.i64 ((↑i : Int) + (1 : Int))))))] []) (Ans.mk (Ex.exit (0 : Nat)) [AV.c (CV.p (PV.sl n fun i => [PV.v (Value.string (s i))])), AV.c (CV.p (PV.v (Value.bool false))), AV.c (CV.p (PV.sl m fun i => [PV.v (Value.string (u i))])), AV.c (CV.p (PV.v (Value.int IntKind.i64 (↑n : Int))))] []) (Sc.done (Ans.mk (Ex.exit (0 : Nat)) [AV.c (CV.p (PV.sl n fun i => [PV.v (Value.string (s i))])), AV.c (CV.p (PV.v (Value.bool false))), AV.c (CV.p (PV.sl m fun i => [PV.v (Value.string (u i))])), AV.c (CV.p (PV.v (Value.int IntKind.i64 (↑n : Int))))] []))))) (Sc.ask (Qry.loop (10 : Nat) (0 : Nat) [(1 : Nat), (1 : Nat), (1 : Nat), (1 : Nat), (0 : Nat), (1 : Nat), (0 : Nat)] [AV.c (CV.p (PV.sl n fun i => [PV.v (Value.string (s i))])), AV.c (CV.p (PV.v (Value.bool false))), AV.c (CV.p (PV.sl a fun i => [PV.v (Value.string (A i))])), AV.c (CV.p (PV.v (Value.int IntKind.i64 (IntKind.wrap IntKind.i64 ((↑i : Int) + (1 : Int))))))] []) (Ans.mk (Ex.exit (0 : Nat)) [AV.c (CV.p (PV.sl n fun i => [PV.v (Value.string (s i))])), AV.c (CV.p (PV.v (Value.bool false))), AV.c (CV.p (PV.sl m fun i => [PV.v (Value.string (u i))])), AV.c (CV.p (PV.v (Value.int IntKind.i64 (↑n : Int))))] []) (Sc.done (Ans.mk (Ex.exit (0 : Nat)) [AV.c (CV.p (PV.sl n fun i => [PV.v (Value.string (s i))])), AV.c (CV.p (PV.v (Value.bool false))), AV.c (CV.p (PV.sl m fun i => [PV.v (Value.string (u i))])), AV.c (CV.p (PV.v (Value.int IntKind.i64 (↑n : Int))))] [])))))))) (Sc.br ((↑e : Int) == (3 : Int)) (Sc.chk ((0 : Int) ≤ (↑i : Int) ∧ (↑i : Int) < (↑n : Int)) (Sc.br (decide ((↑(ByteArray.size (s (Int.toNat (↑i : Int)))) : Int) ≥ (1 : Int))) (Sc.chk ((0 : Int) ≤ (↑i : Int) ∧ (↑i : Int) < (↑n : Int)) (Sc.br (decide ((↑(ByteArray.size (s (Int.toNat (↑i : Int)))) : Int) ≤ (24 : Int))) (Sc.done (Ans.mk Ex.ret [AV.c (CV.p (PV.sl n fun i => [PV.v (Value.string (s i))])), AV.c (CV.p (PV.v (Value.bool false))), AV.c (CV.p (PV.sl k fun i => [PV.v (Value.string (v i))])), AV.c (CV.p (PV.v (Value.int IntKind.i64 (↑i : Int))))] [])) (Sc.ask (Qry.call (40 : Nat) [AV.c (CV.p (PV.sl a fun i => [PV.v (Value.string (A i))])), AV.c (CV.p (PV.v (Value.int IntKind.i64 (↑p : Int))))] []) (Ans.mk Ex.ret [AV.tup [AV.c (CV.p (PV.v (Value.string z))), AV.c (CV.p (PV.v (Value.int IntKind.i64 (↑f : Int))))]] []) (Sc.br (!decide ((↑p : Int) > (0 : Int)) == ((↑f : Int) == (0 : Int))) (Sc.done (Ans.mk Ex.ret [AV.c (CV.p (PV.sl n fun i => [PV.v (Value.string (s i))])), AV.c (CV.p (PV.v (Value.bool false))), AV.c (CV.p (PV.sl k fun i => [PV.v (Value.string (v i))])), AV.c (CV.p (PV.v (Value.int IntKind.i64 (↑i : Int))))] [])) (Sc.br (decide ((↑p : Int) > (0 : Int))) (Sc.chk ((0 : Int) ≤ (↑i : Int) ∧ (↑i : Int) < (↑n : Int)) (Sc.br (!ByteArray.toList z == ByteArray.toList (s (Int.toNat (↑i : Int)))) (Sc.done (Ans.mk Ex.ret [AV.c (CV.p (PV.sl n fun i => [PV.v (Value.string (s i))])), AV.c (CV.p (PV.v (Value.bool false))), AV.c (CV.p (PV.sl k fun i => [PV.v (Value.string (v i))])), AV.c (CV.p (PV.v (Value.int IntKind.i64 (↑i : Int))))] [])) (Sc.ask (Qry.loop (10 : Nat) (0 : Nat) [(1 : Nat), (1 : Nat), (1 : Nat), (1 : Nat), (0 : Nat), (1 : Nat), (0 : Nat)] [AV.c (CV.p (PV.sl n fun i => [PV.v (Value.string (s i))])), AV.c (CV.p (PV.v (Value.bool false))), AV.c (CV.p (PV.sl a fun i => [PV.v (Value.string (A i))])), AV.c (CV.p (PV.v (Value.int IntKind.i64 (IntKind.wrap IntKind.i64 ((↑i : Int) + (1 : Int))))))] []) (Ans.mk (Ex.exit (0 : Nat)) [AV.c (CV.p (PV.sl n fun i => [PV.v (Value.string (s i))])), AV.c (CV.p (PV.v (Value.bool false))), AV.c (CV.p (PV.sl m fun i => [PV.v (Value.string (u i))])), AV.c (CV.p (PV.v (Value.int IntKind.i64 (↑n : Int))))] []) (Sc.done (Ans.mk (Ex.exit (0 : Nat)) [AV.c (CV.p (PV.sl n fun i => [PV.v (Value.string (s i))])), AV.c (CV.p (PV.v (Value.bool false))), AV.c (CV.p (PV.sl m fun i => [PV.v (Value.string (u i))])), AV.c (CV.p (PV.v (Value.int IntKind.i64 (↑n : Int))))] []))))) (Sc.ask (Qry.loop (10 : Nat) (0 : Nat) [(1 : Nat), (1 : Nat), (1 : Nat), (1 : Nat), (0 : Nat), (1 : Nat), (0 : Nat)] [AV.c (CV.p (PV.sl n fun i => [PV.v (Value.string (s i))])), AV.c (CV.p (PV.v (Value.bool false))), AV.c (CV.p (PV.sl a fun i => [PV.v (Value.string (A i))])), AV.c (CV.p (PV.v (Value.int IntKind.i64 (IntKind.wrap IntKind.i64 ((↑i : Int) + (1 : Int))))))] []) (Ans.mk (Ex.exit (0 : Nat)) [AV.c (CV.p (PV.sl n fun i => [PV.v (Value.string (s i))])), AV.c (CV.p (PV.v (Value.bool false))), AV.c (CV.p (PV.sl m fun i => [PV.v (Value.string (u i))])), AV.c (CV.p (PV.v (Value.int IntKind.i64 (↑n : Int))))] []) (Sc.done (Ans.mk (Ex.exit (0 : Nat)) [AV.c (CV.p (PV.sl n fun i => [PV.v (Value.string (s i))])), AV.c (CV.p (PV.v (Value.bool false))), AV.c (CV.p (PV.sl m fun i => [PV.v (Value.string (u i))])), AV.c (CV.p (PV.v (Value.int IntKind.i64 (↑n : Int))))] [])))))))) (Sc.ask (Qry.call (40 : Nat) [AV.c (CV.p (PV.sl a fun i => [PV.v (Value.string (A i))])), AV.c (CV.p (PV.v (Value.int IntKind.i64 (↑p : Int))))] []) (Ans.mk Ex.ret [AV.tup [AV.c (CV.p (PV.v (Value.string z))), AV.c (CV.p (PV.v (Value.int IntKind.i64 (↑f : Int))))]] []) (Sc.br (!decide ((↑p : Int) > (0 : Int)) == ((↑f : Int) == (0 : Int))) (Sc.done (Ans.mk Ex.ret [AV.c (CV.p (PV.sl n fun i => [PV.v (Value.string (s i))])), AV.c (CV.p (PV.v (Value.bool false))), AV.c (CV.p (PV.sl k fun i => [PV.v (Value.string (v i))])), AV.c (CV.p (PV.v (Value.int IntKind.i64 (↑i : Int))))] [])) (Sc.br (decide ((↑p : Int) > (0 : Int))) (Sc.chk ((0 : Int) ≤ (↑i : Int) ∧ (↑i : Int) < (↑n : Int)) (Sc.br (!ByteArray.toList z == ByteArray.toList (s (Int.toNat (↑i : Int)))) (Sc.done (Ans.mk Ex.ret [AV.c (CV.p (PV.sl n fun i => [PV.v (Value.string (s i))])), AV.c (CV.p (PV.v (Value.bool false))), AV.c (CV.p (PV.sl k fun i => [PV.v (Value.string (v i))])), AV.c (CV.p (PV.v (Value.int IntKind.i64 (↑i : Int))))] [])) (Sc.ask (Qry.loop (10 : Nat) (0 : Nat) [(1 : Nat), (1 : Nat), (1 : Nat), (1 : Nat), (0 : Nat), (1 : Nat), (0 : Nat)] [AV.c (CV.p (PV.sl n fun i => [PV.v (Value.string (s i))])), AV.c (CV.p (PV.v (Value.bool false))), AV.c (CV.p (PV.sl a fun i => [PV.v (Value.string (A i))])), AV.c (CV.p (PV.v (Value.int IntKind.i64 (IntKind.wrap IntKind.i64 ((↑i : Int) + (1 : Int))))))] []) (Ans.mk (Ex.exit (0 : Nat)) [AV.c (CV.p (PV.sl n fun i => [PV.v (Value.string (s i))])), AV.c (CV.p (PV.v (Value.bool false))), AV.c (CV.p (PV.sl m fun i => [PV.v (Value.string (u i))])), AV.c (CV.p (PV.v (Value.int IntKind.i64 (↑n : Int))))] []) (Sc.done (Ans.mk (Ex.exit (0 : Nat)) [AV.c (CV.p (PV.sl n fun i => [PV.v (Value.string (s i))])), AV.c (CV.p (PV.v (Value.bool false))), AV.c (CV.p (PV.sl m fun i => [PV.v (Value.string (u i))])), AV.c (CV.p (PV.v (Value.int IntKind.i64 (↑n : Int))))] []))))) (Sc.ask (Qry.loop (10 : Nat) (0 : Nat) [(1 : Nat), (1 : Nat), (1 : Nat), (1 : Nat), (0 : Nat), (1 : Nat), (0 : Nat)] [AV.c (CV.p (PV.sl n fun i => [PV.v (Value.string (s i))])), AV.c (CV.p (PV.v (Value.bool false))), AV.c (CV.p (PV.sl a fun i => [PV.v (Value.string (A i))])), AV.c (CV.p (PV.v (Value.int IntKind.i64 (IntKind.wrap IntKind.i64 ((↑i : Int) + (1 : Int))))))] []) (Ans.mk (Ex.exit (0 : Nat)) [AV.c (CV.p (PV.sl n fun i => [PV.v (Value.string (s i))])), AV.c (CV.p (PV.v (Value.bool false))), AV.c (CV.p (PV.sl m fun i => [PV.v (Value.string (u i))])), AV.c (CV.p (PV.v (Value.int IntKind.i64 (↑n : Int))))] []) (Sc.done (Ans.mk (Ex.exit (0 : Nat)) [AV.c (CV.p (PV.sl n fun i => [PV.v (Value.string (s i))])), AV.c (CV.p (PV.v (Value.bool false))), AV.c (CV.p (PV.sl m fun i => [PV.v (Value.string (u i))])), AV.c (CV.p (PV.v (Value.int IntKind.i64 (↑n : Int))))] [])))))))) (Sc.br ((↑e : Int) != (9 : Int)) (Sc.done (Ans.mk Ex.ret [AV.c (CV.p (PV.sl n fun i => [PV.v (Value.string (s i))])), AV.c (CV.p (PV.v (Value.bool false))), AV.c (CV.p (PV.sl k fun i => [PV.v (Value.string (v i))])), AV.c (CV.p (PV.v (Value.int IntKind.i64 (↑i : Int))))] [])) (Sc.br ((↑k : Int) != (32 : Int)) (Sc.done (Ans.mk Ex.ret [AV.c (CV.p (PV.sl n fun i => [PV.v (Value.string (s i))])), AV.c (CV.p (PV.v (Value.bool false))), AV.c (CV.p (PV.sl k fun i => [PV.v (Value.string (v i))])), AV.c (CV.p (PV.v (Value.int IntKind.i64 (↑i : Int))))] [])) (Sc.br ((↑p : Int) != (0 : Int)) (Sc.done (Ans.mk Ex.ret [AV.c (CV.p (PV.sl n fun i => [PV.v (Value.string (s i))])), AV.c (CV.p (PV.v (Value.bool false))), AV.c (CV.p (PV.sl k fun i => [PV.v (Value.string (v i))])), AV.c (CV.p (PV.v (Value.int IntKind.i64 (↑i : Int))))] [])) (Sc.ask (Qry.call (40 : Nat) [AV.c (CV.p (PV.sl a fun i => [PV.v (Value.string (A i))])), AV.c (CV.p (PV.v (Value.int IntKind.i64 (↑p : Int))))] []) (Ans.mk Ex.ret [AV.tup [AV.c (CV.p (PV.v (Value.string z))), AV.c (CV.p (PV.v (Value.int IntKind.i64 (↑f : Int))))]] []) (Sc.br (!decide ((↑p : Int) > (0 : Int)) == ((↑f : Int) == (0 : Int))) (Sc.done (Ans.mk Ex.ret [AV.c (CV.p (PV.sl n fun i => [PV.v (Value.string (s i))])), AV.c (CV.p (PV.v (Value.bool false))), AV.c (CV.p (PV.sl k fun i => [PV.v (Value.string (v i))])), AV.c (CV.p (PV.v (Value.int IntKind.i64 (↑i : Int))))] [])) (Sc.br (decide ((↑p : Int) > (0 : Int))) (Sc.chk ((0 : Int) ≤ (↑i : Int) ∧ (↑i : Int) < (↑n : Int)) (Sc.br (!ByteArray.toList z == ByteArray.toList (s (Int.toNat (↑i : Int)))) (Sc.done (Ans.mk Ex.ret [AV.c (CV.p (PV.sl n fun i => [PV.v (Value.string (s i))])), AV.c (CV.p (PV.v (Value.bool false))), AV.c (CV.p (PV.sl k fun i => [PV.v (Value.string (v i))])), AV.c (CV.p (PV.v (Value.int IntKind.i64 (↑i : Int))))] [])) (Sc.ask (Qry.loop (10 : Nat) (0 : Nat) [(1 : Nat), (1 : Nat), (1 : Nat), (1 : Nat), (0 : Nat), (1 : Nat), (0 : Nat)] [AV.c (CV.p (PV.sl n fun i => [PV.v (Value.string (s i))])), AV.c (CV.p (PV.v (Value.bool false))), AV.c (CV.p (PV.sl a fun i => [PV.v (Value.string (A i))])), AV.c (CV.p (PV.v (Value.int IntKind.i64 (IntKind.wrap IntKind.i64 ((↑i : Int) + (1 : Int))))))] []) (Ans.mk (Ex.exit (0 : Nat)) [AV.c (CV.p (PV.sl n fun i => [PV.v (Value.string (s i))])), AV.c (CV.p (PV.v (Value.bool false))), AV.c (CV.p (PV.sl m fun i => [PV.v (Value.string (u i))])), AV.c (CV.p (PV.v (Value.int IntKind.i64 (↑n : Int))))] []) (Sc.done (Ans.mk (Ex.exit (0 : Nat)) [AV.c (CV.p (PV.sl n fun i => [PV.v (Value.string (s i))])), AV.c (CV.p (PV.v (Value.bool false))), AV.c (CV.p (PV.sl m fun i => [PV.v (Value.string (u i))])), AV.c (CV.p (PV.v (Value.int IntKind.i64 (↑n : Int))))] []))))) (Sc.ask (Qry.loop (10 : Nat) (0 : Nat) [(1 : Nat), (1 : Nat), (1 : Nat), (1 : Nat), (0 : Nat), (1 : Nat), (0 : Nat)] [AV.c (CV.p (PV.sl n fun i => [PV.v (Value.string (s i))])), AV.c (CV.p (PV.v (Value.bool false))), AV.c (CV.p (PV.sl a fun i => [PV.v (Value.string (A i))])), AV.c (CV.p (PV.v (Value.int IntKind.i64 (IntKind.wrap IntKind.i64 ((↑i : Int) + (1 : Int))))))] []) (Ans.mk (Ex.exit (0 : Nat)) [AV.c (CV.p (PV.sl n fun i => [PV.v (Value.string (s i))])), AV.c (CV.p (PV.v (Value.bool false))), AV.c (CV.p (PV.sl m fun i => [PV.v (Value.string (u i))])), AV.c (CV.p (PV.v (Value.int IntKind.i64 (↑n : Int))))] []) (Sc.done (Ans.mk (Ex.exit (0 : Nat)) [AV.c (CV.p (PV.sl n fun i => [PV.v (Value.string (s i))])), AV.c (CV.p (PV.v (Value.bool false))), AV.c (CV.p (PV.sl m fun i => [PV.v (Value.string (u i))])), AV.c (CV.p (PV.v (Value.int IntKind.i64 (↑n : Int))))] [])))))))))))))))))))) (Sc.done (Ans.mk (Ex.exit (0 : Nat)) [AV.c (CV.p (PV.sl n fun i => [PV.v (Value.string (s i))])), AV.c (CV.p (PV.v (Value.bool false))), AV.c (CV.p (PV.sl k fun i => [PV.v (Value.string (v i))])), AV.c (CV.p (PV.v (Value.int IntKind.i64 (↑i : Int))))] [])) := by kernel_rfl
theorem awake31_t  : fol CK Try.prog (spec [] []) (An.i (An.i (An.l (An.i (An.l (An.d (An.d (An.l (An.l (An.i (An.l (An.l (An.l (An.l (An.l (An.l (An.l (An.d (An.i (An.l (An.l (An.i (An.l (An.l (An.l (An.l (An.l (An.i (An.i (An.i (An.l (An.d (An.l (An.i (An.l (An.l (An.l (An.i (An.l (An.l (An.d (An.d (An.i (An.l (An.l (An.l (An.l (An.l (An.l (An.d (An.i (An.i (An.l (An.i (An.l (An.d (An.d (An.l (An.l (An.i (An.l (An.l (An.l (An.l (An.l (An.l (An.l (An.d (An.i (An.l (An.d (An.d (An.l (An.l (An.i (An.l (An.l (An.l (An.l (An.l (An.l (An.l (An.d (An.i (An.l (An.l (An.i (An.l (An.l (An.l (An.l (An.l (An.i (An.i (An.i (An.l (An.d (An.l (An.l (An.l (An.l (An.l (An.l (An.l (An.l (An.l (An.l (An.l (An.l (An.l (An.i (An.i (An.i (An.l (An.d (An.l (An.i (An.l (An.d (An.l (An.l (An.l (An.l (An.l (An.i (An.l (An.i (An.l (An.d (An.d (An.l (An.l (An.i (An.l (An.l (An.l (An.l (An.l (An.l (An.l (An.d (An.i (An.l (An.d (An.d (An.l (An.l (An.i (An.l (An.l (An.l (An.l (An.l (An.l (An.l (An.d (An.i (An.l (An.l An.e))))))))))))))))))))))))))))))))))))))))))))))))))))))))))))))))))))))))))))))))))))))))))))))))))))))))))))))))))))))))))))))))))))))))))))))))))))))))))))))) (T.evQ CK Try.prog (.call 31 [] []) .done) = Sc.done (Ans.mk Ex.ret [AV.c (CV.p (PV.v (Value.bool true)))] []) := by kernel_rfl

theorem c31 : QOk Try.prog CK (.call 31 [] []) ⟨.ret, [B true], []⟩ := tree_i hP awake31_t rfl
theorem shortN_len {n : Nat} {s : Nat → ByteArray} (h : shortN n s = true) : n ≤ 60 := by
  unfold shortN at h
  rw [decide_eq_true_iff] at h
  exact h.1
theorem sameS_self (n : Nat) (s : Nat → ByteArray) : sameS n n s s = true := by
  unfold sameS; rw [decide_eq_true_iff]; exact ⟨rfl, fun _ _ => rfl⟩
theorem ptN_le (n : Nat) (s : Nat → ByteArray) (x : ByteArray) : ptN n s x ≤ n + 1 := by unfold ptN; split <;> omega
theorem law9 {n : Nat} {s : Nat → ByteArray} {x : ByteArray} {p : Int} (hn : n ≤ 9223372036854775807) (hs : ∀ i, (s i).size ≤ 9223372036854775807) (hp : -9223372036854775808 ≤ p ∧ p ≤ 9223372036854775807) : CallIn Try.prog 9 [Sl n (Ss s), Str x, I p] [] ⟨.ret, [B true], []⟩ := by
  have e0 : (fun i => strC [PV.v (Value.string (s i))]) = s := rfl
  have e1 : (fun i => strC [PV.v (Value.string (ptF n s x i))]) = ptF n s x := rfl
  refine treeIn_i hP (law9_t n s x p) ?_
  simp only [Sc.Ok, e0, e1]
  refine ⟨c31, cShort hn, fun _ => trivial, fun h => ?_⟩
  have h60 := shortN_len (n := n) (s := s) (by simpa using h)
  have hl : len n := by unfold len; omega
  have hl2 : len (ptN n s x) := by have := ptN_le n s x; unfold len; omega
  have ha := cAt (n := n) (s := s) hp
  refine ⟨fun _ => trivial, fun h2 => ⟨cPut hl hs, cRPut hl, cRight hl hs, cRRight hl, fun h => ?_, fun _ => ⟨cPlace hl, cRPlace hl, fun h => ?_, fun _ => ⟨fun h => ?_, fun _ => ⟨cSame hl2, fun h => ?_, fun _ => ⟨ha, fun h3 => ⟨fun h4 => trivial, fun h4 => ⟨fun h5 => trivial, fun h5 => ?_⟩⟩, fun h3 => ⟨fun h4 => ?_, fun h4 => ⟨fun h5 => ?_, fun h5 => ⟨?_, fun h6 => trivial, fun h6 => ?_⟩⟩⟩⟩⟩⟩⟩⟩⟩
  · simp at h
  · simp at h
  · simp at h
  · rw [sameS_self] at h; simp at h
  · rw [decide_eq_true_iff] at h3
    rw [decide_eq_false_iff_not] at h4 h5
    omega
  · rw [decide_eq_false_iff_not] at h3
    rw [decide_eq_true_iff] at h4
    omega
  · rw [decide_eq_false_iff_not] at h3
    rw [decide_eq_true_iff] at h5
    omega
  · rw [decide_eq_false_iff_not] at h4 h5
    rw [w64 (by omega)]; omega
  · rw [decide_eq_false_iff_not] at h4 h5
    rw [w64 (by omega)] at h6
    simp [strC] at h6
/-! ### However names are put -/
theorem rgt_iff (s : Nat → ByteArray) : ∀ (k i : Nat), rgt s k i = true ↔ ∀ j, i ≤ j → j < i + k → nmd (s j) = true ∧ plc s (s j) j 0 = 0
  | 0, i => ⟨fun _ j h1 h2 => by omega, fun _ => rfl⟩
  | k + 1, i => by
    rw [rgt_succ, Bool.and_eq_true, Bool.and_eq_true, rgt_iff s k (i + 1)]
    constructor
    · rintro ⟨⟨h1, h2⟩, h3⟩ j h4 h5
      by_cases hj : j = i
      · subst hj; exact ⟨h1, Nat.eq_of_beq_eq_true h2⟩
      · exact h3 j (by omega) (by omega)
    · intro h
      have h0 := h i (Nat.le_refl _) (by omega)
      refine ⟨⟨h0.1, ?_⟩, fun j h1 h2 => h j (by omega) (by omega)⟩
      unfold fndN; rw [h0.2]; rfl
theorem right_iff (n : Nat) (s : Nat → ByteArray) : right n s = true ↔ n ≤ 32 ∧ ∀ j, j < n → nmd (s j) = true ∧ plc s (s j) j 0 = 0 := by
  unfold right
  rw [Bool.and_eq_true, decide_eq_true_iff, rgt_iff]
  exact ⟨fun h => ⟨h.1, fun j hj => h.2 j (by omega) (by omega)⟩, fun h => ⟨h.1, fun j _ hj => h.2 j (by omega)⟩⟩
theorem plc_congr {s u : Nat → ByteArray} {x : ByteArray} : ∀ {k i : Nat}, (∀ j, i ≤ j → j < i + k → s j = u j) → plc s x k i = plc u x k i
  | 0, i, h => rfl
  | k + 1, i, h => by
    unfold plc
    rw [h i (Nat.le_refl _) (by omega), plc_congr (k := k) (i := i + 1) fun j h1 h2 => h j (by omega) (by omega)]
theorem ptF_lt {n : Nat} {s : Nat → ByteArray} {x : ByteArray} {i : Nat} (h : i < n) : ptF n s x i = s i := by unfold ptF; rw [if_pos h]
/-- What a Put is, of a list that is right. -/
theorem ptE_cases {n : Nat} {s : Nat → ByteArray} {x : ByteArray} (h : right n s = true) :
    (ptE n s x = 0 ∧ nmd x = true ∧ plc s x n 0 = 0 ∧ n < 32) ∨ (ptE n s x = 3 ∧ nmd x = false) ∨ (ptE n s x = 7 ∧ plc s x n 0 ≠ 0) ∨ (ptE n s x = 9 ∧ plc s x n 0 = 0 ∧ n = 32) := by
  have h32 := ((right_iff n s).1 h).1
  unfold ptE
  rw [if_neg (by rw [h]; simp)]
  by_cases h1 : nmd x = false
  · rw [if_pos h1]; exact .inr (.inl ⟨rfl, h1⟩)
  · rw [if_neg h1]
    by_cases h2 : 0 < plc s x n 0
    · rw [if_pos h2]; exact .inr (.inr (.inl ⟨rfl, by omega⟩))
    · rw [if_neg h2]
      by_cases h3 : n = 32
      · rw [if_pos h3]; exact .inr (.inr (.inr ⟨rfl, by omega, h3⟩))
      · rw [if_neg h3]; exact .inl ⟨rfl, by simpa using h1, by omega, by omega⟩
theorem right_put {n : Nat} {s : Nat → ByteArray} {x : ByteArray} (h : right n s = true) : right (ptN n s x) (ptF n s x) = true := by
  have hr := (right_iff n s).1 h
  have old : ∀ j, j < n → nmd (ptF n s x j) = true ∧ plc (ptF n s x) (ptF n s x j) j 0 = 0 := fun j hj => by
    rw [ptF_lt hj, plc_congr (u := s) fun i _ hi => ptF_lt (by omega)]
    exact hr.2 j hj
  rw [right_iff]
  rcases ptE_cases (x := x) h with ⟨e, h1, h2, h3⟩ | ⟨e, _⟩ | ⟨e, _⟩ | ⟨e, _⟩
  · have hN : ptN n s x = n + 1 := by unfold ptN; rw [e, if_pos rfl]
    rw [hN]
    refine ⟨by omega, fun j hj => ?_⟩
    by_cases hj2 : j < n
    · exact old j hj2
    · have : j = n := by omega
      subst this
      have hx : ptF j s x j = x := by unfold ptF; rw [if_neg (by omega)]
      rw [hx, plc_congr (u := s) fun i _ hi => ptF_lt (by omega)]
      exact ⟨h1, h2⟩
  all_goals
    have hN : ptN n s x = n := by unfold ptN; rw [e, if_neg (by decide)]
    rw [hN]
    exact ⟨hr.1, old⟩
theorem placesLoop (n : Nat) (s : Nat → ByteArray) (hn : n ≤ 60) (hs : ∀ i, (s i).size ≤ 9223372036854775807) : ∀ (r i k : Nat) (v : Nat → ByteArray), i + r = n → right k v = true → (∀ i, (v i).size ≤ 9223372036854775807) →
    ∃ m u, QOk Try.prog CK (.loop 10 0 [1, 1, 1, 1, 0, 1, 0] [Sl n (Ss s), B false, Sl k (Ss v), I i] []) ⟨.exit 0, [Sl n (Ss s), B false, Sl m (Ss u), I n], []⟩
  | 0, i, k, v, hi, hv, hvs => by
    refine ⟨k, v, tree_i hP (law10Q_t n s k v i 0 v 0 0 0 ByteArray.empty k v) ?_⟩
    simp only [Sc.Ok]
    refine ⟨fun h => ?_, fun h => ?_⟩
    · rw [decide_eq_true_iff] at h; omega
    · rw [show i = n by omega]
  | r + 1, i, k, v, hi, hv, hvs => by
    have e7 := next64 (i := i) (n := n) (by omega) (by omega)
    have hk := ((right_iff k v).1 hv).1
    have hk7 : IntKind.wrap .i64 ((k : Int) + 1) = ((k + 1 : Nat) : Int) := by rw [w64 (by omega)]; omega
    have hkl : len k := by unfold len; omega
    have hA := right_put (x := s i) hv
    have ha := ((right_iff _ _).1 hA).1
    have hal : len (ptN k v (s i)) := by unfold len; omega
    have hAs : ∀ j, (ptF k v (s i) j).size ≤ 9223372036854775807 := fun j => by
      unfold ptF
      by_cases hj : j < k
      · rw [if_pos hj]; exact hvs j
      · rw [if_neg hj]; exact hs i
    have hka : k ≤ ptN k v (s i) := by unfold ptN; split <;> omega
    have qput := cPut (x := s i) hkl hvs
    have qplace := cPlace (s := ptF k v (s i)) (x := s i) hal
    have qright := cRight hal hAs
    rw [hA] at qright
    have qsame : QOk Try.prog CK (.call 39 [Sl k (Ss (ptF k v (s i))), Sl k (Ss v)] []) ⟨.ret, [B true], []⟩ := by
      have h := cSame (n := k) (m := k) (s := ptF k v (s i)) (u := v) hkl
      have : sameS k k (ptF k v (s i)) v = true := by
        unfold sameS; rw [decide_eq_true_iff]; exact ⟨rfl, fun j hj => ptF_lt hj⟩
      rw [this] at h; exact h
    obtain ⟨m, u, ih⟩ := placesLoop n s hn hs r (i + 1) (ptN k v (s i)) (ptF k v (s i)) (by omega) hA hAs
    have hple := plc_le (ptF k v (s i)) (s i) (ptN k v (s i)) 0
    obtain ⟨z, f, qat, hf, hz⟩ : ∃ (z : ByteArray) (f : Nat), QOk Try.prog CK (.call 40 [Sl (ptN k v (s i)) (Ss (ptF k v (s i))), I (plc (ptF k v (s i)) (s i) (ptN k v (s i)) 0 : Int)] []) ⟨.ret, [.tup [Str z, I f]], []⟩ ∧ (plc (ptF k v (s i)) (s i) (ptN k v (s i)) 0 = 0 ↔ ¬ f = 0) ∧ (plc (ptF k v (s i)) (s i) (ptN k v (s i)) 0 ≠ 0 → z = s i) := by
      have h := cAt (n := ptN k v (s i)) (s := ptF k v (s i)) (p := (plc (ptF k v (s i)) (s i) (ptN k v (s i)) 0 : Int)) (by omega)
      by_cases h0 : plc (ptF k v (s i)) (s i) (ptN k v (s i)) 0 = 0
      · rw [decide_eq_true (by omega)] at h
        exact ⟨ByteArray.empty, 14, h, ⟨fun _ => by decide, fun _ => h0⟩, fun h1 => absurd h0 h1⟩
      · rw [decide_eq_false (by omega)] at h
        have := (plc_some h0).2.2.1
        rw [show ((plc (ptF k v (s i)) (s i) (ptN k v (s i)) 0 : Int) - 1).toNat = plc (ptF k v (s i)) (s i) (ptN k v (s i)) 0 - 1 by omega, this] at h
        exact ⟨s i, 0, h, ⟨fun h1 => absurd h1 h0, fun h1 => absurd rfl h1⟩, fun _ => rfl⟩
    have hcases := ptE_cases (x := s i) hv
    -- where it stands behind a Put
    have hP0 : ptE k v (s i) = 0 → plc (ptF k v (s i)) (s i) (ptN k v (s i)) 0 = k + 1 ∧ ptN k v (s i) = k + 1 := fun e => by
      have hN : ptN k v (s i) = k + 1 := by unfold ptN; rw [e, if_pos rfl]
      rcases hcases with ⟨_, h1, h2, h3⟩ | ⟨e', _⟩ | ⟨e', _⟩ | ⟨e', _⟩
      · refine ⟨?_, hN⟩
        rw [hN]
        have hx : ptF k v (s i) k = s i := by unfold ptF; rw [if_neg (by omega)]
        have := (plc_own (s := ptF k v (s i)) (n := k + 1) (i := k) (by omega)).2
        rw [hx] at this
        refine this ?_
        rw [plc_congr (u := v) fun j _ hj => ptF_lt (by omega)]
        exact h2
      all_goals rw [e] at e'; exact absurd e' (by decide)
    have hNk : ptE k v (s i) ≠ 0 → ptN k v (s i) = k := fun e => by unfold ptN; rw [if_neg e]
    have hPk : ptE k v (s i) ≠ 0 → plc (ptF k v (s i)) (s i) (ptN k v (s i)) 0 = plc v (s i) k 0 := fun e => by
      rw [hNk e]; exact plc_congr fun j _ hj => ptF_lt (by omega)
    have hvle := plc_le v (s i) k 0
    refine ⟨m, u, tree_i hP (law10Q_t n s k v i (ptN k v (s i)) (ptF k v (s i)) (ptE k v (s i)) (plc (ptF k v (s i)) (s i) (ptN k v (s i)) 0) f z m u) ?_⟩
    generalize ptE k v (s i) = e at *
    generalize plc (ptF k v (s i)) (s i) (ptN k v (s i)) 0 = p at *
    generalize hAA : ptF k v (s i) = A at *
    generalize ptN k v (s i) = a at *
    simp only [Sc.Ok, Int.toNat_natCast, Int.toNat_zero, Nat.sub_zero, Nat.add_zero, e7, hk7]
    have hb : ((!(decide ((p : Int) > 0) == ((f : Int) == 0))) = true) → False := fun h => by
      have : (decide ((p : Int) > 0) == ((f : Int) == 0)) = true := by
        rw [beq_iff_eq, Bool.eq_iff_iff, decide_eq_true_iff, beq_iff_eq]
        omega
      rw [this] at h; simp at h
    have hzz : decide ((p : Int) > 0) = true → ((!z.toList == (s i).toList) = true) → False := fun h1 h2 => by
      rw [decide_eq_true_iff] at h1
      rw [hz (by omega)] at h2
      simp at h2
    refine ⟨fun _ => ⟨by omega, qput, by omega, qplace, qright, fun h => ?_, fun _ => ⟨by omega, qsame, fun h => ⟨fun h2 => ?_, fun _ => ⟨fun h2 => ?_, fun _ => ⟨qat, fun h => (hb h).elim, fun _ => ⟨fun h1 => ⟨by omega, fun h2 => (hzz h1 h2).elim, fun _ => ⟨ih, trivial⟩⟩, fun _ => ⟨ih, trivial⟩⟩⟩⟩⟩,
      fun h0 => ⟨fun h => ⟨fun h2 => ?_, fun _ => ⟨fun h2 => ?_, fun _ => ⟨qat, fun h => (hb h).elim, fun _ => ⟨fun h1 => ⟨by omega, fun h2 => (hzz h1 h2).elim, fun _ => ⟨ih, trivial⟩⟩, fun _ => ⟨ih, trivial⟩⟩⟩⟩⟩,
      fun h7 => ⟨fun h => ⟨by omega, fun h1 => ⟨by omega, fun h2 => ?_, fun _ => ⟨qat, fun h => (hb h).elim, fun _ => ⟨fun h1 => ⟨by omega, fun h2 => (hzz h1 h2).elim, fun _ => ⟨ih, trivial⟩⟩, fun _ => ⟨ih, trivial⟩⟩⟩⟩, fun _ => ⟨qat, fun h => (hb h).elim, fun _ => ⟨fun h1 => ⟨by omega, fun h2 => (hzz h1 h2).elim, fun _ => ⟨ih, trivial⟩⟩, fun _ => ⟨ih, trivial⟩⟩⟩⟩,
      fun h3 => ⟨fun h => ?_, fun _ => ⟨fun h => ?_, fun _ => ⟨fun h => ?_, fun _ => ⟨qat, fun h => (hb h).elim, fun _ => ⟨fun h1 => ⟨by omega, fun h2 => (hzz h1 h2).elim, fun _ => ⟨ih, trivial⟩⟩, fun _ => ⟨ih, trivial⟩⟩⟩⟩⟩⟩⟩⟩⟩⟩, fun h => ?_⟩
    · rw [decide_eq_true_iff] at h; omega
    · have he : e = 0 := by simpa using h
      have := hP0 he
      simp at h2; omega
    · have he : e = 0 := by simpa using h
      have := hP0 he
      simp at h2; omega
    · have he : e = 7 := by simp at h; omega
      rcases hcases with ⟨e', _⟩ | ⟨e', _⟩ | ⟨_, e'⟩ | ⟨e', _⟩ <;> first | omega | skip
      have := hPk (by omega)
      simp at h2; omega
    · have he : e = 7 := by simp at h; omega
      have := hPk (by omega)
      simp at h2; omega
    · have he : e = 3 := by simp at h; omega
      rcases hcases with ⟨e', _⟩ | ⟨_, e'⟩ | ⟨e', _⟩ | ⟨e', _⟩ <;> first | omega | skip
      unfold nmd at e'
      rw [decide_eq_false_iff_not] at e'
      rw [decide_eq_true_iff] at h1 h2
      omega
    · have he : ¬ e = 9 := by simp at h; omega
      simp at h0 h7 h3
      omega
    · simp at h0 h7 h3 h
      omega
    · simp at h0 h7 h3 h
      have := hPk (by omega)
      omega
    · simp at h; omega
theorem law10 {n : Nat} {s : Nat → ByteArray} (hn : n ≤ 9223372036854775807) (hs : ∀ i, (s i).size ≤ 9223372036854775807) : CallIn Try.prog 10 [Sl n (Ss s)] [] ⟨.ret, [B true], []⟩ := by
  have e0 : (fun i => strC [PV.v (Value.string (s i))]) = s := rfl
  by_cases h : shortN n s = true
  · obtain ⟨m, u, hl⟩ := placesLoop n s (shortN_len h) hs n 0 0 (fun _ => ByteArray.empty) (by omega) rfl (fun _ => by decide)
    refine treeIn_i hP (law10_t n s m u) ?_
    simp only [Sc.Ok, e0]
    exact ⟨c31, cShort hn, fun _ => trivial, fun _ => ⟨QOk.lp hl (.cons (ALe.refl _) (.cons (ALe.refl _) (.cons (ALe.nilSl _) (.cons (ALe.refl _) .nil)))) (HLe.refl _), trivial⟩⟩
  · refine treeIn_i hP (law10_t n s 0 s) ?_
    simp only [Sc.Ok, e0]
    refine ⟨c31, cShort hn, fun _ => trivial, fun h2 => ?_⟩
    exact absurd (by simpa using h2) h
end Names
end Go.Fx
