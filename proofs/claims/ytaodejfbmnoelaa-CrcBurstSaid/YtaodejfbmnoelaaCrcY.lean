/- Sums of bytes: what is changed within four bytes isn't opened. -/
import Derived.Test.YtaodejfbmnoelaaCrcX
set_option maxRecDepth 100000
set_option maxHeartbeats 4000000
set_option linter.unusedVariables false
set_option linter.unusedSimpArgs false
namespace Go.Fx
open Go.Proofs
namespace Crc
attribute [local irreducible] QOk
theorem lawT0_t (n : Nat)  (b : Nat → Nat)  (k m : Nat)  (d0 d1 d2 d3 : Nat)  (u : Nat → Nat)  (w : Nat → Nat)  : fol CK Try.prog (SL 14 (fun vals h => match vals, h with | [x, y, z, u, v, _], [o, p, .row _ m _ _] => some (.one ⟨.exit 0, [x, y, z, u, v, I 4], [o, p, rowB m (Bs w)]⟩) | _, _ => none)) (An.l (An.c (An.c (An.d (An.d (An.c (An.c (An.a An.e)))))))) (T.evQ CK Try.prog (.loop 14 0 [1, 1, 1, 1, 1, 1, 1, 0, 1, 0] [Sl n (Bs b), .c (.ptr 0 0), .c (.ptr 1 0), .c (.os 2), I k, I 0] [.box (by4 d0 d1 d2 d3) true, .box tabC true, rowB m (Bs u)]) .done) = Sc.chk ((0 : Int) ≤ IntKind.wrap IntKind.i64 ((↑k : Int) + (0 : Int)) ∧ IntKind.wrap IntKind.i64 ((↑k : Int) + (0 : Int)) < (↑m : Int)) (Sc.chk (Int.toNat (IntKind.wrap IntKind.i64 ((↑k : Int) + (0 : Int))) < m) (Sc.chk ((0 : Int) ≤ IntKind.wrap IntKind.i64 ((↑k : Int) + (0 : Int)) ∧ IntKind.wrap IntKind.i64 ((↑k : Int) + (0 : Int)) < (↑m : Int)) (Sc.chk (Int.toNat (IntKind.wrap IntKind.i64 ((↑k : Int) + (0 : Int))) < m) (Sc.ask (Qry.loop (14 : Nat) (0 : Nat) [(1 : Nat), (1 : Nat), (1 : Nat), (1 : Nat), (1 : Nat), (1 : Nat), (1 : Nat), (0 : Nat), (1 : Nat), (0 : Nat)] [AV.c (CV.p (PV.sl n fun i => [PV.v (Value.int IntKind.u8 (↑(b i) : Int))])), AV.c (CV.ptr (0 : Nat) (0 : Nat)), AV.c (CV.ptr (1 : Nat) (0 : Nat)), AV.c (CV.os (2 : Nat)), AV.c (CV.p (PV.v (Value.int IntKind.i64 (↑k : Int)))), AV.c (CV.p (PV.v (Value.int IntKind.i64 (1 : Int))))] [Ob.box [CV.p (PV.v (Value.int IntKind.u8 (↑d0 : Int))), CV.p (PV.v (Value.int IntKind.u8 (↑d1 : Int))), CV.p (PV.v (Value.int IntKind.u8 (↑d2 : Int))), CV.p (PV.v (Value.int IntKind.u8 (↑d3 : Int)))] true, Ob.box tabC true, Ob.row (5 : Nat) m (fun j => if j = Int.toNat (IntKind.wrap IntKind.i64 ((↑k : Int) + (0 : Int))) then [PV.v (Value.int IntKind.u8 (IntKind.wrap IntKind.u8 (↑(BitVec.toNat (BitVec.ofInt (IntKind.bits IntKind.u8) (↑(u (Int.toNat (IntKind.wrap IntKind.i64 ((↑k : Int) + (0 : Int))))) : Int) ^^^ BitVec.ofInt (IntKind.bits IntKind.u8) (↑d0 : Int))) : Int)))] else [PV.v (Value.int IntKind.u8 (↑(u j) : Int))]) true]) (Ans.mk (Ex.exit (0 : Nat)) [AV.c (CV.p (PV.sl n fun i => [PV.v (Value.int IntKind.u8 (↑(b i) : Int))])), AV.c (CV.ptr (0 : Nat) (0 : Nat)), AV.c (CV.ptr (1 : Nat) (0 : Nat)), AV.c (CV.os (2 : Nat)), AV.c (CV.p (PV.v (Value.int IntKind.i64 (↑k : Int)))), AV.c (CV.p (PV.v (Value.int IntKind.i64 (4 : Int))))] [Ob.box [CV.p (PV.v (Value.int IntKind.u8 (↑d0 : Int))), CV.p (PV.v (Value.int IntKind.u8 (↑d1 : Int))), CV.p (PV.v (Value.int IntKind.u8 (↑d2 : Int))), CV.p (PV.v (Value.int IntKind.u8 (↑d3 : Int)))] true, Ob.box tabC true, Ob.row (5 : Nat) m (fun i => [PV.v (Value.int IntKind.u8 (↑(w i) : Int))]) true]) (Sc.done (Ans.mk (Ex.exit (0 : Nat)) [AV.c (CV.p (PV.sl n fun i => [PV.v (Value.int IntKind.u8 (↑(b i) : Int))])), AV.c (CV.ptr (0 : Nat) (0 : Nat)), AV.c (CV.ptr (1 : Nat) (0 : Nat)), AV.c (CV.os (2 : Nat)), AV.c (CV.p (PV.v (Value.int IntKind.i64 (↑k : Int)))), AV.c (CV.p (PV.v (Value.int IntKind.i64 (4 : Int))))] [Ob.box [CV.p (PV.v (Value.int IntKind.u8 (↑d0 : Int))), CV.p (PV.v (Value.int IntKind.u8 (↑d1 : Int))), CV.p (PV.v (Value.int IntKind.u8 (↑d2 : Int))), CV.p (PV.v (Value.int IntKind.u8 (↑d3 : Int)))] true, Ob.box tabC true, Ob.row (5 : Nat) m (fun i => [PV.v (Value.int IntKind.u8 (↑(w i) : Int))]) true])))))) := by kernel_rfl
theorem lawT1_t (n : Nat)  (b : Nat → Nat)  (k m : Nat)  (d0 d1 d2 d3 : Nat)  (u : Nat → Nat)  (w : Nat → Nat)  : fol CK Try.prog (SL 14 (fun vals h => match vals, h with | [x, y, z, u, v, _], [o, p, .row _ m _ _] => some (.one ⟨.exit 0, [x, y, z, u, v, I 4], [o, p, rowB m (Bs w)]⟩) | _, _ => none)) (An.l (An.c (An.c (An.d (An.d (An.c (An.c (An.a An.e)))))))) (T.evQ CK Try.prog (.loop 14 0 [1, 1, 1, 1, 1, 1, 1, 0, 1, 0] [Sl n (Bs b), .c (.ptr 0 0), .c (.ptr 1 0), .c (.os 2), I k, I 1] [.box (by4 d0 d1 d2 d3) true, .box tabC true, rowB m (Bs u)]) .done) = Sc.chk ((0 : Int) ≤ IntKind.wrap IntKind.i64 ((↑k : Int) + (1 : Int)) ∧ IntKind.wrap IntKind.i64 ((↑k : Int) + (1 : Int)) < (↑m : Int)) (Sc.chk (Int.toNat (IntKind.wrap IntKind.i64 ((↑k : Int) + (1 : Int))) < m) (Sc.chk ((0 : Int) ≤ IntKind.wrap IntKind.i64 ((↑k : Int) + (1 : Int)) ∧ IntKind.wrap IntKind.i64 ((↑k : Int) + (1 : Int)) < (↑m : Int)) (Sc.chk (Int.toNat (IntKind.wrap IntKind.i64 ((↑k : Int) + (1 : Int))) < m) (Sc.ask (Qry.loop (14 : Nat) (0 : Nat) [(1 : Nat), (1 : Nat), (1 : Nat), (1 : Nat), (1 : Nat), (1 : Nat), (1 : Nat), (0 : Nat), (1 : Nat), (0 : Nat)] [AV.c (CV.p (PV.sl n fun i => [PV.v (Value.int IntKind.u8 (↑(b i) : Int))])), AV.c (CV.ptr (0 : Nat) (0 : Nat)), AV.c (CV.ptr (1 : Nat) (0 : Nat)), AV.c (CV.os (2 : Nat)), AV.c (CV.p (PV.v (Value.int IntKind.i64 (↑k : Int)))), AV.c (CV.p (PV.v (Value.int IntKind.i64 (2 : Int))))] [Ob.box [CV.p (PV.v (Value.int IntKind.u8 (↑d0 : Int))), CV.p (PV.v (Value.int IntKind.u8 (↑d1 : Int))), CV.p (PV.v (Value.int IntKind.u8 (↑d2 : Int))), CV.p (PV.v (Value.int IntKind.u8 (↑d3 : Int)))] true, Ob.box tabC true, Ob.row (5 : Nat) m (fun j => if j = Int.toNat (IntKind.wrap IntKind.i64 ((↑k : Int) + (1 : Int))) then [PV.v (Value.int IntKind.u8 (IntKind.wrap IntKind.u8 (↑(BitVec.toNat (BitVec.ofInt (IntKind.bits IntKind.u8) (↑(u (Int.toNat (IntKind.wrap IntKind.i64 ((↑k : Int) + (1 : Int))))) : Int) ^^^ BitVec.ofInt (IntKind.bits IntKind.u8) (↑d1 : Int))) : Int)))] else [PV.v (Value.int IntKind.u8 (↑(u j) : Int))]) true]) (Ans.mk (Ex.exit (0 : Nat)) [AV.c (CV.p (PV.sl n fun i => [PV.v (Value.int IntKind.u8 (↑(b i) : Int))])), AV.c (CV.ptr (0 : Nat) (0 : Nat)), AV.c (CV.ptr (1 : Nat) (0 : Nat)), AV.c (CV.os (2 : Nat)), AV.c (CV.p (PV.v (Value.int IntKind.i64 (↑k : Int)))), AV.c (CV.p (PV.v (Value.int IntKind.i64 (4 : Int))))] [Ob.box [CV.p (PV.v (Value.int IntKind.u8 (↑d0 : Int))), CV.p (PV.v (Value.int IntKind.u8 (↑d1 : Int))), CV.p (PV.v (Value.int IntKind.u8 (↑d2 : Int))), CV.p (PV.v (Value.int IntKind.u8 (↑d3 : Int)))] true, Ob.box tabC true, Ob.row (5 : Nat) m (fun i => [PV.v (Value.int IntKind.u8 (↑(w i) : Int))]) true]) (Sc.done (Ans.mk (Ex.exit (0 : Nat)) [AV.c (CV.p (PV.sl n fun i => [PV.v (Value.int IntKind.u8 (↑(b i) : Int))])), AV.c (CV.ptr (0 : Nat) (0 : Nat)), AV.c (CV.ptr (1 : Nat) (0 : Nat)), AV.c (CV.os (2 : Nat)), AV.c (CV.p (PV.v (Value.int IntKind.i64 (↑k : Int)))), AV.c (CV.p (PV.v (Value.int IntKind.i64 (4 : Int))))] [Ob.box [CV.p (PV.v (Value.int IntKind.u8 (↑d0 : Int))), CV.p (PV.v (Value.int IntKind.u8 (↑d1 : Int))), CV.p (PV.v (Value.int IntKind.u8 (↑d2 : Int))), CV.p (PV.v (Value.int IntKind.u8 (↑d3 : Int)))] true, Ob.box tabC true, Ob.row (5 : Nat) m (fun i => [PV.v (Value.int IntKind.u8 (↑(w i) : Int))]) true])))))) := by kernel_rfl
theorem lawT2_t (n : Nat)  (b : Nat → Nat)  (k m : Nat)  (d0 d1 d2 d3 : Nat)  (u : Nat → Nat)  (w : Nat → Nat)  : fol CK Try.prog (SL 14 (fun vals h => match vals, h with | [x, y, z, u, v, _], [o, p, .row _ m _ _] => some (.one ⟨.exit 0, [x, y, z, u, v, I 4], [o, p, rowB m (Bs w)]⟩) | _, _ => none)) (An.l (An.c (An.c (An.d (An.d (An.c (An.c (An.a An.e)))))))) (T.evQ CK Try.prog (.loop 14 0 [1, 1, 1, 1, 1, 1, 1, 0, 1, 0] [Sl n (Bs b), .c (.ptr 0 0), .c (.ptr 1 0), .c (.os 2), I k, I 2] [.box (by4 d0 d1 d2 d3) true, .box tabC true, rowB m (Bs u)]) .done) = Sc.chk ((0 : Int) ≤ IntKind.wrap IntKind.i64 ((↑k : Int) + (2 : Int)) ∧ IntKind.wrap IntKind.i64 ((↑k : Int) + (2 : Int)) < (↑m : Int)) (Sc.chk (Int.toNat (IntKind.wrap IntKind.i64 ((↑k : Int) + (2 : Int))) < m) (Sc.chk ((0 : Int) ≤ IntKind.wrap IntKind.i64 ((↑k : Int) + (2 : Int)) ∧ IntKind.wrap IntKind.i64 ((↑k : Int) + (2 : Int)) < (↑m : Int)) (Sc.chk (Int.toNat (IntKind.wrap IntKind.i64 ((↑k : Int) + (2 : Int))) < m) (Sc.ask (Qry.loop (14 : Nat) (0 : Nat) [(1 : Nat), (1 : Nat), (1 : Nat), (1 : Nat), (1 : Nat), (1 : Nat), (1 : Nat), (0 : Nat), (1 : Nat), (0 : Nat)] [AV.c (CV.p (PV.sl n fun i => [PV.v (Value.int IntKind.u8 (↑(b i) : Int))])), AV.c (CV.ptr (0 : Nat) (0 : Nat)), AV.c (CV.ptr (1 : Nat) (0 : Nat)), AV.c (CV.os (2 : Nat)), AV.c (CV.p (PV.v (Value.int IntKind.i64 (↑k : Int)))), AV.c (CV.p (PV.v (Value.int IntKind.i64 (3 : Int))))] [Ob.box [CV.p (PV.v (Value.int IntKind.u8 (↑d0 : Int))), CV.p (PV.v (Value.int IntKind.u8 (↑d1 : Int))), CV.p (PV.v (Value.int IntKind.u8 (↑d2 : Int))), CV.p (PV.v (Value.int IntKind.u8 (↑d3 : Int)))] true, Ob.box tabC true, Ob.row (5 : Nat) m (fun j => if j = Int.toNat (IntKind.wrap IntKind.i64 ((↑k : Int) + (2 : Int))) then [PV.v (Value.int IntKind.u8 (IntKind.wrap IntKind.u8 (↑(BitVec.toNat (BitVec.ofInt (IntKind.bits IntKind.u8) (↑(u (Int.toNat (IntKind.wrap IntKind.i64 ((↑k : Int) + (2 : Int))))) : Int) ^^^ BitVec.ofInt (IntKind.bits IntKind.u8) (↑d2 : Int))) : Int)))] else [PV.v (Value.int IntKind.u8 (↑(u j) : Int))]) true]) (Ans.mk (Ex.exit (0 : Nat)) [AV.c (CV.p (PV.sl n fun i => [PV.v (Value.int IntKind.u8 (↑(b i) : Int))])), AV.c (CV.ptr (0 : Nat) (0 : Nat)), AV.c (CV.ptr (1 : Nat) (0 : Nat)), AV.c (CV.os (2 : Nat)), AV.c (CV.p (PV.v (Value.int IntKind.i64 (↑k : Int)))), AV.c (CV.p (PV.v (Value.int IntKind.i64 (4 : Int))))] [Ob.box [CV.p (PV.v (Value.int IntKind.u8 (↑d0 : Int))), CV.p (PV.v (Value.int IntKind.u8 (↑d1 : Int))), CV.p (PV.v (Value.int IntKind.u8 (↑d2 : Int))), CV.p (PV.v (Value.int IntKind.u8 (↑d3 : Int)))] true, Ob.box tabC true, Ob.row (5 : Nat) m (fun i => [PV.v (Value.int IntKind.u8 (↑(w i) : Int))]) true]) (Sc.done (Ans.mk (Ex.exit (0 : Nat)) [AV.c (CV.p (PV.sl n fun i => [PV.v (Value.int IntKind.u8 (↑(b i) : Int))])), AV.c (CV.ptr (0 : Nat) (0 : Nat)), AV.c (CV.ptr (1 : Nat) (0 : Nat)), AV.c (CV.os (2 : Nat)), AV.c (CV.p (PV.v (Value.int IntKind.i64 (↑k : Int)))), AV.c (CV.p (PV.v (Value.int IntKind.i64 (4 : Int))))] [Ob.box [CV.p (PV.v (Value.int IntKind.u8 (↑d0 : Int))), CV.p (PV.v (Value.int IntKind.u8 (↑d1 : Int))), CV.p (PV.v (Value.int IntKind.u8 (↑d2 : Int))), CV.p (PV.v (Value.int IntKind.u8 (↑d3 : Int)))] true, Ob.box tabC true, Ob.row (5 : Nat) m (fun i => [PV.v (Value.int IntKind.u8 (↑(w i) : Int))]) true])))))) := by kernel_rfl
theorem lawT3_t (n : Nat)  (b : Nat → Nat)  (k m : Nat)  (d0 d1 d2 d3 : Nat)  (u : Nat → Nat)  (w : Nat → Nat)  : fol CK Try.prog (SL 14 (fun vals h => match vals, h with | [x, y, z, u, v, _], [o, p, .row _ m _ _] => some (.one ⟨.exit 0, [x, y, z, u, v, I 4], [o, p, rowB m (Bs w)]⟩) | _, _ => none)) (An.l (An.c (An.c (An.d (An.d (An.c (An.c (An.a An.e)))))))) (T.evQ CK Try.prog (.loop 14 0 [1, 1, 1, 1, 1, 1, 1, 0, 1, 0] [Sl n (Bs b), .c (.ptr 0 0), .c (.ptr 1 0), .c (.os 2), I k, I 3] [.box (by4 d0 d1 d2 d3) true, .box tabC true, rowB m (Bs u)]) .done) = Sc.chk ((0 : Int) ≤ IntKind.wrap IntKind.i64 ((↑k : Int) + (3 : Int)) ∧ IntKind.wrap IntKind.i64 ((↑k : Int) + (3 : Int)) < (↑m : Int)) (Sc.chk (Int.toNat (IntKind.wrap IntKind.i64 ((↑k : Int) + (3 : Int))) < m) (Sc.chk ((0 : Int) ≤ IntKind.wrap IntKind.i64 ((↑k : Int) + (3 : Int)) ∧ IntKind.wrap IntKind.i64 ((↑k : Int) + (3 : Int)) < (↑m : Int)) (Sc.chk (Int.toNat (IntKind.wrap IntKind.i64 ((↑k : Int) + (3 : Int))) < m) (Sc.ask (Qry.loop (14 : Nat) (0 : Nat) [(1 : Nat), (1 : Nat), (1 : Nat), (1 : Nat), (1 : Nat), (1 : Nat), (1 : Nat), (0 : Nat), (1 : Nat), (0 : Nat)] [AV.c (CV.p (PV.sl n fun i => [PV.v (Value.int IntKind.u8 (↑(b i) : Int))])), AV.c (CV.ptr (0 : Nat) (0 : Nat)), AV.c (CV.ptr (1 : Nat) (0 : Nat)), AV.c (CV.os (2 : Nat)), AV.c (CV.p (PV.v (Value.int IntKind.i64 (↑k : Int)))), AV.c (CV.p (PV.v (Value.int IntKind.i64 (4 : Int))))] [Ob.box [CV.p (PV.v (Value.int IntKind.u8 (↑d0 : Int))), CV.p (PV.v (Value.int IntKind.u8 (↑d1 : Int))), CV.p (PV.v (Value.int IntKind.u8 (↑d2 : Int))), CV.p (PV.v (Value.int IntKind.u8 (↑d3 : Int)))] true, Ob.box tabC true, Ob.row (5 : Nat) m (fun j => if j = Int.toNat (IntKind.wrap IntKind.i64 ((↑k : Int) + (3 : Int))) then [PV.v (Value.int IntKind.u8 (IntKind.wrap IntKind.u8 (↑(BitVec.toNat (BitVec.ofInt (IntKind.bits IntKind.u8) (↑(u (Int.toNat (IntKind.wrap IntKind.i64 ((↑k : Int) + (3 : Int))))) : Int) ^^^ BitVec.ofInt (IntKind.bits IntKind.u8) (↑d3 : Int))) : Int)))] else [PV.v (Value.int IntKind.u8 (↑(u j) : Int))]) true]) (Ans.mk (Ex.exit (0 : Nat)) [AV.c (CV.p (PV.sl n fun i => [PV.v (Value.int IntKind.u8 (↑(b i) : Int))])), AV.c (CV.ptr (0 : Nat) (0 : Nat)), AV.c (CV.ptr (1 : Nat) (0 : Nat)), AV.c (CV.os (2 : Nat)), AV.c (CV.p (PV.v (Value.int IntKind.i64 (↑k : Int)))), AV.c (CV.p (PV.v (Value.int IntKind.i64 (4 : Int))))] [Ob.box [CV.p (PV.v (Value.int IntKind.u8 (↑d0 : Int))), CV.p (PV.v (Value.int IntKind.u8 (↑d1 : Int))), CV.p (PV.v (Value.int IntKind.u8 (↑d2 : Int))), CV.p (PV.v (Value.int IntKind.u8 (↑d3 : Int)))] true, Ob.box tabC true, Ob.row (5 : Nat) m (fun i => [PV.v (Value.int IntKind.u8 (↑(w i) : Int))]) true]) (Sc.done (Ans.mk (Ex.exit (0 : Nat)) [AV.c (CV.p (PV.sl n fun i => [PV.v (Value.int IntKind.u8 (↑(b i) : Int))])), AV.c (CV.ptr (0 : Nat) (0 : Nat)), AV.c (CV.ptr (1 : Nat) (0 : Nat)), AV.c (CV.os (2 : Nat)), AV.c (CV.p (PV.v (Value.int IntKind.i64 (↑k : Int)))), AV.c (CV.p (PV.v (Value.int IntKind.i64 (4 : Int))))] [Ob.box [CV.p (PV.v (Value.int IntKind.u8 (↑d0 : Int))), CV.p (PV.v (Value.int IntKind.u8 (↑d1 : Int))), CV.p (PV.v (Value.int IntKind.u8 (↑d2 : Int))), CV.p (PV.v (Value.int IntKind.u8 (↑d3 : Int)))] true, Ob.box tabC true, Ob.row (5 : Nat) m (fun i => [PV.v (Value.int IntKind.u8 (↑(w i) : Int))]) true])))))) := by kernel_rfl
theorem lawT4_t (n : Nat)  (b : Nat → Nat)  (k m : Nat)  (d0 d1 d2 d3 : Nat)  (u : Nat → Nat)  (w : Nat → Nat)  : fol CK Try.prog (SL 14 (fun vals h => match vals, h with | [x, y, z, u, v, _], [o, p, .row _ m _ _] => some (.one ⟨.exit 0, [x, y, z, u, v, I 4], [o, p, rowB m (Bs w)]⟩) | _, _ => none)) (An.l An.e) (T.evQ CK Try.prog (.loop 14 0 [1, 1, 1, 1, 1, 1, 1, 0, 1, 0] [Sl n (Bs b), .c (.ptr 0 0), .c (.ptr 1 0), .c (.os 2), I k, I 4] [.box (by4 d0 d1 d2 d3) true, .box tabC true, rowB m (Bs u)]) .done) = Sc.done (Ans.mk (Ex.exit (0 : Nat)) [AV.c (CV.p (PV.sl n fun i => [PV.v (Value.int IntKind.u8 (↑(b i) : Int))])), AV.c (CV.ptr (0 : Nat) (0 : Nat)), AV.c (CV.ptr (1 : Nat) (0 : Nat)), AV.c (CV.os (2 : Nat)), AV.c (CV.p (PV.v (Value.int IntKind.i64 (↑k : Int)))), AV.c (CV.p (PV.v (Value.int IntKind.i64 (4 : Int))))] [Ob.box [CV.p (PV.v (Value.int IntKind.u8 (↑d0 : Int))), CV.p (PV.v (Value.int IntKind.u8 (↑d1 : Int))), CV.p (PV.v (Value.int IntKind.u8 (↑d2 : Int))), CV.p (PV.v (Value.int IntKind.u8 (↑d3 : Int)))] true, Ob.box tabC true, Ob.row (5 : Nat) m (fun i => [PV.v (Value.int IntKind.u8 (↑(u i) : Int))]) true]) := by kernel_rfl
theorem law14_t (n : Nat)  (b : Nat → Nat)  (c d0 d1 d2 d3 : Nat)  (w : Nat → Nat)  (k : Nat)  : fol CK Try.prog (lawL 14 (fun vals h => match vals, h with | [x, y, z, u, v, _], [o, p, .row _ m _ _] => some (.one ⟨.exit 0, [x, y, z, u, v, I 4], [o, p, rowB m (Bs w)]⟩) | _, _ => none) (lawS 41)) (An.a (An.l (An.b An.e (An.a (An.d (An.d (An.a (An.b An.e (An.c (An.a (An.d (An.a (An.l (An.b (An.d (An.b (An.l (An.l (An.c (An.l (An.l (An.c (An.l (An.l An.e)))))))) (An.l (An.l (An.l (An.l An.e)))))) (An.d (An.b (An.l (An.l (An.l (An.l (An.l (An.l An.e)))))) (An.l (An.l (An.l (An.l An.e)))))))))))))))))))) (T.evQ CK Try.prog (.call 14 [Sl n (Bs b), U16 c, By4 d0 d1 d2 d3] []) .done) = Sc.ask (Qry.call (41 : Nat) [] []) (Ans.mk Ex.ret [AV.c (CV.p (PV.v (Value.bool true)))] []) (Sc.br (decide ((↑n : Int) > (3000 : Int))) (Sc.done (Ans.mk Ex.ret [AV.c (CV.p (PV.v (Value.bool true)))] [])) (Sc.ask (Qry.call (46 : Nat) [] []) (Ans.mk Ex.ret [AV.agg tabC] []) (Sc.ask (Qry.call (44 : Nat) [AV.agg tabC, AV.c (CV.p (PV.sl n fun i => [PV.v (Value.int IntKind.u8 (↑(b i) : Int))]))] []) (Ans.mk Ex.ret [AV.c (CV.os (0 : Nat))] [Ob.row (5 : Nat) (n + (4 : Nat)) (fun i => if i < n then [PV.v (Value.int IntKind.u8 (↑(b i) : Int))] else fourF (sealN (tbN (tbC stp8)) n (Bs b)) (i - n)) true]) (Sc.br ((↑(n + (4 : Nat)) : Int) != IntKind.wrap IntKind.i64 ((↑n : Int) + (4 : Int))) (Sc.done (Ans.mk Ex.ret [AV.c (CV.p (PV.v (Value.bool false)))] [])) (Sc.chk (IntKind.wrap IntKind.i64 ((↑(n + (4 : Nat)) : Int) - (3 : Int)) ≠ (0 : Int)) (Sc.ask (Qry.loop (14 : Nat) (0 : Nat) [(1 : Nat), (1 : Nat), (1 : Nat), (1 : Nat), (1 : Nat), (1 : Nat), (1 : Nat), (0 : Nat), (1 : Nat), (0 : Nat)] [AV.c (CV.p (PV.sl n fun i => [PV.v (Value.int IntKind.u8 (↑(b i) : Int))])), AV.c (CV.ptr (0 : Nat) (0 : Nat)), AV.c (CV.ptr (1 : Nat) (0 : Nat)), AV.c (CV.os (2 : Nat)), AV.c (CV.p (PV.v (Value.int IntKind.i64 (Int.tmod (IntKind.wrap IntKind.i64 (↑c : Int)) (IntKind.wrap IntKind.i64 ((↑(n + (4 : Nat)) : Int) - (3 : Int))))))), AV.c (CV.p (PV.v (Value.int IntKind.i64 (0 : Int))))] [Ob.box [CV.p (PV.v (Value.int IntKind.u8 (↑d0 : Int))), CV.p (PV.v (Value.int IntKind.u8 (↑d1 : Int))), CV.p (PV.v (Value.int IntKind.u8 (↑d2 : Int))), CV.p (PV.v (Value.int IntKind.u8 (↑d3 : Int)))] true, Ob.box tabC true, Ob.row (5 : Nat) (n + (4 : Nat)) (fun i => if i < n then [PV.v (Value.int IntKind.u8 (↑(b i) : Int))] else fourF (sealN (tbN (tbC stp8)) n (Bs b)) (i - n)) true]) (Ans.mk (Ex.exit (0 : Nat)) [AV.c (CV.p (PV.sl n fun i => [PV.v (Value.int IntKind.u8 (↑(b i) : Int))])), AV.c (CV.ptr (0 : Nat) (0 : Nat)), AV.c (CV.ptr (1 : Nat) (0 : Nat)), AV.c (CV.os (2 : Nat)), AV.c (CV.p (PV.v (Value.int IntKind.i64 (Int.tmod (IntKind.wrap IntKind.i64 (↑c : Int)) (IntKind.wrap IntKind.i64 ((↑(n + (4 : Nat)) : Int) - (3 : Int))))))), AV.c (CV.p (PV.v (Value.int IntKind.i64 (4 : Int))))] [Ob.box [CV.p (PV.v (Value.int IntKind.u8 (↑d0 : Int))), CV.p (PV.v (Value.int IntKind.u8 (↑d1 : Int))), CV.p (PV.v (Value.int IntKind.u8 (↑d2 : Int))), CV.p (PV.v (Value.int IntKind.u8 (↑d3 : Int)))] true, Ob.box tabC true, Ob.row (5 : Nat) (n + (4 : Nat)) (fun i => [PV.v (Value.int IntKind.u8 (↑(w i) : Int))]) true]) (Sc.ask (Qry.call (48 : Nat) [AV.agg tabC, AV.c (CV.p (PV.sl (n + (4 : Nat)) fun i => [PV.v (Value.int IntKind.u8 (↑(w i) : Int))]))] []) (bif same (4 : Nat) (4 : Nat) (fourF (sealN (tbN (tbC stp8)) (n + (4 : Nat) - (4 : Nat)) (Bs w))) fun i => Bs w (i + (n + (4 : Nat) - (4 : Nat))) then Ans.mk Ex.ret [AV.tup [AV.c (CV.p (PV.sl (n + (4 : Nat) - (4 : Nat)) fun i => [PV.v (Value.int IntKind.u8 (↑(w i) : Int))])), AV.c (CV.p (PV.v (Value.int IntKind.i64 (0 : Int))))]] [] else Ans.mk Ex.ret [AV.tup [AV.c (CV.p (PV.sl (0 : Nat) fun x => [])), AV.c (CV.p (PV.v (Value.int IntKind.i64 (12 : Int))))]] []) (Sc.br (same (4 : Nat) (4 : Nat) (fourF (sealN (tbN (tbC stp8)) (n + (4 : Nat) - (4 : Nat)) (Bs w))) fun i => Bs w (i + (n + (4 : Nat) - (4 : Nat)))) (Sc.br ((↑d0 : Int) == (0 : Int) && ((↑d1 : Int) == (0 : Int) && ((↑d2 : Int) == (0 : Int) && ((↑d3 : Int) == (0 : Int) && true)))) (Sc.chk (bytesOk (n + (4 : Nat) - (4 : Nat)) (Bs w) = true) (Sc.chk (bytesOk n (Bs b) = true) (Sc.done (Ans.mk Ex.ret [AV.c (CV.p (PV.v (Value.bool (ByteArray.toList (textOf (n + (4 : Nat) - (4 : Nat)) (Bs w)) == ByteArray.toList (textOf n (Bs b))))))] [])))) (Sc.done (Ans.mk Ex.ret [AV.c (CV.p (PV.v (Value.bool false)))] []))) (Sc.br ((↑d0 : Int) == (0 : Int) && ((↑d1 : Int) == (0 : Int) && ((↑d2 : Int) == (0 : Int) && ((↑d3 : Int) == (0 : Int) && true)))) (Sc.done (Ans.mk Ex.ret [AV.c (CV.p (PV.v (Value.bool false)))] [])) (Sc.done (Ans.mk Ex.ret [AV.c (CV.p (PV.v (Value.bool true)))] []))))))))))) := by kernel_rfl

theorem byteX {s x : Nat} (hs : s < 256) (hx : x < 256) : IntKind.wrap .u8 (BitVec.toNat (BitVec.ofInt (IntKind.bits .u8) (s : Int) ^^^ BitVec.ofInt (IntKind.bits .u8) (x : Int)) : Int) = ((Nat.xor s x : Nat) : Int) := by
  have h := byteXor (s := s) hx
  rw [Nat.mod_eq_of_lt hs] at h
  exact h
abbrev bq (n : Nat) (b : Nat → Nat) (k m d0 d1 d2 d3 i : Nat) (u : Nat → Nat) : Qry := .loop 14 0 [1, 1, 1, 1, 1, 1, 1, 0, 1, 0] [Sl n (Bs b), .c (.ptr 0 0), .c (.ptr 1 0), .c (.os 2), I k, I i] [.box (by4 d0 d1 d2 d3) true, .box tabC true, rowB m (Bs u)]
abbrev ba (n : Nat) (b : Nat → Nat) (k m d0 d1 d2 d3 : Nat) (w : Nat → Nat) : Ans := ⟨.exit 0, [Sl n (Bs b), .c (.ptr 0 0), .c (.ptr 1 0), .c (.os 2), I k, I 4], [.box (by4 d0 d1 d2 d3) true, .box tabC true, rowB m (Bs w)]⟩
def xr (u : Nat → Nat) (k i d : Nat) : Nat → Nat := fun j => if j = k + i then Nat.xor (u j) d else u j
theorem xr_lt {u : Nat → Nat} (hu : ∀ i, u i < 256) {k i d : Nat} (hd : d < 256) (j : Nat) : xr u k i d j < 256 := by
  unfold xr; split
  · exact x8 (hu j) hd
  · exact hu j
theorem xrow {u : Nat → Nat} (hu : ∀ i, u i < 256) {k i d m : Nat} (hd : d < 256) {cs ds : List CV} : HLe [.box cs true, .box ds true, rowB m (fun j => if j = k + i then [PV.v (Value.int IntKind.u8 (IntKind.wrap IntKind.u8 (↑(BitVec.toNat (BitVec.ofInt (IntKind.bits IntKind.u8) (↑(u (k + i)) : Int) ^^^ BitVec.ofInt (IntKind.bits IntKind.u8) (↑d : Int))) : Int)))] else [PV.v (Value.int IntKind.u8 (↑(u j) : Int))])] [.box cs true, .box ds true, rowB m (Bs (xr u k i d))] := by
  refine .cons (.refl _) (.cons (.refl _) (.cons (.row rfl fun j hj => ?_) .nil))
  show _ = [_]
  unfold xr
  by_cases h : j = k + i
  · subst h
    simp only [if_pos rfl, byteX (hu (k + i)) hd]
    rfl
  · simp only [if_neg h]
theorem b4 (n : Nat) (b : Nat → Nat) (k m d0 d1 d2 d3 : Nat) (w : Nat → Nat) : QOk Try.prog CK (bq n b k m d0 d1 d2 d3 4 w) (ba n b k m d0 d1 d2 d3 w) := tree_i hP (lawT4_t n b k m d0 d1 d2 d3 w w) rfl
theorem b3 {n : Nat} {b : Nat → Nat} {k m d0 d1 d2 d3 : Nat} {u w : Nat → Nat} (hu : ∀ i, u i < 256) (hd : d3 < 256) (hk : k + 4 ≤ m) (hm : big m) (q : QOk Try.prog CK (bq n b k m d0 d1 d2 d3 4 (xr u k 3 d3)) (ba n b k m d0 d1 d2 d3 w)) : QOk Try.prog CK (bq n b k m d0 d1 d2 d3 3 u) (ba n b k m d0 d1 d2 d3 w) := by
  refine tree_i hP (lawT3_t n b k m d0 d1 d2 d3 u w) ?_
  have hw : IntKind.wrap .i64 ((k : Int) + 3) = ((k + 3 : Nat) : Int) := by unfold big at hm; rw [w64 (by omega)]; omega
  simp only [Sc.Ok, hw, Int.toNat_natCast]
  exact ⟨by omega, by omega, by omega, by omega, QOk.lp q (ALes.refl _) (xrow hu hd), trivial⟩
theorem b2 {n : Nat} {b : Nat → Nat} {k m d0 d1 d2 d3 : Nat} {u w : Nat → Nat} (hu : ∀ i, u i < 256) (hd : d2 < 256) (hk : k + 4 ≤ m) (hm : big m) (q : QOk Try.prog CK (bq n b k m d0 d1 d2 d3 3 (xr u k 2 d2)) (ba n b k m d0 d1 d2 d3 w)) : QOk Try.prog CK (bq n b k m d0 d1 d2 d3 2 u) (ba n b k m d0 d1 d2 d3 w) := by
  refine tree_i hP (lawT2_t n b k m d0 d1 d2 d3 u w) ?_
  have hw : IntKind.wrap .i64 ((k : Int) + 2) = ((k + 2 : Nat) : Int) := by unfold big at hm; rw [w64 (by omega)]; omega
  simp only [Sc.Ok, hw, Int.toNat_natCast]
  exact ⟨by omega, by omega, by omega, by omega, QOk.lp q (ALes.refl _) (xrow hu hd), trivial⟩
theorem b1 {n : Nat} {b : Nat → Nat} {k m d0 d1 d2 d3 : Nat} {u w : Nat → Nat} (hu : ∀ i, u i < 256) (hd : d1 < 256) (hk : k + 4 ≤ m) (hm : big m) (q : QOk Try.prog CK (bq n b k m d0 d1 d2 d3 2 (xr u k 1 d1)) (ba n b k m d0 d1 d2 d3 w)) : QOk Try.prog CK (bq n b k m d0 d1 d2 d3 1 u) (ba n b k m d0 d1 d2 d3 w) := by
  refine tree_i hP (lawT1_t n b k m d0 d1 d2 d3 u w) ?_
  have hw : IntKind.wrap .i64 ((k : Int) + 1) = ((k + 1 : Nat) : Int) := by unfold big at hm; rw [w64 (by omega)]; omega
  simp only [Sc.Ok, hw, Int.toNat_natCast]
  exact ⟨by omega, by omega, by omega, by omega, QOk.lp q (ALes.refl _) (xrow hu hd), trivial⟩
theorem b0 {n : Nat} {b : Nat → Nat} {k m d0 d1 d2 d3 : Nat} {u w : Nat → Nat} (hu : ∀ i, u i < 256) (hd : d0 < 256) (hk : k + 4 ≤ m) (hm : big m) (q : QOk Try.prog CK (bq n b k m d0 d1 d2 d3 1 (xr u k 0 d0)) (ba n b k m d0 d1 d2 d3 w)) : QOk Try.prog CK (bq n b k m d0 d1 d2 d3 0 u) (ba n b k m d0 d1 d2 d3 w) := by
  refine tree_i hP (lawT0_t n b k m d0 d1 d2 d3 u w) ?_
  have hw : IntKind.wrap .i64 ((k : Int) + 0) = ((k + 0 : Nat) : Int) := by unfold big at hm; rw [w64 (by omega)]; omega
  simp only [Sc.Ok, hw, Int.toNat_natCast]
  exact ⟨by omega, by omega, by omega, by omega, QOk.lp q (ALes.refl _) (xrow hu hd), trivial⟩
theorem xor_self_iff {a d : Nat} : a = Nat.xor a d ↔ d = 0 := by
  rw [xorN]
  constructor
  · intro h
    have e : a ^^^ 0 = a ^^^ d := by rw [Nat.xor_zero]; exact h
    exact (xor_cancel e).symm
  · rintro rfl; rw [Nat.xor_zero]
theorem law14 {n c d0 d1 d2 d3 : Nat} {b : Nat → Nat} (hb : ∀ i, b i < 256) (hc : c < 65536) (h0 : d0 < 256) (h1 : d1 < 256) (h2 : d2 < 256) (h3 : d3 < 256) : CallIn Try.prog 14 [Sl n (Bs b), U16 c, By4 d0 d1 d2 d3] [] ⟨.ret, [B true], []⟩ := by
  by_cases hn : n ≤ 3000
  · have hg : big n := by unfold big; omega
    have hB : BOk n (Bs b) := BOk.bs n (fun i _ => hb i)
    have hcat := hB.cat (four_ok (sealN (tbN (tbC stp8)) n (Bs b)))
    have e0 : byN (Bs b) = b := funext fun i => byN_Bs _ _ (hb i)
    have eS : sealN (tbN (tbC stp8)) n (Bs b) = plainN n b := by rw [← e0]; exact (sumP (byN_lt _)).trans (by rw [e0, e0])
    obtain ⟨u, hu⟩ : ∃ u, u = byN (catF n (Bs b) (fourF (sealN (tbN (tbC stp8)) n (Bs b)))) := ⟨_, rfl⟩
    have hul : ∀ i, u i < 256 := fun i => by rw [hu]; exact byN_lt _ _
    obtain ⟨k, hk⟩ : ∃ k, k = c % (n + 1) := ⟨_, rfl⟩
    have hkn : k ≤ n := by have := Nat.mod_lt c (show 0 < n + 1 by omega); omega
    have l1 : ∀ i, xr u k 0 d0 i < 256 := xr_lt hul h0
    have l2 : ∀ i, xr (xr u k 0 d0) k 1 d1 i < 256 := xr_lt l1 h1
    have l3 : ∀ i, xr (xr (xr u k 0 d0) k 1 d1) k 2 d2 i < 256 := xr_lt l2 h2
    obtain ⟨w, hw⟩ : ∃ w, w = xr (xr (xr (xr u k 0 d0) k 1 d1) k 2 d2) k 3 d3 := ⟨_, rfl⟩
    have hwl : ∀ i, w i < 256 := fun i => by rw [hw]; exact xr_lt l3 h3 i
    have wout : ∀ i, (i < k ∨ k + 4 ≤ i) → u i = w i := fun i hi => by
      rw [hw]; unfold xr
      rw [if_neg (by omega), if_neg (by omega), if_neg (by omega), if_neg (by omega)]
    have w0 : w (k + 0) = Nat.xor (u (k + 0)) d0 := by
      rw [hw]; unfold xr
      rw [if_neg (by omega), if_neg (by omega), if_neg (by omega), if_pos rfl]
    have w1 : w (k + 1) = Nat.xor (u (k + 1)) d1 := by
      rw [hw]; unfold xr
      rw [if_neg (by omega), if_neg (by omega), if_pos rfl, if_neg (by omega)]
    have w2 : w (k + 2) = Nat.xor (u (k + 2)) d2 := by
      rw [hw]; unfold xr
      rw [if_neg (by omega), if_pos rfl, if_neg (by omega), if_neg (by omega)]
    have w3 : w (k + 3) = Nat.xor (u (k + 3)) d3 := by
      rw [hw]; unfold xr
      rw [if_pos rfl, if_neg (by omega), if_neg (by omega), if_neg (by omega)]
    have all0 : (∀ i, i < 4 → u (k + i) = w (k + i)) ↔ (d0 = 0 ∧ d1 = 0 ∧ d2 = 0 ∧ d3 = 0) := by
      constructor
      · intro h
        exact ⟨xor_self_iff.1 ((h 0 (by omega)).trans w0), xor_self_iff.1 ((h 1 (by omega)).trans w1), xor_self_iff.1 ((h 2 (by omega)).trans w2), xor_self_iff.1 ((h 3 (by omega)).trans w3)⟩
      · rintro ⟨e0, e1, e2, e3⟩ i hi
        match i, hi with
        | 0, _ => rw [w0]; exact xor_self_iff.2 e0
        | 1, _ => rw [w1]; exact xor_self_iff.2 e1
        | 2, _ => rw [w2]; exact xor_self_iff.2 e2
        | 3, _ => rw [w3]; exact xor_self_iff.2 e3
    have un : ∀ i, i < n → u i = b i := fun i hi => by rw [hu, byN_cat, if_pos hi, byN_Bs _ _ (hb i)]
    have pn : plainN n u = plainN n b := by
      unfold plainN
      rw [prun_congr n 0 _ (c := b) (fun j _ hj => un j (by omega))]
    have useal : prun u (n + 4) 0 4294967295 = G := by
      refine (sealed_iff n hul (g := fun i => Bs u (i + n)) (fun i hi => byN_Bs (fun i => u (i + n)) i (hul _))).1 ?_
      unfold same
      rw [decide_eq_true_iff]
      refine ⟨rfl, fun i hi => ?_⟩
      rw [pn, show byN (fun i => Bs u (i + n)) i = u (i + n) from byN_Bs (fun i => u (i + n)) i (hul _), hu, byN_cat, if_neg (by omega), show i + n - n = i by omega, eS]
    have hsame : same 4 4 (fourF (sealN (tbN (tbC stp8)) n (Bs w))) (fun i => Bs w (i + n)) = true ↔ (d0 = 0 ∧ d1 = 0 ∧ d2 = 0 ∧ d3 = 0) := by
      have ew : byN (Bs w) = w := funext fun i => byN_Bs _ _ (hwl i)
      have eW : sealN (tbN (tbC stp8)) n (Bs w) = plainN n w := by
        show sumN (tbN (tbC stp8)) 0 n (byN (Bs w)) = _
        rw [ew]; exact sumP hwl
      rw [eW, sealed_iff n hwl (fun i hi => byN_Bs (fun i => w (i + n)) i (hwl _)), ← useal, burst_iff (by omega) hul hwl wout, all0]
    refine treeIn_i hP (law14_t n b c d0 d1 d2 d3 w k) ?_
    have e4 : n + 4 - 4 = n := by omega
    have hw1 : IntKind.wrap .i64 ((n : Int) + 4) = ((n + 4 : Nat) : Int) := by rw [w64 (by omega)]; omega
    have hw2 : IntKind.wrap .i64 (((n + 4 : Nat) : Int) - 3) = ((n + 1 : Nat) : Int) := by rw [w64 (by omega)]; omega
    have hw3 : IntKind.wrap .i64 (c : Int) = (c : Int) := w64 (by omega)
    have hB' : BOk n (Bs w) := BOk.bs n (fun i _ => hwl i)
    have hq := b0 (n := n) (b := b) (d1 := d1) (d2 := d2) (d3 := d3) hul h0 (show k + 4 ≤ n + 4 by omega) (show big (n + 4) by unfold big; omega) (b1 l1 h1 (by omega) (by unfold big; omega) (b2 l2 h2 (by omega) (by unfold big; omega) (b3 l3 h3 (by omega) (by unfold big; omega) (b4 n b k (n + 4) d0 d1 d2 d3 _))))
    rw [← hw] at hq
    have ho := pOpen (n := n + 4) (f := Bs w) (BOk.bs _ (fun i _ => hwl i)) (by unfold big; omega)
    unfold openS at ho
    rw [e4, show decide (n + 4 < 4) = false by simp] at ho
    have hz : ((d0 : Int) == 0 && ((d1 : Int) == 0 && ((d2 : Int) == 0 && ((d3 : Int) == 0 && true)))) = true ↔ (d0 = 0 ∧ d1 = 0 ∧ d2 = 0 ∧ d3 = 0) := by
      simp
    simp only [Sc.Ok, e4, hw1, hw2, hw3, tmodN, ← hk]
    refine ⟨c41, fun _ => trivial, fun _ => ⟨cTable, pSeal hB hg, fun h => ?_, fun _ => ⟨by omega, ?_, ho, fun h => ⟨fun hd => ⟨hB'.ok, hB.ok, ar (congrArg B ?_)⟩, fun hd => ?_⟩, fun h => ⟨fun hd => ?_, fun hd => trivial⟩⟩⟩⟩
    · simp at h
    · refine QOk.lp hq (ALes.refl _) (.cons (.refl _) (.cons (.refl _) (.cons (.row rfl fun i hi => ?_) .nil)))
      rw [hu]; exact hcat i hi
    · have hall := hz.1 hd
      rw [toList_text hB' hB, decide_eq_true_iff]
      refine ⟨rfl, fun i hi => ?_⟩
      rw [byN_Bs _ _ (hwl i), byN_Bs _ _ (hb i), ← un i hi]
      by_cases h4 : i < k ∨ k + 4 ≤ i
      · exact (wout i h4).symm
      · have := (all0.2 hall) (i - k) (by omega)
        rw [show k + (i - k) = i by omega] at this
        exact this.symm
    · have := hz.2 (hsame.1 h)
      rw [this] at hd; simp at hd
    · have := hsame.2 (hz.1 hd)
      rw [this] at h; simp at h
  · refine treeIn_i hP (law14_t n b c d0 d1 d2 d3 b 0) ?_
    simp only [Sc.Ok]
    refine ⟨c41, fun _ => trivial, fun h => ?_⟩
    simp at h; omega
end Crc
end Go.Fx
