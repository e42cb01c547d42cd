/- Sums of bytes: what the functions of crc answer. -/
import Derived.Test.YtokdkmlpfkeeaaaCrcS
set_option maxRecDepth 100000
set_option maxHeartbeats 4000000
set_option linter.unusedVariables false
set_option linter.unusedSimpArgs false
namespace Go.Fx
open Go.Proofs
namespace Crc
attribute [local irreducible] QOk
theorem clone0_t (l : Nat → Nat)  : fol CK Try.prog S0 (An.l (An.g (An.l An.e) (An.l (An.d An.e)))) (T.evQ CK Try.prog (.call 76 [Sl 0 (Bs l)] []) .done) = Sc.both (Sc.done (Ans.mk Ex.ret [AV.c CV.nils] [])) (Sc.done (Ans.mk Ex.ret [AV.c (CV.os (0 : Nat))] [Ob.row (5 : Nat) (0 : Nat) (fun i => [PV.v (Value.int IntKind.u8 (↑(l (i - (0 : Nat))) : Int))]) true])) := by kernel_rfl
theorem clone1_t (n : Nat)  (l : Nat → Nat)  : fol CK Try.prog S0 (An.l (An.l (An.c An.e))) (T.evQ CK Try.prog (.call 76 [Sl (n + 1) (Bs l)] []) .done) = Sc.chk (((0 : Nat) + (n + (1 : Nat))) * (1 : Nat) ≤ (140737488355328 : Nat) ∧ (0 : Nat) + (n + (1 : Nat)) ≤ (9223372036854775807 : Nat)) (Sc.done (Ans.mk Ex.ret [AV.c (CV.os (0 : Nat))] [Ob.row (5 : Nat) ((0 : Nat) + (n + (1 : Nat))) (fun i => [PV.v (Value.int IntKind.u8 (↑(l (i - (0 : Nat))) : Int))]) true])) := by kernel_rfl
theorem fourT_t (n : Nat)  : fol CK Try.prog S0 (An.d (An.d (An.d An.e))) (T.evQ CK Try.prog (.call 84 [U32 n] []) .done) = Sc.done (Ans.mk Ex.ret [AV.c (CV.os (0 : Nat))] [Ob.row (5 : Nat) (4 : Nat) (fun i => List.getD [[PV.v (Value.int IntKind.u8 (IntKind.wrap IntKind.u8 (↑n : Int)))], [PV.v (Value.int IntKind.u8 (IntKind.wrap IntKind.u8 (Int.fdiv (↑n : Int) (256 : Int))))], [PV.v (Value.int IntKind.u8 (IntKind.wrap IntKind.u8 (Int.fdiv (↑n : Int) (65536 : Int))))], [PV.v (Value.int IntKind.u8 (IntKind.wrap IntKind.u8 (Int.fdiv (↑n : Int) (16777216 : Int))))]] i []) true]) := by kernel_rfl
theorem sumT_t (t : Nat → Nat)  (s n : Nat)  (b : Nat → Nat)  (r : Nat)  : fol CK Try.prog (SL 85 fun vals h => match vals with | [_, p, q, u, _] => some (.one ⟨.exit 0, [U32 r, p, q, u, u], h⟩) | _ => none) (An.a An.e) (T.evQ CK Try.prog (.call 85 [Tb t, U32 s, Sl n (Bs b)] []) .done) = Sc.ask (Qry.loop (85 : Nat) (0 : Nat) [(1 : Nat), (1 : Nat), (0 : Nat), (1 : Nat), (0 : Nat)] [AV.c (CV.p (PV.v (Value.int IntKind.u32 (IntKind.wrap IntKind.u32 (↑(BitVec.toNat (BitVec.ofInt (IntKind.bits IntKind.u32) (if IntKind.signed IntKind.u32 = true then (-1 : Int) else IntKind.max IntKind.u32) ^^^ BitVec.ofInt (IntKind.bits IntKind.u32) (↑s : Int))) : Int))))), AV.c (CV.ptr (0 : Nat) (0 : Nat)), AV.c (CV.p (PV.sl n fun i => [PV.v (Value.int IntKind.u8 (↑(b i) : Int))])), AV.c (CV.p (PV.v (Value.int IntKind.i64 (↑n : Int)))), AV.c (CV.p (PV.v (Value.int IntKind.i64 (0 : Int))))] [Ob.box (tbC t) true]) (Ans.mk (Ex.exit (0 : Nat)) [AV.c (CV.p (PV.v (Value.int IntKind.u32 (↑r : Int)))), AV.c (CV.ptr (0 : Nat) (0 : Nat)), AV.c (CV.p (PV.sl n fun i => [PV.v (Value.int IntKind.u8 (↑(b i) : Int))])), AV.c (CV.p (PV.v (Value.int IntKind.i64 (↑n : Int)))), AV.c (CV.p (PV.v (Value.int IntKind.i64 (↑n : Int))))] [Ob.box (tbC t) true]) (Sc.done (Ans.mk Ex.ret [AV.c (CV.p (PV.v (Value.int IntKind.u32 (IntKind.wrap IntKind.u32 (↑(BitVec.toNat (BitVec.ofInt (IntKind.bits IntKind.u32) (if IntKind.signed IntKind.u32 = true then (-1 : Int) else IntKind.max IntKind.u32) ^^^ BitVec.ofInt (IntKind.bits IntKind.u32) (↑r : Int))) : Int)))))] [])) := by kernel_rfl
theorem sumR_t (t : Nat → Nat)  (s n : Nat)  (b : Nat → Nat)  (i : Nat)  (r : Nat)  : fol CK Try.prog (SL 85 fun vals h => match vals with | [_, p, q, u, _] => some (.one ⟨.exit 0, [U32 r, p, q, u, u], h⟩) | _ => none) (An.b (An.c (An.d (An.c (An.c (An.a An.e))))) An.e) (T.evQ CK Try.prog (.loop 85 0 [1, 1, 0, 1, 0] [U32 s, .c (.ptr 0 0), Sl n (Bs b), I n, I i] [.box (tbC t) true]) .done) = Sc.br (decide ((↑i : Int) < (↑n : Int))) (Sc.chk ((0 : Int) ≤ (↑i : Int) ∧ (↑i : Int) < (↑n : Int)) (Sc.chk ((0 : Int) ≤ IntKind.wrap IntKind.u8 (↑(BitVec.toNat (BitVec.ofInt (IntKind.bits IntKind.u8) (IntKind.wrap IntKind.u8 (↑s : Int)) ^^^ BitVec.ofInt (IntKind.bits IntKind.u8) (↑(b (Int.toNat (↑i : Int))) : Int))) : Int) ∧ IntKind.wrap IntKind.u8 (↑(BitVec.toNat (BitVec.ofInt (IntKind.bits IntKind.u8) (IntKind.wrap IntKind.u8 (↑s : Int)) ^^^ BitVec.ofInt (IntKind.bits IntKind.u8) (↑(b (Int.toNat (↑i : Int))) : Int))) : Int) < (256 : Int)) (Sc.chk ((0 : Nat) + Int.toNat (IntKind.wrap IntKind.u8 (↑(BitVec.toNat (BitVec.ofInt (IntKind.bits IntKind.u8) (IntKind.wrap IntKind.u8 (↑s : Int)) ^^^ BitVec.ofInt (IntKind.bits IntKind.u8) (↑(b (Int.toNat (↑i : Int))) : Int))) : Int)) * (1 : Nat) < (256 : Nat)) (Sc.ask (Qry.loop (85 : Nat) (0 : Nat) [(1 : Nat), (1 : Nat), (0 : Nat), (1 : Nat), (0 : Nat)] [AV.c (CV.p (PV.v (Value.int IntKind.u32 (IntKind.wrap IntKind.u32 (↑(BitVec.toNat (BitVec.ofInt (IntKind.bits IntKind.u32) (Int.fdiv (↑s : Int) ((2 : Int) ^ min (Int.toNat (8 : Int)) (IntKind.bits IntKind.u32))) ^^^ BitVec.ofInt (IntKind.bits IntKind.u32) (List.getD (tbI t) ((0 : Nat) + Int.toNat (IntKind.wrap IntKind.u8 (↑(BitVec.toNat (BitVec.ofInt (IntKind.bits IntKind.u8) (IntKind.wrap IntKind.u8 (↑s : Int)) ^^^ BitVec.ofInt (IntKind.bits IntKind.u8) (↑(b (Int.toNat (↑i : Int))) : Int))) : Int)) * TypeInfo.size (Tables.types (Program.toTables Try.prog))[(111 : Nat)]) (0 : Int)))) : Int))))), AV.c (CV.ptr (0 : Nat) (0 : Nat)), AV.c (CV.p (PV.sl n fun i => [PV.v (Value.int IntKind.u8 (↑(b i) : Int))])), AV.c (CV.p (PV.v (Value.int IntKind.i64 (↑n : Int)))), AV.c (CV.p (PV.v (Value.int IntKind.i64 (IntKind.wrap IntKind.i64 ((↑i : Int) + (1 : Int))))))] [Ob.box (tbC t) true]) (Ans.mk (Ex.exit (0 : Nat)) [AV.c (CV.p (PV.v (Value.int IntKind.u32 (↑r : Int)))), AV.c (CV.ptr (0 : Nat) (0 : Nat)), AV.c (CV.p (PV.sl n fun i => [PV.v (Value.int IntKind.u8 (↑(b i) : Int))])), AV.c (CV.p (PV.v (Value.int IntKind.i64 (↑n : Int)))), AV.c (CV.p (PV.v (Value.int IntKind.i64 (↑n : Int))))] [Ob.box (tbC t) true]) (Sc.done (Ans.mk (Ex.exit (0 : Nat)) [AV.c (CV.p (PV.v (Value.int IntKind.u32 (↑r : Int)))), AV.c (CV.ptr (0 : Nat) (0 : Nat)), AV.c (CV.p (PV.sl n fun i => [PV.v (Value.int IntKind.u8 (↑(b i) : Int))])), AV.c (CV.p (PV.v (Value.int IntKind.i64 (↑n : Int)))), AV.c (CV.p (PV.v (Value.int IntKind.i64 (↑n : Int))))] [Ob.box (tbC t) true])))))) (Sc.done (Ans.mk (Ex.exit (0 : Nat)) [AV.c (CV.p (PV.v (Value.int IntKind.u32 (↑s : Int)))), AV.c (CV.ptr (0 : Nat) (0 : Nat)), AV.c (CV.p (PV.sl n fun i => [PV.v (Value.int IntKind.u8 (↑(b i) : Int))])), AV.c (CV.p (PV.v (Value.int IntKind.i64 (↑n : Int)))), AV.c (CV.p (PV.v (Value.int IntKind.i64 (↑i : Int))))] [Ob.box (tbC t) true])) := by kernel_rfl
theorem equalTr_t (n m : Nat)  (b c : Nat → Nat)  (j : Nat)  : fol CK Try.prog (SL 88 fun vals h => match vals with | [x, y, _, z, _] => some (.one ⟨.ret, [x, y, B false, z, I j], h⟩) | _ => none) (An.b An.e (An.a An.e)) (T.evQ CK Try.prog (.call 88 [Sl n (Bs b), Sl m (Bs c)] []) .done) = Sc.br ((↑n : Int) != (↑m : Int)) (Sc.done (Ans.mk Ex.ret [AV.c (CV.p (PV.v (Value.bool false)))] [])) (Sc.ask (Qry.loop (88 : Nat) (0 : Nat) [(1 : Nat), (1 : Nat), (0 : Nat), (1 : Nat), (0 : Nat)] [AV.c (CV.p (PV.sl n fun i => [PV.v (Value.int IntKind.u8 (↑(b i) : Int))])), AV.c (CV.p (PV.sl m fun i => [PV.v (Value.int IntKind.u8 (↑(c i) : Int))])), AV.c (CV.p (PV.v (Value.bool false))), AV.c (CV.p (PV.v (Value.int IntKind.i64 (↑n : Int)))), AV.c (CV.p (PV.v (Value.int IntKind.i64 (0 : Int))))] []) (Ans.mk Ex.ret [AV.c (CV.p (PV.sl n fun i => [PV.v (Value.int IntKind.u8 (↑(b i) : Int))])), AV.c (CV.p (PV.sl m fun i => [PV.v (Value.int IntKind.u8 (↑(c i) : Int))])), AV.c (CV.p (PV.v (Value.bool false))), AV.c (CV.p (PV.v (Value.int IntKind.i64 (↑n : Int)))), AV.c (CV.p (PV.v (Value.int IntKind.i64 (↑j : Int))))] []) (Sc.done (Ans.mk Ex.ret [AV.c (CV.p (PV.v (Value.bool false)))] []))) := by kernel_rfl
theorem equalTe_t (n m : Nat)  (b c : Nat → Nat)  : fol CK Try.prog (SL 88 fun vals h => match vals with | [x, y, _, z, _] => some (.one ⟨.exit 0, [x, y, B false, z, z], h⟩) | _ => none) (An.b An.e (An.a An.e)) (T.evQ CK Try.prog (.call 88 [Sl n (Bs b), Sl m (Bs c)] []) .done) = Sc.br ((↑n : Int) != (↑m : Int)) (Sc.done (Ans.mk Ex.ret [AV.c (CV.p (PV.v (Value.bool false)))] [])) (Sc.ask (Qry.loop (88 : Nat) (0 : Nat) [(1 : Nat), (1 : Nat), (0 : Nat), (1 : Nat), (0 : Nat)] [AV.c (CV.p (PV.sl n fun i => [PV.v (Value.int IntKind.u8 (↑(b i) : Int))])), AV.c (CV.p (PV.sl m fun i => [PV.v (Value.int IntKind.u8 (↑(c i) : Int))])), AV.c (CV.p (PV.v (Value.bool false))), AV.c (CV.p (PV.v (Value.int IntKind.i64 (↑n : Int)))), AV.c (CV.p (PV.v (Value.int IntKind.i64 (0 : Int))))] []) (Ans.mk (Ex.exit (0 : Nat)) [AV.c (CV.p (PV.sl n fun i => [PV.v (Value.int IntKind.u8 (↑(b i) : Int))])), AV.c (CV.p (PV.sl m fun i => [PV.v (Value.int IntKind.u8 (↑(c i) : Int))])), AV.c (CV.p (PV.v (Value.bool false))), AV.c (CV.p (PV.v (Value.int IntKind.i64 (↑n : Int)))), AV.c (CV.p (PV.v (Value.int IntKind.i64 (↑n : Int))))] []) (Sc.done (Ans.mk Ex.ret [AV.c (CV.p (PV.v (Value.bool true)))] []))) := by kernel_rfl
theorem equalRr_t (n m : Nat)  (b c : Nat → Nat)  (i j : Nat)  : fol CK Try.prog (SL 88 fun vals h => match vals with | [x, y, _, z, _] => some (.one ⟨.ret, [x, y, B false, z, I j], h⟩) | _ => none) (An.b (An.c (An.c (An.b An.e (An.a An.e)))) An.e) (T.evQ CK Try.prog (.loop 88 0 [1, 1, 0, 1, 0] [Sl n (Bs b), Sl m (Bs c), B false, I n, I i] []) .done) = Sc.br (decide ((↑i : Int) < (↑n : Int))) (Sc.chk ((0 : Int) ≤ (↑i : Int) ∧ (↑i : Int) < (↑n : Int)) (Sc.chk ((0 : Int) ≤ (↑i : Int) ∧ (↑i : Int) < (↑m : Int)) (Sc.br ((↑(b (Int.toNat (↑i : Int))) : Int) != (↑(c (Int.toNat (↑i : Int))) : Int)) (Sc.done (Ans.mk Ex.ret [AV.c (CV.p (PV.sl n fun i => [PV.v (Value.int IntKind.u8 (↑(b i) : Int))])), AV.c (CV.p (PV.sl m fun i => [PV.v (Value.int IntKind.u8 (↑(c i) : Int))])), AV.c (CV.p (PV.v (Value.bool false))), AV.c (CV.p (PV.v (Value.int IntKind.i64 (↑n : Int)))), AV.c (CV.p (PV.v (Value.int IntKind.i64 (↑i : Int))))] [])) (Sc.ask (Qry.loop (88 : Nat) (0 : Nat) [(1 : Nat), (1 : Nat), (0 : Nat), (1 : Nat), (0 : Nat)] [AV.c (CV.p (PV.sl n fun i => [PV.v (Value.int IntKind.u8 (↑(b i) : Int))])), AV.c (CV.p (PV.sl m fun i => [PV.v (Value.int IntKind.u8 (↑(c i) : Int))])), AV.c (CV.p (PV.v (Value.bool false))), AV.c (CV.p (PV.v (Value.int IntKind.i64 (↑n : Int)))), AV.c (CV.p (PV.v (Value.int IntKind.i64 (IntKind.wrap IntKind.i64 ((↑i : Int) + (1 : Int))))))] []) (Ans.mk Ex.ret [AV.c (CV.p (PV.sl n fun i => [PV.v (Value.int IntKind.u8 (↑(b i) : Int))])), AV.c (CV.p (PV.sl m fun i => [PV.v (Value.int IntKind.u8 (↑(c i) : Int))])), AV.c (CV.p (PV.v (Value.bool false))), AV.c (CV.p (PV.v (Value.int IntKind.i64 (↑n : Int)))), AV.c (CV.p (PV.v (Value.int IntKind.i64 (↑j : Int))))] []) (Sc.done (Ans.mk Ex.ret [AV.c (CV.p (PV.sl n fun i => [PV.v (Value.int IntKind.u8 (↑(b i) : Int))])), AV.c (CV.p (PV.sl m fun i => [PV.v (Value.int IntKind.u8 (↑(c i) : Int))])), AV.c (CV.p (PV.v (Value.bool false))), AV.c (CV.p (PV.v (Value.int IntKind.i64 (↑n : Int)))), AV.c (CV.p (PV.v (Value.int IntKind.i64 (↑j : Int))))] [])))))) (Sc.done (Ans.mk (Ex.exit (0 : Nat)) [AV.c (CV.p (PV.sl n fun i => [PV.v (Value.int IntKind.u8 (↑(b i) : Int))])), AV.c (CV.p (PV.sl m fun i => [PV.v (Value.int IntKind.u8 (↑(c i) : Int))])), AV.c (CV.p (PV.v (Value.bool false))), AV.c (CV.p (PV.v (Value.int IntKind.i64 (↑n : Int)))), AV.c (CV.p (PV.v (Value.int IntKind.i64 (↑i : Int))))] [])) := by kernel_rfl
theorem equalRe_t (n m : Nat)  (b c : Nat → Nat)  (i : Nat)  : fol CK Try.prog (SL 88 fun vals h => match vals with | [x, y, _, z, _] => some (.one ⟨.exit 0, [x, y, B false, z, z], h⟩) | _ => none) (An.b (An.c (An.c (An.b An.e (An.a An.e)))) An.e) (T.evQ CK Try.prog (.loop 88 0 [1, 1, 0, 1, 0] [Sl n (Bs b), Sl m (Bs c), B false, I n, I i] []) .done) = Sc.br (decide ((↑i : Int) < (↑n : Int))) (Sc.chk ((0 : Int) ≤ (↑i : Int) ∧ (↑i : Int) < (↑n : Int)) (Sc.chk ((0 : Int) ≤ (↑i : Int) ∧ (↑i : Int) < (↑m : Int)) (Sc.br ((↑(b (Int.toNat (↑i : Int))) : Int) != (↑(c (Int.toNat (↑i : Int))) : Int)) (Sc.done (Ans.mk Ex.ret [AV.c (CV.p (PV.sl n fun i => [PV.v (Value.int IntKind.u8 (↑(b i) : Int))])), AV.c (CV.p (PV.sl m fun i => [PV.v (Value.int IntKind.u8 (↑(c i) : Int))])), AV.c (CV.p (PV.v (Value.bool false))), AV.c (CV.p (PV.v (Value.int IntKind.i64 (↑n : Int)))), AV.c (CV.p (PV.v (Value.int IntKind.i64 (↑i : Int))))] [])) (Sc.ask (Qry.loop (88 : Nat) (0 : Nat) [(1 : Nat), (1 : Nat), (0 : Nat), (1 : Nat), (0 : Nat)] [AV.c (CV.p (PV.sl n fun i => [PV.v (Value.int IntKind.u8 (↑(b i) : Int))])), AV.c (CV.p (PV.sl m fun i => [PV.v (Value.int IntKind.u8 (↑(c i) : Int))])), AV.c (CV.p (PV.v (Value.bool false))), AV.c (CV.p (PV.v (Value.int IntKind.i64 (↑n : Int)))), AV.c (CV.p (PV.v (Value.int IntKind.i64 (IntKind.wrap IntKind.i64 ((↑i : Int) + (1 : Int))))))] []) (Ans.mk (Ex.exit (0 : Nat)) [AV.c (CV.p (PV.sl n fun i => [PV.v (Value.int IntKind.u8 (↑(b i) : Int))])), AV.c (CV.p (PV.sl m fun i => [PV.v (Value.int IntKind.u8 (↑(c i) : Int))])), AV.c (CV.p (PV.v (Value.bool false))), AV.c (CV.p (PV.v (Value.int IntKind.i64 (↑n : Int)))), AV.c (CV.p (PV.v (Value.int IntKind.i64 (↑n : Int))))] []) (Sc.done (Ans.mk (Ex.exit (0 : Nat)) [AV.c (CV.p (PV.sl n fun i => [PV.v (Value.int IntKind.u8 (↑(b i) : Int))])), AV.c (CV.p (PV.sl m fun i => [PV.v (Value.int IntKind.u8 (↑(c i) : Int))])), AV.c (CV.p (PV.v (Value.bool false))), AV.c (CV.p (PV.v (Value.int IntKind.i64 (↑n : Int)))), AV.c (CV.p (PV.v (Value.int IntKind.i64 (↑n : Int))))] [])))))) (Sc.done (Ans.mk (Ex.exit (0 : Nat)) [AV.c (CV.p (PV.sl n fun i => [PV.v (Value.int IntKind.u8 (↑(b i) : Int))])), AV.c (CV.p (PV.sl m fun i => [PV.v (Value.int IntKind.u8 (↑(c i) : Int))])), AV.c (CV.p (PV.v (Value.bool false))), AV.c (CV.p (PV.v (Value.int IntKind.i64 (↑n : Int)))), AV.c (CV.p (PV.v (Value.int IntKind.i64 (↑i : Int))))] [])) := by kernel_rfl
theorem tailT_t (n s : Nat)  (b : Nat → Nat)  : fol CK Try.prog S0 (An.c (An.i (An.l (An.d (An.c (An.d (An.i (An.l (An.d (An.c (An.d (An.i (An.l (An.d (An.c (An.d (An.i (An.l (An.d (An.c (An.d (An.i (An.l An.e))))))))))))))))))))))) (T.evQ CK Try.prog (.call 86 [Sl n (Bs b), U32 s] []) .done) = Sc.chk (((0 : Nat) + n) * (1 : Nat) ≤ (140737488355328 : Nat) ∧ (0 : Nat) + n ≤ (9223372036854775807 : Nat)) (Sc.chk (((0 : Nat) + n + (1 : Nat)) * (1 : Nat) ≤ (140737488355328 : Nat) ∧ (0 : Nat) + n + (1 : Nat) ≤ (9223372036854775807 : Nat)) (Sc.chk (((0 : Nat) + n + (1 : Nat) + (1 : Nat)) * (1 : Nat) ≤ (140737488355328 : Nat) ∧ (0 : Nat) + n + (1 : Nat) + (1 : Nat) ≤ (9223372036854775807 : Nat)) (Sc.chk (((0 : Nat) + n + (1 : Nat) + (1 : Nat) + (1 : Nat)) * (1 : Nat) ≤ (140737488355328 : Nat) ∧ (0 : Nat) + n + (1 : Nat) + (1 : Nat) + (1 : Nat) ≤ (9223372036854775807 : Nat)) (Sc.chk (((0 : Nat) + n + (1 : Nat) + (1 : Nat) + (1 : Nat) + (1 : Nat)) * (1 : Nat) ≤ (140737488355328 : Nat) ∧ (0 : Nat) + n + (1 : Nat) + (1 : Nat) + (1 : Nat) + (1 : Nat) ≤ (9223372036854775807 : Nat)) (Sc.done (Ans.mk Ex.ret [AV.c (CV.p (PV.sl ((0 : Nat) + n + (1 : Nat) + (1 : Nat) + (1 : Nat) + (1 : Nat)) fun i => if i < (0 : Nat) + n + (1 : Nat) + (1 : Nat) + (1 : Nat) then catF ((0 : Nat) + n + (1 : Nat) + (1 : Nat)) (catF ((0 : Nat) + n + (1 : Nat)) (catF ((0 : Nat) + n) (catF (0 : Nat) (litF []) (Bs b)) (litF [[PV.v (Value.int IntKind.u8 (IntKind.wrap IntKind.u8 (Int.tmod (↑s : Int) (256 : Int))))]])) (litF [[PV.v (Value.int IntKind.u8 (IntKind.wrap IntKind.u8 (Int.tmod (IntKind.wrap IntKind.u32 (Int.tdiv (↑s : Int) (256 : Int))) (256 : Int))))]])) (litF [[PV.v (Value.int IntKind.u8 (IntKind.wrap IntKind.u8 (Int.tmod (IntKind.wrap IntKind.u32 (Int.tdiv (IntKind.wrap IntKind.u32 (Int.tdiv (↑s : Int) (256 : Int))) (256 : Int))) (256 : Int))))]]) i else litF [[PV.v (Value.int IntKind.u8 (IntKind.wrap IntKind.u8 (Int.tmod (IntKind.wrap IntKind.u32 (Int.tdiv (IntKind.wrap IntKind.u32 (Int.tdiv (IntKind.wrap IntKind.u32 (Int.tdiv (↑s : Int) (256 : Int))) (256 : Int))) (256 : Int))) (256 : Int))))]] (i - ((0 : Nat) + n + (1 : Nat) + (1 : Nat) + (1 : Nat)))))] [])))))) := by kernel_rfl
theorem plainT_t (n : Nat)  (b : Nat → Nat)  (r : Nat)  : fol CK Try.prog (SL 87 fun vals h => match vals with | [x, _, _] => some (.one ⟨.exit 0, [x, U32 r, I n], h⟩) | _ => none) (An.a An.e) (T.evQ CK Try.prog (.call 87 [Sl n (Bs b)] []) .done) = Sc.ask (Qry.loop (87 : Nat) (0 : Nat) [(1 : Nat), (1 : Nat), (0 : Nat), (1 : Nat), (0 : Nat)] [AV.c (CV.p (PV.sl n fun i => [PV.v (Value.int IntKind.u8 (↑(b i) : Int))])), AV.c (CV.p (PV.v (Value.int IntKind.u32 (4294967295 : Int)))), AV.c (CV.p (PV.v (Value.int IntKind.i64 (0 : Int))))] []) (Ans.mk (Ex.exit (0 : Nat)) [AV.c (CV.p (PV.sl n fun i => [PV.v (Value.int IntKind.u8 (↑(b i) : Int))])), AV.c (CV.p (PV.v (Value.int IntKind.u32 (↑r : Int)))), AV.c (CV.p (PV.v (Value.int IntKind.i64 (↑n : Int))))] []) (Sc.done (Ans.mk Ex.ret [AV.c (CV.p (PV.v (Value.int IntKind.u32 (IntKind.wrap IntKind.u32 (↑(BitVec.toNat (BitVec.ofInt (IntKind.bits IntKind.u32) (↑r : Int) ^^^ BitVec.ofInt (IntKind.bits IntKind.u32) (4294967295 : Int))) : Int)))))] [])) := by kernel_rfl
theorem plainR_t (n : Nat)  (b : Nat → Nat)  (s i r : Nat)  : fol CK Try.prog (SLC 87 fun vals h => match vals with | [x, _, _] => some (.one ⟨.exit 0, [x, U32 r, I n], h⟩) | _ => none) (An.b (An.c (An.i (An.l (An.a (An.i (An.l (An.a (An.i (An.l (An.a (An.i (An.l (An.a (An.i (An.l (An.a (An.i (An.l (An.a (An.i (An.l (An.a (An.i (An.l (An.a (An.i (An.l (An.a An.e)))))))))))))))))))))))))))) An.e) (T.evQ CK Try.prog (.loop 87 0 [1, 1, 0, 1, 0] [Sl n (Bs b), U32 s, I i] []) .done) = Sc.br (decide ((↑i : Int) < (↑n : Int))) (Sc.chk ((0 : Int) ≤ (↑i : Int) ∧ (↑i : Int) < (↑n : Int)) (Sc.ask (Qry.call (94 : Nat) [AV.c (CV.p (PV.v (Value.int IntKind.u32 (IntKind.wrap IntKind.u32 (↑(BitVec.toNat (BitVec.ofInt (IntKind.bits IntKind.u32) (↑s : Int) ^^^ BitVec.ofInt (IntKind.bits IntKind.u32) (IntKind.wrap IntKind.u32 (↑(b (Int.toNat (↑i : Int))) : Int)))) : Int)))))] []) (Ans.mk Ex.ret [AV.c (CV.p (PV.v (Value.int IntKind.u32 (↑(stp (Int.toNat (IntKind.wrap IntKind.u32 (↑(BitVec.toNat (BitVec.ofInt (IntKind.bits IntKind.u32) (↑s : Int) ^^^ BitVec.ofInt (IntKind.bits IntKind.u32) (IntKind.wrap IntKind.u32 (↑(b (Int.toNat (↑i : Int))) : Int)))) : Int)))) : Int))))] []) (Sc.ask (Qry.call (94 : Nat) [AV.c (CV.p (PV.v (Value.int IntKind.u32 (↑(stp (Int.toNat (IntKind.wrap IntKind.u32 (↑(BitVec.toNat (BitVec.ofInt (IntKind.bits IntKind.u32) (↑s : Int) ^^^ BitVec.ofInt (IntKind.bits IntKind.u32) (IntKind.wrap IntKind.u32 (↑(b (Int.toNat (↑i : Int))) : Int)))) : Int)))) : Int))))] []) (Ans.mk Ex.ret [AV.c (CV.p (PV.v (Value.int IntKind.u32 (↑(stp (Int.toNat (↑(stp (Int.toNat (IntKind.wrap IntKind.u32 (↑(BitVec.toNat (BitVec.ofInt (IntKind.bits IntKind.u32) (↑s : Int) ^^^ BitVec.ofInt (IntKind.bits IntKind.u32) (IntKind.wrap IntKind.u32 (↑(b (Int.toNat (↑i : Int))) : Int)))) : Int)))) : Int))) : Int))))] []) (Sc.ask (Qry.call (94 : Nat) [AV.c (CV.p (PV.v (Value.int IntKind.u32 (↑(stp (Int.toNat (↑(stp (Int.toNat (IntKind.wrap IntKind.u32 (↑(BitVec.toNat (BitVec.ofInt (IntKind.bits IntKind.u32) (↑s : Int) ^^^ BitVec.ofInt (IntKind.bits IntKind.u32) (IntKind.wrap IntKind.u32 (↑(b (Int.toNat (↑i : Int))) : Int)))) : Int)))) : Int))) : Int))))] []) (Ans.mk Ex.ret [AV.c (CV.p (PV.v (Value.int IntKind.u32 (↑(stp (Int.toNat (↑(stp (Int.toNat (↑(stp (Int.toNat (IntKind.wrap IntKind.u32 (↑(BitVec.toNat (BitVec.ofInt (IntKind.bits IntKind.u32) (↑s : Int) ^^^ BitVec.ofInt (IntKind.bits IntKind.u32) (IntKind.wrap IntKind.u32 (↑(b (Int.toNat (↑i : Int))) : Int)))) : Int)))) : Int))) : Int))) : Int))))] []) (Sc.ask (Qry.call (94 : Nat) [AV.c (CV.p (PV.v (Value.int IntKind.u32 (↑(stp (Int.toNat (↑(stp (Int.toNat (↑(stp (Int.toNat (IntKind.wrap IntKind.u32 (↑(BitVec.toNat (BitVec.ofInt (IntKind.bits IntKind.u32) (↑s : Int) ^^^ BitVec.ofInt (IntKind.bits IntKind.u32) (IntKind.wrap IntKind.u32 (↑(b (Int.toNat (↑i : Int))) : Int)))) : Int)))) : Int))) : Int))) : Int))))] []) (Ans.mk Ex.ret [AV.c (CV.p (PV.v (Value.int IntKind.u32 (↑(stp (Int.toNat (↑(stp (Int.toNat (↑(stp (Int.toNat (↑(stp (Int.toNat (IntKind.wrap IntKind.u32 (↑(BitVec.toNat (BitVec.ofInt (IntKind.bits IntKind.u32) (↑s : Int) ^^^ BitVec.ofInt (IntKind.bits IntKind.u32) (IntKind.wrap IntKind.u32 (↑(b (Int.toNat (↑i : Int))) : Int)))) : Int)))) : Int))) : Int))) : Int))) : Int))))] []) (Sc.ask (Qry.call (94 : Nat) [AV.c (CV.p (PV.v (Value.int IntKind.u32 (↑(stp (Int.toNat (↑(stp (Int.toNat (↑(stp (Int.toNat (↑(stp (Int.toNat (IntKind.wrap IntKind.u32 (↑(BitVec.toNat (BitVec.ofInt (IntKind.bits IntKind.u32) (↑s : Int) ^^^ BitVec.ofInt (IntKind.bits IntKind.u32) (IntKind.wrap IntKind.u32 (↑(b (Int.toNat (↑i : Int))) : Int)))) : Int)))) : Int))) : Int))) : Int))) : Int))))] []) (Ans.mk Ex.ret [AV.c (CV.p (PV.v (Value.int IntKind.u32 (↑(stp (Int.toNat (↑(stp (Int.toNat (↑(stp (Int.toNat (↑(stp (Int.toNat (↑(stp (Int.toNat (IntKind.wrap IntKind.u32 (↑(BitVec.toNat (BitVec.ofInt (IntKind.bits IntKind.u32) (↑s : Int) ^^^ BitVec.ofInt (IntKind.bits IntKind.u32) (IntKind.wrap IntKind.u32 (↑(b (Int.toNat (↑i : Int))) : Int)))) : Int)))) : Int))) : Int))) : Int))) : Int))) : Int))))] []) (Sc.ask (Qry.call (94 : Nat) [AV.c (CV.p (PV.v (Value.int IntKind.u32 (↑(stp (Int.toNat (↑(stp (Int.toNat (↑(stp (Int.toNat (↑(stp (Int.toNat (↑(stp (Int.toNat (IntKind.wrap IntKind.u32 (↑(BitVec.toNat (BitVec.ofInt (IntKind.bits IntKind.u32) (↑s : Int) ^^^ BitVec.ofInt (IntKind.bits IntKind.u32) (IntKind.wrap IntKind.u32 (↑(b (Int.toNat (↑i : Int))) : Int)))) : Int)))) : Int))) : Int))) : Int))) : Int))) : Int))))] []) (Ans.mk Ex.ret [AV.c (CV.p (PV.v (Value.int IntKind.u32 (↑(stp (Int.toNat (↑(stp (Int.toNat (↑(stp (Int.toNat (↑(stp (Int.toNat (↑(stp (Int.toNat (↑(stp (Int.toNat (IntKind.wrap IntKind.u32 (↑(BitVec.toNat (BitVec.ofInt (IntKind.bits IntKind.u32) (↑s : Int) ^^^ BitVec.ofInt (IntKind.bits IntKind.u32) (IntKind.wrap IntKind.u32 (↑(b (Int.toNat (↑i : Int))) : Int)))) : Int)))) : Int))) : Int))) : Int))) : Int))) : Int))) : Int))))] []) (Sc.ask (Qry.call (94 : Nat) [AV.c (CV.p (PV.v (Value.int IntKind.u32 (↑(stp (Int.toNat (↑(stp (Int.toNat (↑(stp (Int.toNat (↑(stp (Int.toNat (↑(stp (Int.toNat (↑(stp (Int.toNat (IntKind.wrap IntKind.u32 (↑(BitVec.toNat (BitVec.ofInt (IntKind.bits IntKind.u32) (↑s : Int) ^^^ BitVec.ofInt (IntKind.bits IntKind.u32) (IntKind.wrap IntKind.u32 (↑(b (Int.toNat (↑i : Int))) : Int)))) : Int)))) : Int))) : Int))) : Int))) : Int))) : Int))) : Int))))] []) (Ans.mk Ex.ret [AV.c (CV.p (PV.v (Value.int IntKind.u32 (↑(stp (Int.toNat (↑(stp (Int.toNat (↑(stp (Int.toNat (↑(stp (Int.toNat (↑(stp (Int.toNat (↑(stp (Int.toNat (↑(stp (Int.toNat (IntKind.wrap IntKind.u32 (↑(BitVec.toNat (BitVec.ofInt (IntKind.bits IntKind.u32) (↑s : Int) ^^^ BitVec.ofInt (IntKind.bits IntKind.u32) (IntKind.wrap IntKind.u32 (↑(b (Int.toNat (↑i : Int))) : Int)))) : Int)))) : Int))) : Int))) : Int))) : Int))) : Int))) : Int))) : Int))))] []) (Sc.ask (Qry.call (94 : Nat) [AV.c (CV.p (PV.v (Value.int IntKind.u32 (↑(stp (Int.toNat (↑(stp (Int.toNat (↑(stp (Int.toNat (↑(stp (Int.toNat (↑(stp (Int.toNat (↑(stp (Int.toNat (↑(stp (Int.toNat (IntKind.wrap IntKind.u32 (↑(BitVec.toNat (BitVec.ofInt (IntKind.bits IntKind.u32) (↑s : Int) ^^^ BitVec.ofInt (IntKind.bits IntKind.u32) (IntKind.wrap IntKind.u32 (↑(b (Int.toNat (↑i : Int))) : Int)))) : Int)))) : Int))) : Int))) : Int))) : Int))) : Int))) : Int))) : Int))))] []) (Ans.mk Ex.ret [AV.c (CV.p (PV.v (Value.int IntKind.u32 (↑(stp (Int.toNat (↑(stp (Int.toNat (↑(stp (Int.toNat (↑(stp (Int.toNat (↑(stp (Int.toNat (↑(stp (Int.toNat (↑(stp (Int.toNat (↑(stp (Int.toNat (IntKind.wrap IntKind.u32 (↑(BitVec.toNat (BitVec.ofInt (IntKind.bits IntKind.u32) (↑s : Int) ^^^ BitVec.ofInt (IntKind.bits IntKind.u32) (IntKind.wrap IntKind.u32 (↑(b (Int.toNat (↑i : Int))) : Int)))) : Int)))) : Int))) : Int))) : Int))) : Int))) : Int))) : Int))) : Int))) : Int))))] []) (Sc.ask (Qry.loop (87 : Nat) (0 : Nat) [(1 : Nat), (1 : Nat), (0 : Nat), (1 : Nat), (0 : Nat)] [AV.c (CV.p (PV.sl n fun i => [PV.v (Value.int IntKind.u8 (↑(b i) : Int))])), AV.c (CV.p (PV.v (Value.int IntKind.u32 (↑(stp (Int.toNat (↑(stp (Int.toNat (↑(stp (Int.toNat (↑(stp (Int.toNat (↑(stp (Int.toNat (↑(stp (Int.toNat (↑(stp (Int.toNat (↑(stp (Int.toNat (IntKind.wrap IntKind.u32 (↑(BitVec.toNat (BitVec.ofInt (IntKind.bits IntKind.u32) (↑s : Int) ^^^ BitVec.ofInt (IntKind.bits IntKind.u32) (IntKind.wrap IntKind.u32 (↑(b (Int.toNat (↑i : Int))) : Int)))) : Int)))) : Int))) : Int))) : Int))) : Int))) : Int))) : Int))) : Int))) : Int)))), AV.c (CV.p (PV.v (Value.int IntKind.i64 (IntKind.wrap IntKind.i64 ((↑i : Int) + (1 : Int))))))] []) (Ans.mk (Ex.exit (0 : Nat)) [AV.c (CV.p (PV.sl n fun i => [PV.v (Value.int IntKind.u8 (↑(b i) : Int))])), AV.c (CV.p (PV.v (Value.int IntKind.u32 (↑r : Int)))), AV.c (CV.p (PV.v (Value.int IntKind.i64 (↑n : Int))))] []) (Sc.done (Ans.mk (Ex.exit (0 : Nat)) [AV.c (CV.p (PV.sl n fun i => [PV.v (Value.int IntKind.u8 (↑(b i) : Int))])), AV.c (CV.p (PV.v (Value.int IntKind.u32 (↑r : Int)))), AV.c (CV.p (PV.v (Value.int IntKind.i64 (↑n : Int))))] [])))))))))))) (Sc.done (Ans.mk (Ex.exit (0 : Nat)) [AV.c (CV.p (PV.sl n fun i => [PV.v (Value.int IntKind.u8 (↑(b i) : Int))])), AV.c (CV.p (PV.v (Value.int IntKind.u32 (↑s : Int)))), AV.c (CV.p (PV.v (Value.int IntKind.i64 (↑i : Int))))] [])) := by kernel_rfl
theorem stepT_t (m : Nat)  : fol CK Try.prog S0 (An.d (An.b (An.d An.e) (An.d An.e))) (T.evQ CK Try.prog (.call 94 [U32 m] []) .done) = Sc.br (Int.tmod (↑m : Int) (2 : Int) == (1 : Int)) (Sc.done (Ans.mk Ex.ret [AV.c (CV.p (PV.v (Value.int IntKind.u32 (IntKind.wrap IntKind.u32 (↑(BitVec.toNat (BitVec.ofInt (IntKind.bits IntKind.u32) (IntKind.wrap IntKind.u32 (Int.tdiv (↑m : Int) (2 : Int))) ^^^ BitVec.ofInt (IntKind.bits IntKind.u32) (3988292384 : Int))) : Int)))))] [])) (Sc.done (Ans.mk Ex.ret [AV.c (CV.p (PV.v (Value.int IntKind.u32 (IntKind.wrap IntKind.u32 (Int.tdiv (↑m : Int) (2 : Int))))))] [])) := by kernel_rfl
theorem sealT_t (t : Nat → Nat)  (n : Nat)  (b : Nat → Nat)  : fol CK Try.prog crcC (An.a (An.d (An.a (An.a (An.c An.e))))) (T.evQ CK Try.prog (.call 72 [Tb t, Sl n (Bs b)] []) .done) = Sc.ask (Qry.call (76 : Nat) [AV.c (CV.p (PV.sl n fun i => [PV.v (Value.int IntKind.u8 (↑(b i) : Int))]))] []) (Ans.mk Ex.ret [AV.c (CV.os (0 : Nat))] [Ob.row (5 : Nat) n (fun i => [PV.v (Value.int IntKind.u8 (↑(b i) : Int))]) true]) (Sc.ask (Qry.call (85 : Nat) [AV.agg (tbC t), AV.c (CV.p (PV.v (Value.int IntKind.u32 (0 : Int)))), AV.c (CV.p (PV.sl n fun i => [PV.v (Value.int IntKind.u8 (↑(b i) : Int))]))] []) (Ans.mk Ex.ret [AV.c (CV.p (PV.v (Value.int IntKind.u32 (↑(sumN (tbN (tbC t)) (0 : Nat) n (byN (Bs b))) : Int))))] []) (Sc.ask (Qry.call (84 : Nat) [AV.c (CV.p (PV.v (Value.int IntKind.u32 (↑(sumN (tbN (tbC t)) (0 : Nat) n (byN (Bs b))) : Int))))] []) (Ans.mk Ex.ret [AV.c (CV.os (0 : Nat))] [Ob.row (5 : Nat) (4 : Nat) (fun i => List.getD [[PV.v (Value.int IntKind.u8 (↑(Int.toNat (↑(sumN (tbN (tbC t)) (0 : Nat) n (byN (Bs b))) : Int) % (256 : Nat)) : Int))], [PV.v (Value.int IntKind.u8 (↑(Int.toNat (↑(sumN (tbN (tbC t)) (0 : Nat) n (byN (Bs b))) : Int) / (256 : Nat) % (256 : Nat)) : Int))], [PV.v (Value.int IntKind.u8 (↑(Int.toNat (↑(sumN (tbN (tbC t)) (0 : Nat) n (byN (Bs b))) : Int) / (65536 : Nat) % (256 : Nat)) : Int))], [PV.v (Value.int IntKind.u8 (↑(Int.toNat (↑(sumN (tbN (tbC t)) (0 : Nat) n (byN (Bs b))) : Int) / (16777216 : Nat) % (256 : Nat)) : Int))]] i []) true]) (Sc.chk ((n + (4 : Nat)) * (1 : Nat) ≤ (140737488355328 : Nat) ∧ n + (4 : Nat) ≤ (9223372036854775807 : Nat)) (Sc.done (Ans.mk Ex.ret [AV.c (CV.os (0 : Nat))] [Ob.row (5 : Nat) (n + (4 : Nat)) (fun i => if i < n then [PV.v (Value.int IntKind.u8 (↑(b i) : Int))] else fourF (Int.toNat (↑(sumN (tbN (tbC t)) (0 : Nat) n (byN (Bs b))) : Int)) (i - n)) true]))))) := by kernel_rfl
theorem openT_t (t : Nat → Nat)  (n : Nat)  (b : Nat → Nat)  : fol CK Try.prog crcC (An.b An.e (An.d (An.c (An.a (An.a (An.c (An.a (An.b An.e (An.c (An.a An.e)))))))))) (T.evQ CK Try.prog (.call 75 [Tb t, Sl n (Bs b)] []) .done) = Sc.br (decide (IntKind.wrap IntKind.i64 ((↑n : Int) - (4 : Int)) < (0 : Int))) (Sc.done (Ans.mk Ex.ret [AV.tup [AV.c (CV.p (PV.sl (0 : Nat) fun x => [])), AV.c (CV.p (PV.v (Value.int IntKind.i64 (10 : Int))))]] [])) (Sc.chk ((0 : Int) ≤ (0 : Int) ∧ (0 : Int) ≤ IntKind.wrap IntKind.i64 ((↑n : Int) - (4 : Int)) ∧ IntKind.wrap IntKind.i64 ((↑n : Int) - (4 : Int)) ≤ (↑n : Int)) (Sc.ask (Qry.call (85 : Nat) [AV.agg (tbC t), AV.c (CV.p (PV.v (Value.int IntKind.u32 (0 : Int)))), AV.c (CV.p (PV.sl (Int.toNat (IntKind.wrap IntKind.i64 ((↑n : Int) - (4 : Int))) - (0 : Nat)) fun i => [PV.v (Value.int IntKind.u8 (↑(b (i + Int.toNat (0 : Int))) : Int))]))] []) (Ans.mk Ex.ret [AV.c (CV.p (PV.v (Value.int IntKind.u32 (↑(sumN (tbN (tbC t)) (0 : Nat) (Int.toNat (IntKind.wrap IntKind.i64 ((↑n : Int) - (4 : Int))) - (0 : Nat)) (byN fun i => Bs b (i + Int.toNat (0 : Int)))) : Int))))] []) (Sc.ask (Qry.call (84 : Nat) [AV.c (CV.p (PV.v (Value.int IntKind.u32 (↑(sumN (tbN (tbC t)) (0 : Nat) (Int.toNat (IntKind.wrap IntKind.i64 ((↑n : Int) - (4 : Int))) - (0 : Nat)) (byN fun i => Bs b (i + Int.toNat (0 : Int)))) : Int))))] []) (Ans.mk Ex.ret [AV.c (CV.os (0 : Nat))] [Ob.row (5 : Nat) (4 : Nat) (fun i => List.getD [[PV.v (Value.int IntKind.u8 (↑(Int.toNat (↑(sumN (tbN (tbC t)) (0 : Nat) (Int.toNat (IntKind.wrap IntKind.i64 ((↑n : Int) - (4 : Int))) - (0 : Nat)) (byN fun i => Bs b (i + Int.toNat (0 : Int)))) : Int) % (256 : Nat)) : Int))], [PV.v (Value.int IntKind.u8 (↑(Int.toNat (↑(sumN (tbN (tbC t)) (0 : Nat) (Int.toNat (IntKind.wrap IntKind.i64 ((↑n : Int) - (4 : Int))) - (0 : Nat)) (byN fun i => Bs b (i + Int.toNat (0 : Int)))) : Int) / (256 : Nat) % (256 : Nat)) : Int))], [PV.v (Value.int IntKind.u8 (↑(Int.toNat (↑(sumN (tbN (tbC t)) (0 : Nat) (Int.toNat (IntKind.wrap IntKind.i64 ((↑n : Int) - (4 : Int))) - (0 : Nat)) (byN fun i => Bs b (i + Int.toNat (0 : Int)))) : Int) / (65536 : Nat) % (256 : Nat)) : Int))], [PV.v (Value.int IntKind.u8 (↑(Int.toNat (↑(sumN (tbN (tbC t)) (0 : Nat) (Int.toNat (IntKind.wrap IntKind.i64 ((↑n : Int) - (4 : Int))) - (0 : Nat)) (byN fun i => Bs b (i + Int.toNat (0 : Int)))) : Int) / (16777216 : Nat) % (256 : Nat)) : Int))]] i []) true]) (Sc.chk ((0 : Int) ≤ IntKind.wrap IntKind.i64 ((↑n : Int) - (4 : Int)) ∧ IntKind.wrap IntKind.i64 ((↑n : Int) - (4 : Int)) ≤ (↑n : Int) ∧ (↑n : Int) ≤ (↑n : Int)) (Sc.ask (Qry.call (88 : Nat) [AV.c (CV.p (PV.sl (4 : Nat) fun i => List.getD [[PV.v (Value.int IntKind.u8 (↑(Int.toNat (↑(sumN (tbN (tbC t)) (0 : Nat) (Int.toNat (IntKind.wrap IntKind.i64 ((↑n : Int) - (4 : Int))) - (0 : Nat)) (byN fun i => Bs b (i + Int.toNat (0 : Int)))) : Int) % (256 : Nat)) : Int))], [PV.v (Value.int IntKind.u8 (↑(Int.toNat (↑(sumN (tbN (tbC t)) (0 : Nat) (Int.toNat (IntKind.wrap IntKind.i64 ((↑n : Int) - (4 : Int))) - (0 : Nat)) (byN fun i => Bs b (i + Int.toNat (0 : Int)))) : Int) / (256 : Nat) % (256 : Nat)) : Int))], [PV.v (Value.int IntKind.u8 (↑(Int.toNat (↑(sumN (tbN (tbC t)) (0 : Nat) (Int.toNat (IntKind.wrap IntKind.i64 ((↑n : Int) - (4 : Int))) - (0 : Nat)) (byN fun i => Bs b (i + Int.toNat (0 : Int)))) : Int) / (65536 : Nat) % (256 : Nat)) : Int))], [PV.v (Value.int IntKind.u8 (↑(Int.toNat (↑(sumN (tbN (tbC t)) (0 : Nat) (Int.toNat (IntKind.wrap IntKind.i64 ((↑n : Int) - (4 : Int))) - (0 : Nat)) (byN fun i => Bs b (i + Int.toNat (0 : Int)))) : Int) / (16777216 : Nat) % (256 : Nat)) : Int))]] i [])), AV.c (CV.p (PV.sl (Int.toNat (↑n : Int) - Int.toNat (IntKind.wrap IntKind.i64 ((↑n : Int) - (4 : Int)))) fun i => [PV.v (Value.int IntKind.u8 (↑(b (i + Int.toNat (IntKind.wrap IntKind.i64 ((↑n : Int) - (4 : Int))))) : Int))]))] []) (Ans.mk Ex.ret [AV.c (CV.p (PV.v (Value.bool (same (4 : Nat) (Int.toNat (↑n : Int) - Int.toNat (IntKind.wrap IntKind.i64 ((↑n : Int) - (4 : Int)))) (fourF (Int.toNat (↑(sumN (tbN (tbC t)) (Int.toNat (0 : Int)) (Int.toNat (IntKind.wrap IntKind.i64 ((↑n : Int) - (4 : Int))) - Int.toNat (0 : Int)) (byN fun i => Bs b (i + Int.toNat (0 : Int)))) : Int))) fun i => Bs b (i + Int.toNat (IntKind.wrap IntKind.i64 ((↑n : Int) - (4 : Int))))))))] []) (Sc.br (!same (4 : Nat) (Int.toNat (↑n : Int) - Int.toNat (IntKind.wrap IntKind.i64 ((↑n : Int) - (4 : Int)))) (fourF (Int.toNat (↑(sumN (tbN (tbC t)) (Int.toNat (0 : Int)) (Int.toNat (IntKind.wrap IntKind.i64 ((↑n : Int) - (4 : Int))) - Int.toNat (0 : Int)) (byN fun i => Bs b (i + Int.toNat (0 : Int)))) : Int))) fun i => Bs b (i + Int.toNat (IntKind.wrap IntKind.i64 ((↑n : Int) - (4 : Int))))) (Sc.done (Ans.mk Ex.ret [AV.tup [AV.c (CV.p (PV.sl (0 : Nat) fun x => [])), AV.c (CV.p (PV.v (Value.int IntKind.i64 (12 : Int))))]] [])) (Sc.chk ((0 : Int) ≤ (0 : Int) ∧ (0 : Int) ≤ IntKind.wrap IntKind.i64 ((↑n : Int) - (4 : Int)) ∧ IntKind.wrap IntKind.i64 ((↑n : Int) - (4 : Int)) ≤ (↑n : Int)) (Sc.ask (Qry.call (76 : Nat) [AV.c (CV.p (PV.sl (Int.toNat (IntKind.wrap IntKind.i64 ((↑n : Int) - (4 : Int))) - (0 : Nat)) fun i => [PV.v (Value.int IntKind.u8 (↑(b (i + Int.toNat (0 : Int))) : Int))]))] []) (Ans.mk Ex.ret [AV.c (CV.os (0 : Nat))] [Ob.row (5 : Nat) (Int.toNat (IntKind.wrap IntKind.i64 ((↑n : Int) - (4 : Int))) - (0 : Nat)) (fun i => [PV.v (Value.int IntKind.u8 (↑(b (i + Int.toNat (0 : Int))) : Int))]) true]) (Sc.done (Ans.mk Ex.ret [AV.tup [AV.c (CV.p (PV.sl (Int.toNat (IntKind.wrap IntKind.i64 ((↑n : Int) - (4 : Int))) - (0 : Nat)) fun i => [PV.v (Value.int IntKind.u8 (↑(b (i + Int.toNat (0 : Int))) : Int))])), AV.c (CV.p (PV.v (Value.int IntKind.i64 (0 : Int))))]] [])))))))))) := by kernel_rfl
theorem rsealT_t (n : Nat)  (b : Nat → Nat)  : fol CK Try.prog crcC (An.a (An.a An.e)) (T.evQ CK Try.prog (.call 74 [Sl n (Bs b)] []) .done) = Sc.ask (Qry.call (87 : Nat) [AV.c (CV.p (PV.sl n fun i => [PV.v (Value.int IntKind.u8 (↑(b i) : Int))]))] []) (Ans.mk Ex.ret [AV.c (CV.p (PV.v (Value.int IntKind.u32 (↑(plainN n (byN (Bs b))) : Int))))] []) (Sc.ask (Qry.call (86 : Nat) [AV.c (CV.p (PV.sl n fun i => [PV.v (Value.int IntKind.u8 (↑(b i) : Int))])), AV.c (CV.p (PV.v (Value.int IntKind.u32 (↑(plainN n (byN (Bs b))) : Int))))] []) (Ans.mk Ex.ret [AV.c (CV.p (PV.sl (n + (4 : Nat)) fun i => if i < n then [PV.v (Value.int IntKind.u8 (↑(b i) : Int))] else fourF (Int.toNat (↑(plainN n (byN (Bs b))) : Int)) (i - n)))] []) (Sc.done (Ans.mk Ex.ret [AV.c (CV.p (PV.sl (n + (4 : Nat)) fun i => if i < n then [PV.v (Value.int IntKind.u8 (↑(b i) : Int))] else fourF (Int.toNat (↑(plainN n (byN (Bs b))) : Int)) (i - n)))] []))) := by kernel_rfl

abbrev big (n : Nat) : Prop := n ≤ 100000000
theorem cClone {n : Nat} {f : Nat → List PV} (hf : BOk n f) (hn : big n) : QOk Try.prog CK (.call 76 [Sl n f] []) ⟨.ret, [.c (.os 0)], [rowB n f]⟩ := by
  refine QOk.arg (args := [Sl n (Bs (byN f))]) ?_ (.cons (ALe.sl hf) .nil)
  refine QOk.row (n := n) (f := Bs (byN f)) ?_ rfl (fun i hi => (hf i hi).symm)
  match n with
  | 0 =>
    refine tree_c hP (clone0_t (byN f)) ⟨?_, ?_⟩
    · exact CallLe.nilRow (sz := 1) rfl (by decide) _
    · exact CallLe.refl _
  | n + 1 =>
    refine tree_i hP (clone1_t n (byN f)) ?_
    simp only [Sc.Ok, Nat.zero_add, Nat.sub_zero]
    exact ⟨by omega, trivial⟩
theorem cFour (n : Nat) : QOk Try.prog CK (.call 84 [U32 n] []) ⟨.ret, [.c (.os 0)], [rowB 4 (fourF n)]⟩ := by
  refine tree_i hP (fourT_t n) ?_
  have e1 : Int.fdiv (n : Int) (256 : Int) = ((n / 256 : Nat) : Int) := fdivN n 256
  have e2 : Int.fdiv (n : Int) (65536 : Int) = ((n / 65536 : Nat) : Int) := fdivN n 65536
  have e3 : Int.fdiv (n : Int) (16777216 : Int) = ((n / 16777216 : Nat) : Int) := fdivN n 16777216
  simp only [Sc.Ok, e1, e2, e3, w8]
  trivial
theorem byteXor {s x : Nat} (hx : x < 256) : IntKind.wrap .u8 (BitVec.toNat (BitVec.ofInt (IntKind.bits .u8) ((s % 256 : Nat) : Int) ^^^ BitVec.ofInt (IntKind.bits .u8) (x : Int)) : Int) = ((Nat.xor (s % 256) x : Nat) : Int) := by
  show IntKind.wrap .u8 ((BitVec.toNat (BitVec.ofInt 8 ((s % 256 : Nat) : Int) ^^^ BitVec.ofInt 8 (x : Int)) : Nat) : Int) = _
  rw [bvXor 8 _ _ (by omega) (by simpa using hx), w8, Nat.mod_eq_of_lt (show Nat.xor (s % 256) x < 256 from x8 (by omega) hx)]
theorem wordXor {s x : Nat} (hs : s < 4294967296) (hx : x < 4294967296) : IntKind.wrap .u32 (BitVec.toNat (BitVec.ofInt (IntKind.bits .u32) (s : Int) ^^^ BitVec.ofInt (IntKind.bits .u32) (x : Int)) : Int) = ((Nat.xor s x : Nat) : Int) := by
  show IntKind.wrap .u32 ((BitVec.toNat (BitVec.ofInt 32 (s : Int) ^^^ BitVec.ofInt 32 (x : Int)) : Nat) : Int) = _
  rw [bvXor 32 _ _ (by simpa using hs) (by simpa using hx), w32, Nat.mod_eq_of_lt (show Nat.xor s x < 4294967296 from x32 hs hx)]
abbrev sumQ (t : Nat → Nat) (n : Nat) (b : Nat → Nat) (i s : Nat) : Qry := .loop 85 0 [1, 1, 0, 1, 0] [U32 s, .c (.ptr 0 0), Sl n (Bs b), I n, I i] [.box (tbC t) true]
abbrev sumA (t : Nat → Nat) (n : Nat) (b : Nat → Nat) (r : Nat) : Ans := ⟨.exit 0, [U32 r, .c (.ptr 0 0), Sl n (Bs b), I n, I n], [.box (tbC t) true]⟩
theorem sumLoop (t : Nat → Nat) (ht : ∀ i, t i < 4294967296) (n : Nat) (hn : big n) (b : Nat → Nat) (hb : ∀ i, b i < 256) : ∀ (k i s : Nat), i + k = n → s < 4294967296 → QOk Try.prog CK (sumQ t n b i s) (sumA t n b (crun t b k i s))
  | 0, i, s, hk, hs => by
    refine tree_i hP (sumR_t t s n b i 0) ?_
    simp only [Sc.Ok]
    refine ⟨fun hq => ?_, fun hq => ?_⟩
    · simp at hq; omega
    · rw [sumA, crun, show i = n by omega]
  | k + 1, i, s, hk, hs => by
    have ih := sumLoop t ht n hn b hb k (i + 1) (cst t s (b i)) (by omega) (cst_lt ht hs _)
    refine tree_i hP (sumR_t t s n b i (crun t b k (i + 1) (cst t s (b i)))) ?_
    have hx := hb i
    have e1 : IntKind.wrap .u8 (s : Int) = ((s % 256 : Nat) : Int) := w8 s
    have e2 := byteXor (s := s) hx
    have e3 : Int.fdiv (s : Int) ((2 : Int) ^ min (Int.toNat (8 : Int)) (IntKind.bits IntKind.u32)) = ((s / 256 : Nat) : Int) := fdivN s 256
    have e4 : (TypeInfo.size (Tables.types (Program.toTables Try.prog))[(111 : Nat)]) = 1 := by kernel_rfl
    have l1 := x8 (a := s % 256) (by omega) hx
    have e5 := tbI_get t (Nat.xor (s % 256) (b i)) l1
    have e6 := wordXor (s := s / 256) (x := t (Nat.xor (s % 256) (b i))) (by omega) (ht _)
    have e7 : IntKind.wrap .i64 ((i : Int) + 1) = ((i + 1 : Nat) : Int) := by rw [w64 (by omega)]; omega
    simp only [Sc.Ok, Int.toNat_natCast, e1, e2, e3, e4, e7, Nat.zero_add, Nat.mul_one, e5, e6]
    refine ⟨fun _ => ⟨by omega, by simp only [xorN]; omega, by simpa [xorN] using l1, ih, ?_⟩, fun hq => ?_⟩
    · trivial
    · simp at hq; omega
theorem cSum {t : Nat → Nat} (ht : ∀ i, t i < 4294967296) {s n : Nat} {f : Nat → List PV} (hf : BOk n f) (hn : big n) (hs : s < 4294967296) : QOk Try.prog CK (.call 85 [Tb t, U32 s, Sl n f] []) ⟨.ret, [U32 (sumN (tbN (tbC t)) s n (byN f))], []⟩ := by
  refine QOk.arg (args := [Tb t, U32 s, Sl n (Bs (byN f))]) ?_ (.cons (ALe.refl _) (.cons (ALe.refl _) (.cons (ALe.sl hf) .nil)))
  rw [sumN_tb t s n _ (fun i _ => byN_lt f i)]
  have hl := sumLoop t ht n hn (byN f) (byN_lt f) n 0 (4294967295 - s) (by omega) (by omega)
  have hr := crun_lt (b := byN f) ht n 0 (4294967295 - s) (by omega)
  refine tree_i hP (sumT_t t s n (byN f) (crun t (byN f) n 0 (4294967295 - s))) ?_
  have nt : ∀ m : Nat, m < 4294967296 → IntKind.wrap IntKind.u32 (↑(BitVec.toNat (BitVec.ofInt (IntKind.bits IntKind.u32) (if IntKind.signed IntKind.u32 = true then (-1 : Int) else IntKind.max IntKind.u32) ^^^ BitVec.ofInt (IntKind.bits IntKind.u32) (↑m : Int))) : Int) = ((4294967295 - m : Nat) : Int) := fun m hm => by
    have h := wordXor (s := 4294967295) (x := m) (by omega) hm
    rw [xorN, Nat.xor_comm, nt_xor hm] at h
    exact h
  simp only [Sc.Ok, nt s hs, nt _ hr]
  exact ⟨hl, rfl⟩
/-! ### Are two rows of bytes the same? -/
abbrev eqQ (n m : Nat) (b c : Nat → Nat) (i : Nat) : Qry := .loop 88 0 [1, 1, 0, 1, 0] [Sl n (Bs b), Sl m (Bs c), B false, I n, I i] []
theorem eqLoop (n : Nat) (hn : big n) (b c : Nat → Nat) : ∀ (k i : Nat), i + k = n →
    (∃ j, (i ≤ j ∧ j < n ∧ b j ≠ c j) ∧ QOk Try.prog CK (eqQ n n b c i) ⟨.ret, [Sl n (Bs b), Sl n (Bs c), B false, I n, I j], []⟩) ∨ ((∀ j, i ≤ j → j < n → b j = c j) ∧ QOk Try.prog CK (eqQ n n b c i) ⟨.exit 0, [Sl n (Bs b), Sl n (Bs c), B false, I n, I n], []⟩)
  | 0, i, hk => by
    refine .inr ⟨fun j h1 h2 => by omega, tree_i hP (equalRe_t n n b c i) ?_⟩
    simp only [Sc.Ok]
    refine ⟨fun hq => ?_, fun hq => ?_⟩
    · simp at hq; omega
    · rw [show i = n by omega]
  | k + 1, i, hk => by
    have e7 : IntKind.wrap .i64 ((i : Int) + 1) = ((i + 1 : Nat) : Int) := by rw [w64 (by omega)]; omega
    by_cases hb : b i = c i
    · rcases eqLoop n hn b c k (i + 1) (by omega) with ⟨j, ⟨h1, h2, h3⟩, h4⟩ | ⟨h1, h2⟩
      · refine .inl ⟨j, ⟨by omega, h2, h3⟩, tree_i hP (equalRr_t n n b c i j) ?_⟩
        simp only [Sc.Ok, Int.toNat_natCast, e7, hb]
        refine ⟨fun _ => ⟨by omega, by omega, fun h => ?_, fun _ => ⟨h4, ?_⟩⟩, fun hq => ?_⟩
        · simp at h
        · trivial
        · simp at hq; omega
      · refine .inr ⟨fun j h3 h4 => ?_, tree_i hP (equalRe_t n n b c i) ?_⟩
        · by_cases hj : j = i
          · rw [hj]; exact hb
          · exact h1 j (by omega) h4
        · simp only [Sc.Ok, Int.toNat_natCast, e7, hb]
          refine ⟨fun _ => ⟨by omega, by omega, fun h => ?_, fun _ => ⟨h2, ?_⟩⟩, fun hq => ?_⟩
          · simp at h
          · trivial
          · simp at hq; omega
    · refine .inl ⟨i, ⟨Nat.le_refl _, by omega, hb⟩, tree_i hP (equalRr_t n n b c i i) ?_⟩
      simp only [Sc.Ok, Int.toNat_natCast, e7]
      refine ⟨fun _ => ⟨by omega, by omega, fun _ => ?_, fun h => ?_⟩, fun hq => ?_⟩
      · trivial
      · simp at h; omega
      · simp at hq; omega
theorem cEqual {n m : Nat} {f g : Nat → List PV} (hf : BOk n f) (hg : BOk m g) (hn : big n) : QOk Try.prog CK (.call 88 [Sl n f, Sl m g] []) ⟨.ret, [B (same n m f g)], []⟩ := by
  refine QOk.arg (args := [Sl n (Bs (byN f)), Sl m (Bs (byN g))]) ?_ (.cons (ALe.sl hf) (.cons (ALe.sl hg) .nil))
  by_cases hm : n = m
  · subst hm
    rcases eqLoop n hn (byN f) (byN g) n 0 (by omega) with ⟨j, ⟨h1, h2, h3⟩, h4⟩ | ⟨h1, h2⟩
    · refine tree_i hP (equalTr_t n n (byN f) (byN g) j) ?_
      simp only [Sc.Ok]
      refine ⟨fun h => ?_, fun _ => ⟨h4, ?_⟩⟩
      · simp at h
      · refine ar (congrArg B ?_)
        unfold same
        rw [eq_comm, decide_eq_false_iff_not]
        exact fun h => h3 (h.2 j h2)
    · refine tree_i hP (equalTe_t n n (byN f) (byN g)) ?_
      simp only [Sc.Ok]
      refine ⟨fun h => ?_, fun _ => ⟨h2, ?_⟩⟩
      · simp at h
      · refine ar (congrArg B ?_)
        unfold same
        rw [eq_comm, decide_eq_true_iff]
        exact ⟨rfl, fun i hi => h1 i (by omega) hi⟩
  · refine tree_i hP (equalTe_t n m (byN f) (byN g)) ?_
    simp only [Sc.Ok]
    refine ⟨fun h => ?_, fun h => ?_⟩
    · refine ar (congrArg B ?_)
      unfold same
      rw [eq_comm, decide_eq_false_iff_not]
      exact fun h => hm h.1
    · simp at h; omega
/-! ### Sealed, and opened -/
theorem cSeal {t : Nat → Nat} (ht : ∀ i, t i < 4294967296) {n : Nat} {f : Nat → List PV} (hf : BOk n f) (hn : big n) : QOk Try.prog CK (.call 72 [Tb t, Sl n f] []) ⟨.ret, [.c (.os 0)], [rowB (n + 4) (catF n f (fourF (sealN t n f)))]⟩ := by
  have hb : BOk n (Bs (byN f)) := BOk.bs n (fun i _ => byN_lt f i)
  have e0 : sumN (tbN (tbC t)) 0 n (byN (Bs (byN f))) = sealN t n f := by
    rw [sumN_tb t 0 n _ (fun i _ => byN_lt _ i)]
    exact sumN_congr rfl fun i _ => ⟨byN_Bs _ _ (byN_lt f i), byN_lt _ i⟩
  refine QOk.arg (args := [Tb t, Sl n (Bs (byN f))]) ?_ (.cons (ALe.refl _) (.cons (ALe.sl hf) .nil))
  refine QOk.row (n := n + 4) (f := catF n (Bs (byN f)) (fourF (sealN t n f))) ?_ rfl (fun i hi => ?_)
  · refine tree_i hP (sealT_t t n (byN f)) ?_
    have q1 := cClone hb hn
    have q2 := cSum ht hb hn (s := 0) (by omega)
    have q3 := cFour (sumN (tbN (tbC t)) 0 n (byN (Bs (byN f))))
    simp only [Sc.Ok, Int.toNat_natCast]
    refine ⟨q1, q2, q3, by omega, ?_⟩
    rw [← e0]; rfl
  · unfold catF
    by_cases h : i < n
    · rw [if_pos h, if_pos h]; exact (hf i h).symm
    · rw [if_neg h, if_neg h]
theorem same_congr {n m : Nat} {f g f' g' : Nat → List PV} (hf : ∀ i, i < n → byN f i = byN f' i) (hg : ∀ i, i < n → byN g i = byN g' i) : same n m f g = same n m f' g' := by
  unfold same
  rw [decide_eq_decide]
  constructor
  · rintro ⟨h1, h2⟩
    exact ⟨h1, fun i hi => by rw [← hf i hi, ← hg i hi]; exact h2 i hi⟩
  · rintro ⟨h1, h2⟩
    exact ⟨h1, fun i hi => by rw [hf i hi, hg i hi]; exact h2 i hi⟩
theorem cOpen {t : Nat → Nat} (ht : ∀ i, t i < 4294967296) {n : Nat} {f : Nat → List PV} (hf : BOk n f) (hn : big n) : QOk Try.prog CK (.call 75 [Tb t, Sl n f] []) (Sa.val (openS (tbN (tbC t)) n f)) := by
  have hq : QOk Try.prog CK (.call 75 [Tb t, Sl n (Bs (byN f))] []) (Sa.val (openS (tbN (tbC t)) n f)) := by
    by_cases h4 : n < 4
    · have e : Sa.val (openS (tbN (tbC t)) n f) = ⟨.ret, [.tup [Sl 0 (fun _ => []), I 10]], []⟩ := by
        unfold openS Sa.val
        rw [decide_eq_true h4]; rfl
      rw [e]
      refine tree_i hP (openT_t t n (byN f)) ?_
      have hw : IntKind.wrap .i64 ((n : Int) - 4) = (n : Int) - 4 := w64 (by omega)
      simp only [Sc.Ok, hw]
      refine ⟨fun _ => trivial, fun h => ?_⟩
      simp at h; omega
    · have hb : BOk (n - 4) (Bs (byN f)) := BOk.bs _ (fun i _ => byN_lt f i)
      have hc : BOk 4 (fun i => Bs (byN f) (i + (n - 4))) := BOk.bs (l := fun i => byN f (i + (n - 4))) 4 (fun i _ => byN_lt f _)
      have hw : IntKind.wrap .i64 ((n : Int) - 4) = ((n - 4 : Nat) : Int) := by rw [w64 (by omega)]; omega
      have q1 := cSum ht hb (by unfold big at *; omega) (s := 0) (by omega)
      have q2 := cFour (sumN (tbN (tbC t)) 0 (n - 4) (byN (Bs (byN f))))
      have q3 := cEqual (four_ok (sumN (tbN (tbC t)) 0 (n - 4) (byN (Bs (byN f))))) hc (by unfold big; omega)
      have q4 := cClone hb (by unfold big at *; omega)
      have e0 : same 4 4 (fourF (sumN (tbN (tbC t)) 0 (n - 4) (byN (Bs (byN f))))) (fun i => Bs (byN f) (i + (n - 4))) = same 4 4 (fourF (sealN (tbN (tbC t)) (n - 4) f)) (fun i => f (i + (n - 4))) := by
        have e1 : sumN (tbN (tbC t)) 0 (n - 4) (byN (Bs (byN f))) = sealN (tbN (tbC t)) (n - 4) f := by
          rw [sumN_tb t 0 _ _ (fun i _ => byN_lt _ i), sealN, sumN_tb t 0 _ _ (fun i _ => byN_lt _ i)]
          exact sumN_congr rfl fun i _ => ⟨byN_Bs _ _ (byN_lt f i), byN_lt _ i⟩
        rw [e1]
        exact same_congr (fun _ _ => rfl) (fun i hi => byN_Bs (fun i => byN f (i + (n - 4))) i (byN_lt _ _))
      have e : Sa.val (openS (tbN (tbC t)) n f) = bif same 4 4 (fourF (sumN (tbN (tbC t)) 0 (n - 4) (byN (Bs (byN f))))) (fun i => Bs (byN f) (i + (n - 4))) then ⟨.ret, [.tup [Sl (n - 4) f, I 0]], []⟩ else ⟨.ret, [.tup [Sl 0 (fun _ => []), I 12]], []⟩ := by
        rw [e0]; unfold openS Sa.val
        rw [decide_eq_false h4]; rfl
      rw [e]
      have hn4 : n - (n - 4) = 4 := by omega
      cases hs : same 4 4 (fourF (sumN (tbN (tbC t)) 0 (n - 4) (byN (Bs (byN f))))) (fun i => Bs (byN f) (i + (n - 4))) with
      | true =>
        refine QOk.weak (a := ⟨.ret, [.tup [Sl (n - 4) (Bs (byN f)), I 0]], []⟩) ?_ (Weak.mkh (.cons (ALe.tups (.cons (ALe.sl fun i hi => (hf i (by omega)).symm) (.cons (ALe.refl _) .nil))) .nil) .nil)
        refine tree_i hP (openT_t t n (byN f)) ?_
        simp only [Sc.Ok, hw, Int.toNat_natCast, Nat.sub_zero, Nat.add_zero, Int.toNat_zero, hn4]
        refine ⟨fun h => ?_, fun _ => ⟨by omega, q1, q2, by omega, q3, fun h => ?_, fun _ => ⟨by omega, q4, ?_⟩⟩⟩
        · simp at h; omega
        · rw [show (same 4 4 _ _) = true from hs] at h; simp at h
        · trivial
      | false =>
        refine tree_i hP (openT_t t n (byN f)) ?_
        simp only [Sc.Ok, hw, Int.toNat_natCast, Nat.sub_zero, Nat.add_zero, Int.toNat_zero, hn4]
        refine ⟨fun h => ?_, fun _ => ⟨by omega, q1, q2, by omega, q3, fun h => ?_, fun h => ?_⟩⟩
        · simp at h; omega
        · trivial
        · rw [show (same 4 4 _ _) = false from hs] at h; simp at h
  exact QOk.arg hq (.cons (ALe.refl _) (.cons (ALe.sl hf) .nil))
/-! ### The document's own -/
theorem cStep {m : Nat} (hm : m < 4294967296) : QOk Try.prog CK (.call 94 [U32 m] []) ⟨.ret, [U32 (stp m)], []⟩ := by
  refine tree_i hP (stepT_t m) ?_
  have e1 : Int.tmod (m : Int) (2 : Int) = ((m % 2 : Nat) : Int) := tmodN m 2
  have e2 : Int.tdiv (m : Int) (2 : Int) = ((m / 2 : Nat) : Int) := tdivN m 2
  have e3 : IntKind.wrap .u32 ((m / 2 : Nat) : Int) = ((m / 2 : Nat) : Int) := by rw [w32, Nat.mod_eq_of_lt (by omega)]
  have e4 := wordXor (s := m / 2) (x := 3988292384) (by omega) (by omega)
  simp only [Sc.Ok, e1, e2, e3]
  refine ⟨fun h => ?_, fun h => ?_⟩
  · have h1 : m % 2 = 1 := by simp at h; omega
    refine ar ?_
    unfold stp
    rw [if_pos h1]
    exact congrArg (fun x => U32 x) e4
  · have h1 : ¬ m % 2 = 1 := by simp at h; omega
    refine ar ?_
    unfold stp
    rw [if_neg h1]
abbrev plQ (n : Nat) (b : Nat → Nat) (i s : Nat) : Qry := .loop 87 0 [1, 1, 0, 1, 0] [Sl n (Bs b), U32 s, I i] []
theorem plLoop (n : Nat) (hn : big n) (b : Nat → Nat) (hb : ∀ i, b i < 256) : ∀ (k i s : Nat), i + k = n → s < 4294967296 → QOk Try.prog CK (plQ n b i s) ⟨.exit 0, [Sl n (Bs b), U32 (prun b k i s), I n], []⟩
  | 0, i, s, hk, hs => by
    refine tree_i hP (plainR_t n b s i (prun b 0 i s)) ?_
    simp only [Sc.Ok]
    refine ⟨fun hq => ?_, fun hq => ?_⟩
    · simp at hq; omega
    · rw [prun, show i = n by omega]
  | k + 1, i, s, hk, hs => by
    have hx := hb i
    have l0 : Nat.xor s (b i) < 4294967296 := x32 hs (by omega)
    have ih := plLoop n hn b hb k (i + 1) (stp8 (Nat.xor s (b i))) (by omega) (stp8_lt l0)
    refine tree_i hP (plainR_t n b s i (prun b k (i + 1) (stp8 (Nat.xor s (b i))))) ?_
    have e1 : IntKind.wrap .u32 (b i : Int) = (b i : Int) := by rw [w32, Nat.mod_eq_of_lt (by omega)]
    have e6 := wordXor (s := s) (x := b i) hs (by omega)
    have e7 : IntKind.wrap .i64 ((i : Int) + 1) = ((i + 1 : Nat) : Int) := by rw [w64 (by omega)]; omega
    have l1 := stp_lt l0; have l2 := stp_lt l1; have l3 := stp_lt l2; have l4 := stp_lt l3; have l5 := stp_lt l4; have l6 := stp_lt l5; have l7 := stp_lt l6
    simp only [Sc.Ok, Int.toNat_natCast, e1, e6, e7]
    refine ⟨fun _ => ⟨by omega, cStep l0, cStep l1, cStep l2, cStep l3, cStep l4, cStep l5, cStep l6, cStep l7, ih, ?_⟩, fun hq => ?_⟩
    · trivial
    · simp at hq; omega
theorem cPlain {n : Nat} {f : Nat → List PV} (hf : BOk n f) (hn : big n) : QOk Try.prog CK (.call 87 [Sl n f] []) ⟨.ret, [U32 (plainN n (byN f))], []⟩ := by
  refine QOk.arg (args := [Sl n (Bs (byN f))]) ?_ (.cons (ALe.sl hf) .nil)
  have hl := plLoop n hn (byN f) (byN_lt f) n 0 4294967295 (by omega) (by omega)
  have hr := prun_lt (byN_lt f) n 0 4294967295 (by omega)
  refine tree_i hP (plainT_t n (byN f) (prun (byN f) n 0 4294967295)) ?_
  have e := wordXor (x := 4294967295) hr (by omega)
  rw [xorN, nt_xor hr] at e
  simp only [Sc.Ok]
  refine ⟨hl, ar ?_⟩
  exact congrArg (fun x => U32 x) e
theorem weakSlice {n m : Nat} {f g : Nat → List PV} (hn : n = m) (h : ∀ i, i < n → f i = g i) : Weak ⟨.ret, [Sl n f], []⟩ ⟨.ret, [Sl m g], []⟩ := by
  subst hn
  exact Weak.mkh (.cons (ALe.sl h) .nil) .nil
theorem cTail {n s : Nat} {f : Nat → List PV} (hf : BOk n f) (hn : big n) (hs : s < 4294967296) : QOk Try.prog CK (.call 86 [Sl n f, U32 s] []) ⟨.ret, [Sl (n + 4) (catF n f (fourF s))], []⟩ := by
  refine QOk.arg (args := [Sl n (Bs (byN f)), U32 s]) ?_ (.cons (ALe.sl hf) (.cons (ALe.refl _) .nil))
  refine QOk.slice (n := n + 4) (f := fun i => if i < n then Bs (byN f) i else [.v (.int .u8 ((s / 256 ^ (i - n) % 256 : Nat) : Int))]) ?_ rfl (fun i hi => ?_)
  · refine tree_w hP (tailT_t n s (byN f)) ?_
    simp only [Sc.Ok]
    refine ⟨by omega, by omega, by omega, by omega, by omega, weakSlice (by omega) fun i hi => ?_⟩
    · have d1 : Int.tdiv (s : Int) (256 : Int) = ((s / 256 : Nat) : Int) := tdivN s 256
      have d2 : Int.tdiv ((s / 256 : Nat) : Int) (256 : Int) = ((s / 256 / 256 : Nat) : Int) := tdivN _ 256
      have d3 : Int.tdiv ((s / 256 / 256 : Nat) : Int) (256 : Int) = ((s / 256 / 256 / 256 : Nat) : Int) := tdivN _ 256
      have m0 : Int.tmod (s : Int) (256 : Int) = ((s % 256 : Nat) : Int) := tmodN s 256
      have m1 : Int.tmod ((s / 256 : Nat) : Int) (256 : Int) = ((s / 256 % 256 : Nat) : Int) := tmodN _ 256
      have m2 : Int.tmod ((s / 256 / 256 : Nat) : Int) (256 : Int) = ((s / 256 / 256 % 256 : Nat) : Int) := tmodN _ 256
      have m3 : Int.tmod ((s / 256 / 256 / 256 : Nat) : Int) (256 : Int) = ((s / 256 / 256 / 256 % 256 : Nat) : Int) := tmodN _ 256
      have w1 : ∀ k : Nat, k < 4294967296 → IntKind.wrap .u32 (k : Int) = (k : Int) := fun k hk => by rw [w32, Nat.mod_eq_of_lt hk]
      have w0 : ∀ k : Nat, k < 256 → IntKind.wrap .u8 (k : Int) = (k : Int) := fun k hk => by rw [w8, Nat.mod_eq_of_lt hk]
      simp only [d1, m0, w1 (s / 256) (by omega), d2, m1, w1 (s / 256 / 256) (by omega), d3, m2, w1 (s / 256 / 256 / 256) (by omega), m3, w0 (s % 256) (by omega), w0 (s / 256 % 256) (by omega), w0 (s / 256 / 256 % 256) (by omega), w0 (s / 256 / 256 / 256 % 256) (by omega)]
      unfold catF litF
      by_cases h0 : i < n
      · simp [h0, show i < n + 1 by omega, show i < n + 1 + 1 by omega, show i < n + 1 + 1 + 1 by omega]
      · obtain ⟨j, hj, rfl⟩ : ∃ j, j < 4 ∧ i = n + j := ⟨i - n, by omega, by omega⟩
        match j, hj with
        | 0, _ => simp [show n < n + 1 + 1 by omega, show n < n + 1 + 1 + 1 by omega]
        | 1, _ => simp [show ¬ n + 1 < n by omega, show n + 1 < n + 1 + 1 by omega, show n + 1 < n + 1 + 1 + 1 by omega]
        | 2, _ =>
          simp [show ¬ n + 2 < n by omega, show ¬ n + 2 < n + 1 by omega, show ¬ n + 2 < n + 1 + 1 by omega, show n + 2 < n + 1 + 1 + 1 by omega, show n + 2 - (n + 1 + 1) = 0 by omega]
          omega
        | 3, _ =>
          simp [show ¬ n + 3 < n by omega, show ¬ n + 3 < n + 1 by omega, show ¬ n + 3 < n + 1 + 1 by omega, show ¬ n + 3 < n + 1 + 1 + 1 by omega, show n + 3 - (n + 1 + 1 + 1) = 0 by omega]
          omega
  · unfold catF
    by_cases h : i < n
    · simp only [if_pos h]; exact (hf i h).symm
    · simp only [if_neg h]
      rw [four_ok s (i - n) (by omega)]
      show _ = [_]
      rw [byN_four _ _ (by omega)]
theorem cRSeal {n : Nat} {f : Nat → List PV} (hf : BOk n f) (hn : big n) : QOk Try.prog CK (.call 74 [Sl n f] []) ⟨.ret, [Sl (n + 4) (catF n f (fourF (plainN n (byN f))))], []⟩ := by
  have hb : BOk n (Bs (byN f)) := BOk.bs n (fun i _ => byN_lt f i)
  have e : byN (Bs (byN f)) = byN f := funext fun i => byN_Bs _ _ (byN_lt f i)
  refine QOk.arg (args := [Sl n (Bs (byN f))]) ?_ (.cons (ALe.sl hf) .nil)
  refine QOk.slice (n := n + 4) (f := catF n (Bs (byN f)) (fourF (plainN n (byN (Bs (byN f)))))) ?_ rfl (fun i hi => ?_)
  · refine tree_i hP (rsealT_t n (byN f)) ?_
    simp only [Sc.Ok, Int.toNat_natCast]
    exact ⟨cPlain hb hn, cTail hb hn (plainN_lt _ _), rfl⟩
  · rw [e]; unfold catF
    by_cases h : i < n
    · rw [if_pos h, if_pos h]; exact (hf i h).symm
    · rw [if_neg h, if_neg h]
end Crc
end Go.Fx
