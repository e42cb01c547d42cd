/- Sums of bytes: the laws. -/
import Derived.Test.YtaodejfbmnoelaaCrcW
import Derived.Test.YtaodejfbmnoelaaCrcV
import Derived.Test.YtaodejfbmnoelaaCrcU
set_option maxRecDepth 100000
set_option maxHeartbeats 4000000
set_option linter.unusedVariables false
set_option linter.unusedSimpArgs false
namespace Go.Fx
open Go.Proofs
namespace Crc
/-- Is it sealed, by the table? -/
def opensN (n : Nat) (g : Nat → List PV) : Bool := decide (4 ≤ n) && same 4 4 (fourF (plainN (n - 4) (byN g))) (fun i => g (i + (n - 4)))
abbrev tabC : List CV := tbC stp8
/-- What the law's own functions answer. -/
def lawS (aw : Nat) : Qry → Option Sa := fun q => match q with
  | .call f args _ => match Nat.beq f aw with
    | true => rV (B true)
    | false => match args with
      | [.agg cs, y, x] => match Nat.beq f 42, u32 y, slOf x with
        | true, some s, some (n, g) => rV (U32 (sumN (tbN cs) s n (byN g)))
        | _, _, _ => crcS f args
      | [x] => match Nat.beq f 49, slOf x with
        | true, some (n, g) => rV (B (opensN n g))
        | _, _ => crcS f args
      | _ => crcS f args
  | .loop _ _ _ _ _ => none
abbrev by4 (a b c d : Nat) : List CV := [.p (.v (.int .u8 a)), .p (.v (.int .u8 b)), .p (.v (.int .u8 c)), .p (.v (.int .u8 d))]
abbrev By4 (a b c d : Nat) : AV := .agg (by4 a b c d)
def lawL (f0 : Nat) (a : List AV → Hp → Option Sa) (S : Qry → Option Sa) : Qry → Option Sa := fun q => match q with
  | .loop f _ _ vals h => match Nat.beq f f0 with
    | true => a vals h
    | false => none
  | q => S q

attribute [local irreducible] QOk
theorem rsumT_t (t : Nat → Nat)  (s n : Nat)  (b : Nat → Nat)  (r : Nat)  : fol CK Try.prog (SL 42 fun vals h => match vals with | [x, y, _, _] => some (.one ⟨.exit 0, [x, y, U32 r, I n], h⟩) | _ => none) (An.a An.e) (T.evQ CK Try.prog (.call 42 [Tb t, U32 s, Sl n (Bs b)] []) .done) = Sc.ask (Qry.loop (42 : Nat) (0 : Nat) [(1 : Nat), (1 : Nat), (0 : Nat), (1 : Nat), (0 : Nat)] [AV.c (CV.p (PV.sl n fun i => [PV.v (Value.int IntKind.u8 (↑(b i) : Int))])), AV.c (CV.ptr (0 : Nat) (0 : Nat)), AV.c (CV.p (PV.v (Value.int IntKind.u32 (IntKind.wrap IntKind.u32 (↑(BitVec.toNat (BitVec.ofInt (IntKind.bits IntKind.u32) (↑s : Int) ^^^ BitVec.ofInt (IntKind.bits IntKind.u32) (4294967295 : Int))) : Int))))), AV.c (CV.p (PV.v (Value.int IntKind.i64 (0 : Int))))] [Ob.box (tbC t) true]) (Ans.mk (Ex.exit (0 : Nat)) [AV.c (CV.p (PV.sl n fun i => [PV.v (Value.int IntKind.u8 (↑(b i) : Int))])), AV.c (CV.ptr (0 : Nat) (0 : Nat)), AV.c (CV.p (PV.v (Value.int IntKind.u32 (↑r : Int)))), AV.c (CV.p (PV.v (Value.int IntKind.i64 (↑n : Int))))] [Ob.box (tbC t) true]) (Sc.done (Ans.mk Ex.ret [AV.c (CV.p (PV.v (Value.int IntKind.u32 (IntKind.wrap IntKind.u32 (↑(BitVec.toNat (BitVec.ofInt (IntKind.bits IntKind.u32) (↑r : Int) ^^^ BitVec.ofInt (IntKind.bits IntKind.u32) (4294967295 : Int))) : Int)))))] [])) := by kernel_rfl
theorem rsumR_t (t : Nat → Nat)  (s n : Nat)  (b : Nat → Nat)  (i : Nat)  (r : Nat)  : fol CK Try.prog (SL 42 fun vals h => match vals with | [x, y, _, _] => some (.one ⟨.exit 0, [x, y, U32 r, I n], h⟩) | _ => none) (An.b (An.d (An.c (An.c (An.c (An.d (An.a An.e)))))) An.e) (T.evQ CK Try.prog (.loop 42 0 [1, 1, 0, 1, 0] [Sl n (Bs b), .c (.ptr 0 0), U32 s, I i] [.box (tbC t) true]) .done) = Sc.br (decide ((↑i : Int) < (↑n : Int))) (Sc.chk ((0 : Int) ≤ (↑i : Int) ∧ (↑i : Int) < (↑n : Int)) (Sc.chk ((0 : Int) ≤ IntKind.wrap IntKind.u8 (↑(BitVec.toNat (BitVec.ofInt (IntKind.bits IntKind.u8) (IntKind.wrap IntKind.u8 (Int.tmod (↑s : Int) (256 : Int))) ^^^ BitVec.ofInt (IntKind.bits IntKind.u8) (↑(b (Int.toNat (↑i : Int))) : Int))) : Int) ∧ IntKind.wrap IntKind.u8 (↑(BitVec.toNat (BitVec.ofInt (IntKind.bits IntKind.u8) (IntKind.wrap IntKind.u8 (Int.tmod (↑s : Int) (256 : Int))) ^^^ BitVec.ofInt (IntKind.bits IntKind.u8) (↑(b (Int.toNat (↑i : Int))) : Int))) : Int) < (256 : Int)) (Sc.chk ((0 : Nat) + Int.toNat (IntKind.wrap IntKind.u8 (↑(BitVec.toNat (BitVec.ofInt (IntKind.bits IntKind.u8) (IntKind.wrap IntKind.u8 (Int.tmod (↑s : Int) (256 : Int))) ^^^ BitVec.ofInt (IntKind.bits IntKind.u8) (↑(b (Int.toNat (↑i : Int))) : Int))) : Int)) * (1 : Nat) < (256 : Nat)) (Sc.ask (Qry.loop (42 : Nat) (0 : Nat) [(1 : Nat), (1 : Nat), (0 : Nat), (1 : Nat), (0 : Nat)] [AV.c (CV.p (PV.sl n fun i => [PV.v (Value.int IntKind.u8 (↑(b i) : Int))])), AV.c (CV.ptr (0 : Nat) (0 : Nat)), AV.c (CV.p (PV.v (Value.int IntKind.u32 (IntKind.wrap IntKind.u32 (↑(BitVec.toNat (BitVec.ofInt (IntKind.bits IntKind.u32) (List.getD (tbI t) ((0 : Nat) + Int.toNat (IntKind.wrap IntKind.u8 (↑(BitVec.toNat (BitVec.ofInt (IntKind.bits IntKind.u8) (IntKind.wrap IntKind.u8 (Int.tmod (↑s : Int) (256 : Int))) ^^^ BitVec.ofInt (IntKind.bits IntKind.u8) (↑(b (Int.toNat (↑i : Int))) : Int))) : Int)) * TypeInfo.size (Tables.types (Program.toTables Try.prog))[(43 : Nat)]) (0 : Int)) ^^^ BitVec.ofInt (IntKind.bits IntKind.u32) (IntKind.wrap IntKind.u32 (Int.tdiv (↑s : Int) (256 : Int))))) : Int))))), AV.c (CV.p (PV.v (Value.int IntKind.i64 (IntKind.wrap IntKind.i64 ((↑i : Int) + (1 : Int))))))] [Ob.box (tbC t) true]) (Ans.mk (Ex.exit (0 : Nat)) [AV.c (CV.p (PV.sl n fun i => [PV.v (Value.int IntKind.u8 (↑(b i) : Int))])), AV.c (CV.ptr (0 : Nat) (0 : Nat)), AV.c (CV.p (PV.v (Value.int IntKind.u32 (↑r : Int)))), AV.c (CV.p (PV.v (Value.int IntKind.i64 (↑n : Int))))] [Ob.box (tbC t) true]) (Sc.done (Ans.mk (Ex.exit (0 : Nat)) [AV.c (CV.p (PV.sl n fun i => [PV.v (Value.int IntKind.u8 (↑(b i) : Int))])), AV.c (CV.ptr (0 : Nat) (0 : Nat)), AV.c (CV.p (PV.v (Value.int IntKind.u32 (↑r : Int)))), AV.c (CV.p (PV.v (Value.int IntKind.i64 (↑n : Int))))] [Ob.box (tbC t) true])))))) (Sc.done (Ans.mk (Ex.exit (0 : Nat)) [AV.c (CV.p (PV.sl n fun i => [PV.v (Value.int IntKind.u8 (↑(b i) : Int))])), AV.c (CV.ptr (0 : Nat) (0 : Nat)), AV.c (CV.p (PV.v (Value.int IntKind.u32 (↑s : Int)))), AV.c (CV.p (PV.v (Value.int IntKind.i64 (↑i : Int))))] [Ob.box (tbC t) true])) := by kernel_rfl
theorem opensT_t (n : Nat)  (b : Nat → Nat)  : fol CK Try.prog crcC (An.b (An.l (An.l (An.l (An.l (An.c (An.l (An.a (An.l (An.c (An.l (An.l (An.c (An.l (An.l An.e)))))))))))))) (An.l (An.l (An.l (An.l (An.l (An.l (An.l (An.l (An.l (An.l An.e))))))))))) (T.evQ CK Try.prog (.call 49 [Sl n (Bs b)] []) .done) = Sc.br (decide ((↑n : Int) ≥ (4 : Int))) (Sc.chk ((0 : Int) ≤ (0 : Int) ∧ (0 : Int) ≤ IntKind.wrap IntKind.i64 ((↑n : Int) - (4 : Int)) ∧ IntKind.wrap IntKind.i64 ((↑n : Int) - (4 : Int)) ≤ (↑n : Int)) (Sc.ask (Qry.call (58 : Nat) [AV.c (CV.p (PV.sl (Int.toNat (IntKind.wrap IntKind.i64 ((↑n : Int) - (4 : Int))) - (0 : Nat)) fun i => [PV.v (Value.int IntKind.u8 (↑(b (i + Int.toNat (0 : Int))) : Int))]))] []) (Ans.mk Ex.ret [AV.c (CV.p (PV.sl (Int.toNat (IntKind.wrap IntKind.i64 ((↑n : Int) - (4 : Int))) - (0 : Nat) + (4 : Nat)) fun i => if i < Int.toNat (IntKind.wrap IntKind.i64 ((↑n : Int) - (4 : Int))) - (0 : Nat) then [PV.v (Value.int IntKind.u8 (↑(b (i + Int.toNat (0 : Int))) : Int))] else fourF (plainN (Int.toNat (IntKind.wrap IntKind.i64 ((↑n : Int) - (4 : Int))) - (0 : Nat)) (byN fun i => Bs b (i + Int.toNat (0 : Int)))) (i - (Int.toNat (IntKind.wrap IntKind.i64 ((↑n : Int) - (4 : Int))) - (0 : Nat)))))] []) (Sc.chk (bytesOk (Int.toNat (IntKind.wrap IntKind.i64 ((↑n : Int) - (4 : Int))) - (0 : Nat) + (4 : Nat)) (catF (Int.toNat (IntKind.wrap IntKind.i64 ((↑n : Int) - (4 : Int))) - Int.toNat (0 : Int)) (fun i => Bs b (i + Int.toNat (0 : Int))) (fourF (plainN (Int.toNat (IntKind.wrap IntKind.i64 ((↑n : Int) - (4 : Int))) - Int.toNat (0 : Int)) (byN fun i => Bs b (i + Int.toNat (0 : Int)))))) = true) (Sc.chk (bytesOk n (Bs b) = true) (Sc.done (Ans.mk Ex.ret [AV.c (CV.p (PV.v (Value.bool (ByteArray.toList (textOf (Int.toNat (IntKind.wrap IntKind.i64 ((↑n : Int) - (4 : Int))) - Int.toNat (0 : Int) + (4 : Nat)) (catF (Int.toNat (IntKind.wrap IntKind.i64 ((↑n : Int) - (4 : Int))) - Int.toNat (0 : Int)) (fun i => Bs b (i + Int.toNat (0 : Int))) (fourF (plainN (Int.toNat (IntKind.wrap IntKind.i64 ((↑n : Int) - (4 : Int))) - Int.toNat (0 : Int)) (byN fun i => Bs b (i + Int.toNat (0 : Int))))))) == ByteArray.toList (textOf n (Bs b))))))] [])))))) (Sc.done (Ans.mk Ex.ret [AV.c (CV.p (PV.v (Value.bool false)))] [])) := by kernel_rfl
theorem law11_t (t : Nat → Nat)  (s n : Nat)  (b : Nat → Nat)  : fol CK Try.prog (lawS 41) (An.a (An.l (An.b An.e (An.d (An.a (An.d (An.a (An.d (An.a (An.b (An.l (An.l (An.l (An.l (An.l (An.l (An.l (An.l (An.l (An.l An.e)))))))))) (An.d (An.l (An.l (An.a (An.l (An.c (An.l (An.l (An.l (An.a (An.l (An.c (An.l (An.l (An.b An.e (An.a (An.d (An.d (An.a (An.a (An.b An.e (An.d (An.a (An.b (An.b (An.l (An.l (An.l (An.l An.e)))) (An.a (An.b (An.l (An.l (An.l (An.l An.e)))) (An.l (An.l (An.l (An.l (An.l (An.l (An.l (An.l (An.l (An.l An.e))))))))))))) (An.b (An.b (An.l (An.l (An.l (An.l An.e)))) (An.a (An.b (An.l (An.l (An.l (An.l An.e)))) (An.l (An.l (An.c (An.l (An.l (An.l (An.l (An.l (An.c (An.l (An.c (An.l (An.l An.e)))))))))))))))) (An.b (An.l (An.l (An.l (An.l An.e)))) (An.a (An.b (An.l (An.l (An.l (An.l An.e)))) (An.l (An.l (An.l (An.l (An.l (An.l (An.l (An.l (An.l (An.l An.e)))))))))))))))))))))))))))))))))))))))))))))))) (T.evQ CK Try.prog (.call 11 [Tb t, U32 s, Sl n (Bs b)] []) .done) = Sc.ask (Qry.call (41 : Nat) [] []) (Ans.mk Ex.ret [AV.c (CV.p (PV.v (Value.bool true)))] []) (Sc.br (decide ((↑n : Int) > (3000 : Int))) (Sc.done (Ans.mk Ex.ret [AV.c (CV.p (PV.v (Value.bool true)))] [])) (Sc.ask (Qry.call (42 : Nat) [AV.agg (tbC t), AV.c (CV.p (PV.v (Value.int IntKind.u32 (0 : Int)))), AV.c (CV.p (PV.sl n fun i => [PV.v (Value.int IntKind.u8 (↑(b i) : Int))]))] []) (Ans.mk Ex.ret [AV.c (CV.p (PV.v (Value.int IntKind.u32 (↑(sumN (tbN (tbC t)) (0 : Nat) n (byN (Bs b))) : Int))))] []) (Sc.ask (Qry.call (43 : Nat) [AV.agg (tbC t), AV.c (CV.p (PV.v (Value.int IntKind.u32 (↑s : Int)))), AV.c (CV.p (PV.sl n fun i => [PV.v (Value.int IntKind.u8 (↑(b i) : Int))]))] []) (Ans.mk Ex.ret [AV.c (CV.p (PV.v (Value.int IntKind.u32 (↑(sumN (tbN (tbC t)) (Int.toNat (↑s : Int)) n (byN (Bs b))) : Int))))] []) (Sc.ask (Qry.call (42 : Nat) [AV.agg (tbC t), AV.c (CV.p (PV.v (Value.int IntKind.u32 (↑s : Int)))), AV.c (CV.p (PV.sl n fun i => [PV.v (Value.int IntKind.u8 (↑(b i) : Int))]))] []) (Ans.mk Ex.ret [AV.c (CV.p (PV.v (Value.int IntKind.u32 (↑(sumN (tbN (tbC t)) (Int.toNat (↑s : Int)) n (byN (Bs b))) : Int))))] []) (Sc.br ((↑(sumN (tbN (tbC t)) (Int.toNat (↑s : Int)) n (byN (Bs b))) : Int) != (↑(sumN (tbN (tbC t)) (Int.toNat (↑s : Int)) n (byN (Bs b))) : Int)) (Sc.done (Ans.mk Ex.ret [AV.c (CV.p (PV.v (Value.bool false)))] [])) (Sc.ask (Qry.call (44 : Nat) [AV.agg (tbC t), AV.c (CV.p (PV.sl n fun i => [PV.v (Value.int IntKind.u8 (↑(b i) : Int))]))] []) (Ans.mk Ex.ret [AV.c (CV.os (0 : Nat))] [Ob.row (5 : Nat) (n + (4 : Nat)) (fun i => if i < n then [PV.v (Value.int IntKind.u8 (↑(b i) : Int))] else fourF (sealN (tbN (tbC t)) n (Bs b)) (i - n)) true]) (Sc.chk (bytesOk (n + (4 : Nat)) (catF n (Bs b) (fourF (sealN (tbN (tbC t)) n (Bs b)))) = true) (Sc.ask (Qry.call (45 : Nat) [AV.c (CV.p (PV.sl n fun i => [PV.v (Value.int IntKind.u8 (↑(b i) : Int))])), AV.c (CV.p (PV.v (Value.int IntKind.u32 (↑(sumN (tbN (tbC t)) (0 : Nat) n (byN (Bs b))) : Int))))] []) (Ans.mk Ex.ret [AV.c (CV.p (PV.sl (n + (4 : Nat)) fun i => if i < n then [PV.v (Value.int IntKind.u8 (↑(b i) : Int))] else fourF (Int.toNat (↑(sumN (tbN (tbC t)) (0 : Nat) n (byN (Bs b))) : Int)) (i - n)))] []) (Sc.chk (bytesOk (n + (4 : Nat)) (catF n (Bs b) (fourF (Int.toNat (↑(sumN (tbN (tbC t)) (Int.toNat (0 : Int)) n (byN (Bs b))) : Int)))) = true) (Sc.br (!ByteArray.toList (textOf (n + (4 : Nat)) (catF n (Bs b) (fourF (sealN (tbN (tbC t)) n (Bs b))))) == ByteArray.toList (textOf (n + (4 : Nat)) (catF n (Bs b) (fourF (Int.toNat (↑(sumN (tbN (tbC t)) (Int.toNat (0 : Int)) n (byN (Bs b))) : Int)))))) (Sc.done (Ans.mk Ex.ret [AV.c (CV.p (PV.v (Value.bool false)))] [])) (Sc.ask (Qry.call (46 : Nat) [] []) (Ans.mk Ex.ret [AV.agg tabC] []) (Sc.ask (Qry.call (43 : Nat) [AV.agg tabC, AV.c (CV.p (PV.v (Value.int IntKind.u32 (0 : Int)))), AV.c (CV.p (PV.sl n fun i => [PV.v (Value.int IntKind.u8 (↑(b i) : Int))]))] []) (Ans.mk Ex.ret [AV.c (CV.p (PV.v (Value.int IntKind.u32 (↑(sumN (tbN (tbC stp8)) (0 : Nat) n (byN (Bs b))) : Int))))] []) (Sc.ask (Qry.call (47 : Nat) [AV.c (CV.p (PV.sl n fun i => [PV.v (Value.int IntKind.u8 (↑(b i) : Int))]))] []) (Ans.mk Ex.ret [AV.c (CV.p (PV.v (Value.int IntKind.u32 (↑(plainN n (byN (Bs b))) : Int))))] []) (Sc.br ((↑(sumN (tbN (tbC stp8)) (0 : Nat) n (byN (Bs b))) : Int) != (↑(plainN n (byN (Bs b))) : Int)) (Sc.done (Ans.mk Ex.ret [AV.c (CV.p (PV.v (Value.bool false)))] [])) (Sc.ask (Qry.call (48 : Nat) [AV.agg tabC, AV.c (CV.p (PV.sl n fun i => [PV.v (Value.int IntKind.u8 (↑(b i) : Int))]))] []) (bif decide (n < (4 : Nat)) then Ans.mk Ex.ret [AV.tup [AV.c (CV.p (PV.sl (0 : Nat) fun x => [])), AV.c (CV.p (PV.v (Value.int IntKind.i64 (10 : Int))))]] [] else bif same (4 : Nat) (4 : Nat) (fourF (sealN (tbN (tbC stp8)) (n - (4 : Nat)) (Bs b))) fun i => Bs b (i + (n - (4 : Nat))) then Ans.mk Ex.ret [AV.tup [AV.c (CV.p (PV.sl (n - (4 : Nat)) fun i => [PV.v (Value.int IntKind.u8 (↑(b i) : Int))])), AV.c (CV.p (PV.v (Value.int IntKind.i64 (0 : Int))))]] [] else Ans.mk Ex.ret [AV.tup [AV.c (CV.p (PV.sl (0 : Nat) fun x => [])), AV.c (CV.p (PV.v (Value.int IntKind.i64 (12 : Int))))]] []) (Sc.br (decide (n < (4 : Nat))) (Sc.br (decide ((↑n : Int) < (4 : Int))) (Sc.done (Ans.mk Ex.ret [AV.c (CV.p (PV.v (Value.bool true)))] [])) (Sc.ask (Qry.call (49 : Nat) [AV.c (CV.p (PV.sl n fun i => [PV.v (Value.int IntKind.u8 (↑(b i) : Int))]))] []) (Ans.mk Ex.ret [AV.c (CV.p (PV.v (Value.bool (opensN n (Bs b)))))] []) (Sc.br (!opensN n (Bs b)) (Sc.done (Ans.mk Ex.ret [AV.c (CV.p (PV.v (Value.bool false)))] [])) (Sc.done (Ans.mk Ex.ret [AV.c (CV.p (PV.v (Value.bool false)))] []))))) (Sc.br (same (4 : Nat) (4 : Nat) (fourF (sealN (tbN (tbC stp8)) (n - (4 : Nat)) (Bs b))) fun i => Bs b (i + (n - (4 : Nat)))) (Sc.br (decide ((↑n : Int) < (4 : Int))) (Sc.done (Ans.mk Ex.ret [AV.c (CV.p (PV.v (Value.bool false)))] [])) (Sc.ask (Qry.call (49 : Nat) [AV.c (CV.p (PV.sl n fun i => [PV.v (Value.int IntKind.u8 (↑(b i) : Int))]))] []) (Ans.mk Ex.ret [AV.c (CV.p (PV.v (Value.bool (opensN n (Bs b)))))] []) (Sc.br (!opensN n (Bs b)) (Sc.done (Ans.mk Ex.ret [AV.c (CV.p (PV.v (Value.bool false)))] [])) (Sc.chk (bytesOk (n - (4 : Nat)) (Bs b) = true) (Sc.chk ((0 : Int) ≤ (0 : Int) ∧ (0 : Int) ≤ IntKind.wrap IntKind.i64 ((↑n : Int) - (4 : Int)) ∧ IntKind.wrap IntKind.i64 ((↑n : Int) - (4 : Int)) ≤ (↑n : Int)) (Sc.chk ((bytesOk (Int.toNat (IntKind.wrap IntKind.i64 ((↑n : Int) - (4 : Int))) - (0 : Nat)) fun i => Bs b (i + (0 : Nat))) = true) (Sc.done (Ans.mk Ex.ret [AV.c (CV.p (PV.v (Value.bool (ByteArray.toList (textOf (n - (4 : Nat)) (Bs b)) == ByteArray.toList (textOf (Int.toNat (IntKind.wrap IntKind.i64 ((↑n : Int) - (4 : Int))) - Int.toNat (0 : Int)) fun i => Bs b (i + Int.toNat (0 : Int)))))))] [])))))))) (Sc.br (decide ((↑n : Int) < (4 : Int))) (Sc.done (Ans.mk Ex.ret [AV.c (CV.p (PV.v (Value.bool false)))] [])) (Sc.ask (Qry.call (49 : Nat) [AV.c (CV.p (PV.sl n fun i => [PV.v (Value.int IntKind.u8 (↑(b i) : Int))]))] []) (Ans.mk Ex.ret [AV.c (CV.p (PV.v (Value.bool (opensN n (Bs b)))))] []) (Sc.br (!opensN n (Bs b)) (Sc.done (Ans.mk Ex.ret [AV.c (CV.p (PV.v (Value.bool true)))] [])) (Sc.done (Ans.mk Ex.ret [AV.c (CV.p (PV.v (Value.bool false)))] [])))))))))))))))))))))) := by kernel_rfl
theorem law13_t (t : Nat → Nat)  (s u n : Nat)  (b : Nat → Nat)  (c : Nat)  : fol CK Try.prog (lawS 41) (An.a (An.l (An.b An.e (An.d (An.d (An.a (An.a (An.l (An.b (An.l (An.l (An.c (An.l (An.l (An.c (An.l (An.l (An.b An.e (An.c (An.d (An.a (An.d (An.d (An.c (An.a (An.c (An.a (An.b (An.l (An.l (An.l (An.l (An.l (An.l An.e)))))) (An.d (An.l (An.l (An.a (An.l (An.l (An.l (An.b An.e (An.a (An.d (An.d (An.a (An.d (An.a An.e))))))))))))))))))))))))))))))))) (An.l (An.l (An.l (An.l (An.l (An.l (An.l An.e)))))))))))))))) (T.evQ CK Try.prog (.call 13 [Tb t, U32 s, U32 u, Sl n (Bs b), U16 c] []) .done) = Sc.ask (Qry.call (41 : Nat) [] []) (Ans.mk Ex.ret [AV.c (CV.p (PV.v (Value.bool true)))] []) (Sc.br (decide ((↑n : Int) > (3000 : Int))) (Sc.done (Ans.mk Ex.ret [AV.c (CV.p (PV.v (Value.bool true)))] [])) (Sc.ask (Qry.call (44 : Nat) [AV.agg (tbC t), AV.c (CV.p (PV.sl n fun i => [PV.v (Value.int IntKind.u8 (↑(b i) : Int))]))] []) (Ans.mk Ex.ret [AV.c (CV.os (0 : Nat))] [Ob.row (5 : Nat) (n + (4 : Nat)) (fun i => if i < n then [PV.v (Value.int IntKind.u8 (↑(b i) : Int))] else fourF (sealN (tbN (tbC t)) n (Bs b)) (i - n)) true]) (Sc.ask (Qry.call (48 : Nat) [AV.agg (tbC t), AV.c (CV.p (PV.sl (n + (4 : Nat)) fun i => if i < n then [PV.v (Value.int IntKind.u8 (↑(b i) : Int))] else fourF (sealN (tbN (tbC t)) n (Bs b)) (i - n)))] []) (bif same (4 : Nat) (4 : Nat) (fourF (sealN (tbN (tbC t)) (n + (4 : Nat) - (4 : Nat)) (catF n (Bs b) (fourF (sealN (tbN (tbC t)) n (Bs b)))))) fun i => catF n (Bs b) (fourF (sealN (tbN (tbC t)) n (Bs b))) (i + (n + (4 : Nat) - (4 : Nat))) then Ans.mk Ex.ret [AV.tup [AV.c (CV.p (PV.sl (n + (4 : Nat) - (4 : Nat)) fun i => if i < n then [PV.v (Value.int IntKind.u8 (↑(b i) : Int))] else fourF (sealN (tbN (tbC t)) n (Bs b)) (i - n))), AV.c (CV.p (PV.v (Value.int IntKind.i64 (0 : Int))))]] [] else Ans.mk Ex.ret [AV.tup [AV.c (CV.p (PV.sl (0 : Nat) fun x => [])), AV.c (CV.p (PV.v (Value.int IntKind.i64 (12 : Int))))]] []) (Sc.br (same (4 : Nat) (4 : Nat) (fourF (sealN (tbN (tbC t)) (n + (4 : Nat) - (4 : Nat)) (catF n (Bs b) (fourF (sealN (tbN (tbC t)) n (Bs b)))))) fun i => catF n (Bs b) (fourF (sealN (tbN (tbC t)) n (Bs b))) (i + (n + (4 : Nat) - (4 : Nat)))) (Sc.chk (bytesOk (n + (4 : Nat) - (4 : Nat)) (catF n (Bs b) (fourF (sealN (tbN (tbC t)) n (Bs b)))) = true) (Sc.chk (bytesOk n (Bs b) = true) (Sc.br (!ByteArray.toList (textOf (n + (4 : Nat) - (4 : Nat)) (catF n (Bs b) (fourF (sealN (tbN (tbC t)) n (Bs b))))) == ByteArray.toList (textOf n (Bs b))) (Sc.done (Ans.mk Ex.ret [AV.c (CV.p (PV.v (Value.bool false)))] [])) (Sc.chk (IntKind.wrap IntKind.i64 ((↑n : Int) + (1 : Int)) ≠ (0 : Int)) (Sc.ask (Qry.call (43 : Nat) [AV.agg (tbC t), AV.c (CV.p (PV.v (Value.int IntKind.u32 (↑s : Int)))), AV.c (CV.p (PV.sl n fun i => [PV.v (Value.int IntKind.u8 (↑(b i) : Int))]))] []) (Ans.mk Ex.ret [AV.c (CV.p (PV.v (Value.int IntKind.u32 (↑(sumN (tbN (tbC t)) (Int.toNat (↑s : Int)) n (byN (Bs b))) : Int))))] []) (Sc.chk ((0 : Int) ≤ (0 : Int) ∧ (0 : Int) ≤ Int.tmod (IntKind.wrap IntKind.i64 (↑c : Int)) (IntKind.wrap IntKind.i64 ((↑n : Int) + (1 : Int))) ∧ Int.tmod (IntKind.wrap IntKind.i64 (↑c : Int)) (IntKind.wrap IntKind.i64 ((↑n : Int) + (1 : Int))) ≤ (↑n : Int)) (Sc.ask (Qry.call (43 : Nat) [AV.agg (tbC t), AV.c (CV.p (PV.v (Value.int IntKind.u32 (↑s : Int)))), AV.c (CV.p (PV.sl (Int.toNat (Int.tmod (IntKind.wrap IntKind.i64 (↑c : Int)) (IntKind.wrap IntKind.i64 ((↑n : Int) + (1 : Int)))) - (0 : Nat)) fun i => [PV.v (Value.int IntKind.u8 (↑(b (i + Int.toNat (0 : Int))) : Int))]))] []) (Ans.mk Ex.ret [AV.c (CV.p (PV.v (Value.int IntKind.u32 (↑(sumN (tbN (tbC t)) (Int.toNat (↑s : Int)) (Int.toNat (Int.tmod (IntKind.wrap IntKind.i64 (↑c : Int)) (IntKind.wrap IntKind.i64 ((↑n : Int) + (1 : Int)))) - (0 : Nat)) (byN fun i => Bs b (i + Int.toNat (0 : Int)))) : Int))))] []) (Sc.chk ((0 : Int) ≤ Int.tmod (IntKind.wrap IntKind.i64 (↑c : Int)) (IntKind.wrap IntKind.i64 ((↑n : Int) + (1 : Int))) ∧ Int.tmod (IntKind.wrap IntKind.i64 (↑c : Int)) (IntKind.wrap IntKind.i64 ((↑n : Int) + (1 : Int))) ≤ (↑n : Int) ∧ (↑n : Int) ≤ (↑n : Int)) (Sc.ask (Qry.call (43 : Nat) [AV.agg (tbC t), AV.c (CV.p (PV.v (Value.int IntKind.u32 (↑(sumN (tbN (tbC t)) (Int.toNat (↑s : Int)) (Int.toNat (Int.tmod (IntKind.wrap IntKind.i64 (↑c : Int)) (IntKind.wrap IntKind.i64 ((↑n : Int) + (1 : Int)))) - (0 : Nat)) (byN fun i => Bs b (i + Int.toNat (0 : Int)))) : Int)))), AV.c (CV.p (PV.sl (Int.toNat (↑n : Int) - Int.toNat (Int.tmod (IntKind.wrap IntKind.i64 (↑c : Int)) (IntKind.wrap IntKind.i64 ((↑n : Int) + (1 : Int))))) fun i => [PV.v (Value.int IntKind.u8 (↑(b (i + Int.toNat (Int.tmod (IntKind.wrap IntKind.i64 (↑c : Int)) (IntKind.wrap IntKind.i64 ((↑n : Int) + (1 : Int)))))) : Int))]))] []) (Ans.mk Ex.ret [AV.c (CV.p (PV.v (Value.int IntKind.u32 (↑(sumN (tbN (tbC t)) (Int.toNat (↑(sumN (tbN (tbC t)) (Int.toNat (↑s : Int)) (Int.toNat (Int.tmod (IntKind.wrap IntKind.i64 (↑c : Int)) (IntKind.wrap IntKind.i64 ((↑n : Int) + (1 : Int)))) - (0 : Nat)) (byN fun i => Bs b (i + Int.toNat (0 : Int)))) : Int)) (Int.toNat (↑n : Int) - Int.toNat (Int.tmod (IntKind.wrap IntKind.i64 (↑c : Int)) (IntKind.wrap IntKind.i64 ((↑n : Int) + (1 : Int))))) (byN fun i => Bs b (i + Int.toNat (Int.tmod (IntKind.wrap IntKind.i64 (↑c : Int)) (IntKind.wrap IntKind.i64 ((↑n : Int) + (1 : Int))))))) : Int))))] []) (Sc.br ((↑(sumN (tbN (tbC t)) (Int.toNat (↑s : Int)) n (byN (Bs b))) : Int) != (↑(sumN (tbN (tbC t)) (Int.toNat (↑(sumN (tbN (tbC t)) (Int.toNat (↑s : Int)) (Int.toNat (Int.tmod (IntKind.wrap IntKind.i64 (↑c : Int)) (IntKind.wrap IntKind.i64 ((↑n : Int) + (1 : Int)))) - (0 : Nat)) (byN fun i => Bs b (i + Int.toNat (0 : Int)))) : Int)) (Int.toNat (↑n : Int) - Int.toNat (Int.tmod (IntKind.wrap IntKind.i64 (↑c : Int)) (IntKind.wrap IntKind.i64 ((↑n : Int) + (1 : Int))))) (byN fun i => Bs b (i + Int.toNat (Int.tmod (IntKind.wrap IntKind.i64 (↑c : Int)) (IntKind.wrap IntKind.i64 ((↑n : Int) + (1 : Int))))))) : Int)) (Sc.done (Ans.mk Ex.ret [AV.c (CV.p (PV.v (Value.bool false)))] [])) (Sc.ask (Qry.call (43 : Nat) [AV.agg (tbC t), AV.c (CV.p (PV.v (Value.int IntKind.u32 (↑s : Int)))), AV.c (CV.p (PV.sl (0 : Nat) fun x => []))] []) (Ans.mk Ex.ret [AV.c (CV.p (PV.v (Value.int IntKind.u32 (↑(sumN (tbN (tbC t)) (Int.toNat (↑s : Int)) (0 : Nat) (byN fun x => [])) : Int))))] []) (Sc.br ((↑(sumN (tbN (tbC t)) (Int.toNat (↑s : Int)) (0 : Nat) (byN fun x => [])) : Int) != (↑s : Int)) (Sc.done (Ans.mk Ex.ret [AV.c (CV.p (PV.v (Value.bool false)))] [])) (Sc.ask (Qry.call (46 : Nat) [] []) (Ans.mk Ex.ret [AV.agg tabC] []) (Sc.ask (Qry.call (43 : Nat) [AV.agg tabC, AV.c (CV.p (PV.v (Value.int IntKind.u32 (↑s : Int)))), AV.c (CV.p (PV.sl n fun i => [PV.v (Value.int IntKind.u8 (↑(b i) : Int))]))] []) (Ans.mk Ex.ret [AV.c (CV.p (PV.v (Value.int IntKind.u32 (↑(sumN (tbN (tbC stp8)) (Int.toNat (↑s : Int)) n (byN (Bs b))) : Int))))] []) (Sc.ask (Qry.call (43 : Nat) [AV.agg tabC, AV.c (CV.p (PV.v (Value.int IntKind.u32 (↑u : Int)))), AV.c (CV.p (PV.sl n fun i => [PV.v (Value.int IntKind.u8 (↑(b i) : Int))]))] []) (Ans.mk Ex.ret [AV.c (CV.p (PV.v (Value.int IntKind.u32 (↑(sumN (tbN (tbC stp8)) (Int.toNat (↑u : Int)) n (byN (Bs b))) : Int))))] []) (Sc.done (Ans.mk Ex.ret [AV.c (CV.p (PV.v (Value.bool (((↑(sumN (tbN (tbC stp8)) (Int.toNat (↑s : Int)) n (byN (Bs b))) : Int) == (↑(sumN (tbN (tbC stp8)) (Int.toNat (↑u : Int)) n (byN (Bs b))) : Int)) == ((↑s : Int) == (↑u : Int))))))] []))))))))))))))))) (Sc.done (Ans.mk Ex.ret [AV.c (CV.p (PV.v (Value.bool false)))] [])))))) := by kernel_rfl

/-! ### The document's sum, and what it opens -/
abbrev rsQ (t : Nat → Nat) (n : Nat) (b : Nat → Nat) (i s : Nat) : Qry := .loop 42 0 [1, 1, 0, 1, 0] [Sl n (Bs b), .c (.ptr 0 0), U32 s, I i] [.box (tbC t) true]
abbrev rsA (t : Nat → Nat) (n : Nat) (b : Nat → Nat) (r : Nat) : Ans := ⟨.exit 0, [Sl n (Bs b), .c (.ptr 0 0), U32 r, I n], [.box (tbC t) true]⟩
theorem rsLoop (t : Nat → Nat) (ht : ∀ i, t i < 4294967296) (n : Nat) (hn : big n) (b : Nat → Nat) (hb : ∀ i, b i < 256) : ∀ (k i s : Nat), i + k = n → s < 4294967296 → QOk Try.prog CK (rsQ t n b i s) (rsA t n b (crun t b k i s))
  | 0, i, s, hk, hs => by
    refine tree_i hP (rsumR_t t s n b i (crun t b 0 i s)) ?_
    simp only [Sc.Ok]
    refine ⟨fun hq => ?_, fun hq => ?_⟩
    · simp at hq; omega
    · rw [rsA, crun, show i = n by omega]
  | k + 1, i, s, hk, hs => by
    have ih := rsLoop t ht n hn b hb k (i + 1) (cst t s (b i)) (by omega) (cst_lt ht hs _)
    refine tree_i hP (rsumR_t t s n b i (crun t b k (i + 1) (cst t s (b i)))) ?_
    have hx := hb i
    have e0 : Int.tmod (s : Int) (256 : Int) = ((s % 256 : Nat) : Int) := tmodN s 256
    have e1 : IntKind.wrap .u8 ((s % 256 : Nat) : Int) = ((s % 256 : Nat) : Int) := by rw [w8, Nat.mod_eq_of_lt (by omega)]
    have e2 := byteXor (s := s) hx
    have e3 : Int.tdiv (s : Int) (256 : Int) = ((s / 256 : Nat) : Int) := tdivN s 256
    have e8 : IntKind.wrap .u32 ((s / 256 : Nat) : Int) = ((s / 256 : Nat) : Int) := by rw [w32, Nat.mod_eq_of_lt (by omega)]
    have e4 : (TypeInfo.size (Tables.types (Program.toTables Try.prog))[(43 : Nat)]) = 1 := by kernel_rfl
    have l1 := x8 (a := s % 256) (by omega) hx
    have e5 := tbI_get t (Nat.xor (s % 256) (b i)) l1
    have e6 := wordXor (s := t (Nat.xor (s % 256) (b i))) (x := s / 256) (ht _) (by omega)
    have e9 : Nat.xor (t (Nat.xor (s % 256) (b i))) (s / 256) = cst t s (b i) := Nat.xor_comm _ _
    have e7 : IntKind.wrap .i64 ((i : Int) + 1) = ((i + 1 : Nat) : Int) := by rw [w64 (by omega)]; omega
    simp only [Sc.Ok, Int.toNat_natCast, e0, e1, e2, e3, e8, e4, e7, Nat.zero_add, Nat.mul_one, e5, e6, e9]
    refine ⟨fun _ => ⟨by omega, by simp only [xorN]; omega, by simpa [xorN] using l1, ih, ?_⟩, fun hq => ?_⟩
    · trivial
    · simp at hq; omega
theorem cRSum {t : Nat → Nat} (ht : ∀ i, t i < 4294967296) {s n : Nat} {f : Nat → List PV} (hf : BOk n f) (hn : big n) (hs : s < 4294967296) : QOk Try.prog CK (.call 42 [Tb t, U32 s, Sl n f] []) ⟨.ret, [U32 (sumN (tbN (tbC t)) s n (byN f))], []⟩ := by
  refine QOk.arg (args := [Tb t, U32 s, Sl n (Bs (byN f))]) ?_ (.cons (ALe.refl _) (.cons (ALe.refl _) (.cons (ALe.sl hf) .nil)))
  rw [sumN_tb t s n _ (fun i _ => byN_lt f i)]
  have hl := rsLoop t ht n hn (byN f) (byN_lt f) n 0 (4294967295 - s) (by omega) (by omega)
  have hr := crun_lt (b := byN f) ht n 0 (4294967295 - s) (by omega)
  refine tree_i hP (rsumT_t t s n (byN f) (crun t (byN f) n 0 (4294967295 - s))) ?_
  have nt : ∀ m : Nat, m < 4294967296 → IntKind.wrap IntKind.u32 (↑(BitVec.toNat (BitVec.ofInt (IntKind.bits IntKind.u32) (↑m : Int) ^^^ BitVec.ofInt (IntKind.bits IntKind.u32) (4294967295 : Int))) : Int) = ((4294967295 - m : Nat) : Int) := fun m hm => by
    have h := wordXor (s := m) (x := 4294967295) hm (by omega)
    rw [xorN, nt_xor hm] at h
    exact h
  simp only [Sc.Ok, nt s hs, nt _ hr]
  exact ⟨hl, rfl⟩
theorem cTable : QOk Try.prog CK (.call 46 [] []) ⟨.ret, [Tab], []⟩ := c46
theorem stp8_all (i : Nat) : stp8 (i % 256) < 4294967296 := stp8_lt (by omega)
theorem tab_mod : tbC (fun i => stp8 (i % 256)) = tbC stp8 := by
  unfold tbC
  apply List.map_congr_left
  intro i hi
  show CV.p (PV.v (Value.int IntKind.u32 ((stp8 (i % 256) : Nat) : Int))) = _
  rw [Nat.mod_eq_of_lt (by simpa using hi)]
theorem tbN_mod (t : Nat → Nat) (i : Nat) (h : i < 256) : tbN (tbC t) i = t i := tbN_tb t i h
theorem seal_tb (t : Nat → Nat) (n : Nat) (f : Nat → List PV) : sealN (tbN (tbC t)) n f = sealN t n f := sumN_tb t 0 n _ (fun i _ => byN_lt f i)
theorem cSeal' {t : Nat → Nat} (ht : ∀ i, t i < 4294967296) {n : Nat} {f : Nat → List PV} (hf : BOk n f) (hn : big n) : QOk Try.prog CK (.call 44 [Tb t, Sl n f] []) ⟨.ret, [.c (.os 0)], [rowB (n + 4) (catF n f (fourF (sealN (tbN (tbC t)) n f)))]⟩ := by
  rw [seal_tb]
  exact cSeal ht hf hn
theorem pSum {s n : Nat} {f : Nat → List PV} (hf : BOk n f) (hn : big n) (hs : s < 4294967296) : QOk Try.prog CK (.call 43 [Tab, U32 s, Sl n f] []) ⟨.ret, [U32 (sumN (tbN (tbC stp8)) s n (byN f))], []⟩ := by
  have h := cSum stp8_all hf hn hs
  rw [tab_mod] at h
  exact h
theorem pSeal {n : Nat} {f : Nat → List PV} (hf : BOk n f) (hn : big n) : QOk Try.prog CK (.call 44 [Tab, Sl n f] []) ⟨.ret, [.c (.os 0)], [rowB (n + 4) (catF n f (fourF (sealN (tbN (tbC stp8)) n f)))]⟩ := by
  have h := cSeal' stp8_all hf hn
  rw [tab_mod] at h
  exact h
theorem pOpen {n : Nat} {f : Nat → List PV} (hf : BOk n f) (hn : big n) : QOk Try.prog CK (.call 48 [Tab, Sl n f] []) (Sa.val (openS (tbN (tbC stp8)) n f)) := by
  have h := cOpen stp8_all hf hn
  rw [tab_mod] at h
  exact h
theorem sumP {n : Nat} {b : Nat → Nat} (hb : ∀ i, b i < 256) : sumN (tbN (tbC stp8)) 0 n b = plainN n b := by
  rw [sumN_tb _ _ _ _ (fun i _ => hb i), sumN_plain hb]
theorem opens_eq {n : Nat} (h4 : 4 ≤ n) (f : Nat → List PV) : opensN n f = same 4 4 (fourF (sealN (tbN (tbC stp8)) (n - 4) f)) (fun i => f (i + (n - 4))) := by
  unfold opensN sealN
  rw [decide_eq_true h4, sumP (byN_lt f), Bool.true_and]
theorem same_cat {m n p : Nat} (hn : m + 4 = n) {f g : Nat → List PV} (h : ∀ i, byN g i = byN f i) : decide (m + 4 = n ∧ ∀ i, i < m + 4 → byN (catF m g (fourF p)) i = byN f i) = same 4 4 (fourF p) (fun i => f (i + m)) := by
  unfold same
  rw [decide_eq_decide]
  constructor
  · rintro ⟨_, h2⟩
    refine ⟨rfl, fun i hi => ?_⟩
    have := h2 (i + m) (by omega)
    rw [byN_cat, if_neg (by omega), show i + m - m = i by omega] at this
    exact this
  · rintro ⟨_, h2⟩
    refine ⟨hn, fun i hi => ?_⟩
    rw [byN_cat]
    by_cases h1 : i < m
    · rw [if_pos h1]; exact h i
    · rw [if_neg h1]
      have := h2 (i - m) (by omega)
      rw [this]
      show byN f (i - m + m) = byN f i
      rw [show i - m + m = i by omega]
theorem cOpens {n : Nat} {f : Nat → List PV} (hf : BOk n f) (hn : big n) : QOk Try.prog CK (.call 49 [Sl n f] []) ⟨.ret, [B (opensN n f)], []⟩ := by
  refine QOk.arg (args := [Sl n (Bs (byN f))]) ?_ (.cons (ALe.sl hf) .nil)
  refine tree_i hP (opensT_t n (byN f)) ?_
  by_cases h4 : n < 4
  · simp only [Sc.Ok]
    refine ⟨fun h => ?_, fun _ => ar (congrArg B ?_)⟩
    · simp at h; omega
    · unfold opensN
      rw [decide_eq_false (by omega)]; rfl
  · have hw : IntKind.wrap .i64 ((n : Int) - 4) = ((n - 4 : Nat) : Int) := by rw [w64 (by omega)]; omega
    have hb : BOk (n - 4) (Bs (byN f)) := BOk.bs _ (fun i _ => byN_lt f i)
    have hb' : BOk n (Bs (byN f)) := BOk.bs _ (fun i _ => byN_lt f i)
    have e : byN (Bs (byN f)) = byN f := funext fun i => byN_Bs _ _ (byN_lt f i)
    have q := cRSeal hb (by unfold big at *; omega)
    have hc := hb.cat (four_ok (plainN (n - 4) (byN (Bs (byN f)))))
    simp only [Sc.Ok, hw, Int.toNat_natCast, Int.toNat_zero, Nat.sub_zero, Nat.add_zero]
    refine ⟨fun _ => ⟨by omega, q, hc.ok, hb'.ok, ar (congrArg B ?_)⟩, fun h => ?_⟩
    · rw [toList_text hc hb', same_cat (by omega) (fun i => rfl), opens_eq (by omega), e]
      have e2 : sealN (tbN (tbC stp8)) (n - 4) f = plainN (n - 4) (byN f) := sumP (byN_lt f)
      rw [e2]
      exact same_congr (fun _ _ => rfl) (fun i hi => byN_Bs (fun i => byN f (i + (n - 4))) i (byN_lt _ _))
    · simp at h; omega
theorem law11 {t : Nat → Nat} (ht : ∀ i, t i < 4294967296) {s n : Nat} {b : Nat → Nat} (hb : ∀ i, b i < 256) (hs : s < 4294967296) : CallIn Try.prog 11 [Tb t, U32 s, Sl n (Bs b)] [] ⟨.ret, [B true], []⟩ := by
  refine treeIn_i hP (law11_t t s n b) ?_
  simp only [Sc.Ok, Int.toNat_natCast, Int.toNat_zero, Nat.sub_zero, Nat.add_zero]
  refine ⟨c41, fun _ => trivial, fun h3 => ?_⟩
  have hn : n ≤ 3000 := by simp at h3; omega
  have hg : big n := by unfold big; omega
  have hB : BOk n (Bs b) := BOk.bs n (fun i _ => hb i)
  have hc := hB.cat (four_ok (sumN (tbN (tbC t)) 0 n (byN (Bs b))))
  have hp : sumN (tbN (tbC stp8)) 0 n (byN (Bs b)) = plainN n (byN (Bs b)) := sumP (byN_lt _)
  refine ⟨cRSum (s := 0) ht hB hg (by omega), cSum ht hB hg hs, cRSum ht hB hg hs, fun h => ?_, fun _ => ⟨cSeal' ht hB hg, hc.ok, cTail hB hg (sumN_lt _ _ _ _), hc.ok, fun h => ?_, fun _ => ⟨cTable, pSum (s := 0) hB hg (by omega), cPlain hB hg, fun h => ?_, fun _ => ⟨pOpen hB hg, ?_⟩⟩⟩⟩
  · simp at h
  · simp at h
  · rw [hp] at h; simp at h
  · have hw : 4 ≤ n → IntKind.wrap .i64 ((n : Int) - 4) = ((n - 4 : Nat) : Int) := fun _ => by rw [w64 (by omega)]; omega
    refine ⟨fun h => ⟨fun _ => trivial, fun h' => ?_⟩, fun h => ⟨fun h' => ⟨fun h2 => ?_, fun _ => ⟨cOpens hB hg, fun h2 => ?_, fun _ => ?_⟩⟩, fun h' => ⟨fun h2 => ?_, fun _ => ⟨cOpens hB hg, fun h2 => trivial, fun h2 => ?_⟩⟩⟩⟩
    · simp at h h'; omega
    · simp at h h2; omega
    · have h4 : 4 ≤ n := by simp at h; omega
      rw [opens_eq h4] at h2
      rw [show same _ _ _ _ = true from h'] at h2
      simp at h2
    · have h4 : 4 ≤ n := by simp at h; omega
      have hB' : BOk (n - 4) (Bs b) := BOk.bs _ (fun i _ => hb i)
      rw [hw h4]
      simp only [Int.toNat_natCast]
      refine ⟨hB'.ok, by omega, hB'.ok, ar (congrArg B ?_)⟩
      simp
    · simp at h h2; omega
    · have h4 : 4 ≤ n := by simp at h; omega
      rw [opens_eq h4] at h2
      rw [show same _ _ _ _ = false from h'] at h2
      simp at h2
theorem law13 {t : Nat → Nat} (ht : ∀ i, t i < 4294967296) {s u n c : Nat} {b : Nat → Nat} (hb : ∀ i, b i < 256) (hs : s < 4294967296) (hu : u < 4294967296) (hc : c < 65536) : CallIn Try.prog 13 [Tb t, U32 s, U32 u, Sl n (Bs b), U16 c] [] ⟨.ret, [B true], []⟩ := by
  refine treeIn_i hP (law13_t t s u n b c) ?_
  have e4 : n + 4 - 4 = n := by omega
  simp only [Sc.Ok, Int.toNat_natCast, Int.toNat_zero, Nat.sub_zero, Nat.add_zero, e4]
  refine ⟨c41, fun _ => trivial, fun h3 => ?_⟩
  have hn : n ≤ 3000 := by simp at h3; omega
  have hg : big n := by unfold big; omega
  have hB : BOk n (Bs b) := BOk.bs n (fun i _ => hb i)
  have hcat := hB.cat (four_ok (sealN (tbN (tbC t)) n (Bs b)))
  have hcat' : BOk n (catF n (Bs b) (fourF (sealN (tbN (tbC t)) n (Bs b)))) := hcat.le (by omega)
  have es : sealN (tbN (tbC t)) n (catF n (Bs b) (fourF (sealN (tbN (tbC t)) n (Bs b)))) = sealN (tbN (tbC t)) n (Bs b) := by
    refine sumN_congr rfl fun i hi => ⟨?_, byN_lt _ _⟩
    rw [byN_cat, if_pos hi]
  have hsame : same 4 4 (fourF (sealN (tbN (tbC t)) n (catF n (Bs b) (fourF (sealN (tbN (tbC t)) n (Bs b)))))) (fun i => catF n (Bs b) (fourF (sealN (tbN (tbC t)) n (Bs b))) (i + n)) = true := by
    unfold same
    rw [decide_eq_true_iff]
    refine ⟨rfl, fun i hi => ?_⟩
    rw [es]
    show _ = byN (catF n (Bs b) (fourF (sealN (tbN (tbC t)) n (Bs b)))) (i + n)
    rw [byN_cat, if_neg (by omega), show i + n - n = i by omega]
  have qo := cOpen ht hcat (show big (n + 4) by unfold big; omega)
  unfold openS at qo
  rw [e4] at qo
  rw [show decide (n + 4 < 4) = false by simp] at qo
  have hwc : IntKind.wrap .i64 (c : Int) = (c : Int) := w64 (by omega)
  have hwn : IntKind.wrap .i64 ((n : Int) + 1) = ((n + 1 : Nat) : Int) := by rw [w64 (by omega)]; omega
  have hk : c % (n + 1) ≤ n := by have := Nat.mod_lt c (show 0 < n + 1 by omega); omega
  have hB1 : BOk (c % (n + 1)) (Bs b) := hB.le hk
  have hB2 : BOk (n - c % (n + 1)) (fun i => Bs b (i + c % (n + 1))) := hB.part (by omega)
  have e0 : byN (Bs b) = b := funext fun i => byN_Bs _ _ (hb i)
  have e1 : byN (fun i => Bs b (i + c % (n + 1))) = fun i => b (i + c % (n + 1)) := funext fun i => byN_Bs (fun i => b (i + c % (n + 1))) i (hb _)
  rw [hwc, hwn]
  simp only [tmodN, Int.toNat_natCast, Nat.sub_zero]
  refine ⟨cSeal' ht hB hg, qo, fun _ => ⟨hcat'.ok, hB.ok, fun h => ?_, fun _ => ⟨by omega, cSum ht hB hg hs, by omega, cSum ht hB1 (by unfold big; omega) hs, by omega, cSum ht hB2 (by unfold big; omega) (sumN_lt _ _ _ _), fun h => ?_, fun _ => ⟨cSum ht (n := 0) (f := fun _ => []) (fun i hi => by omega) (by unfold big; omega) hs, fun h => ?_, fun _ => ⟨cTable, pSum hB hg hs, pSum hB hg hu, ar (congrArg B ?_)⟩⟩⟩⟩, fun h => ?_⟩
  · rw [toList_text hcat' hB] at h
    rw [decide_eq_true] at h
    · simp at h
    · exact ⟨rfl, fun i hi => by rw [byN_cat, if_pos hi]⟩
  · rw [e0, e1] at h
    have ha : ∀ (s n : Nat) (b : Nat → Nat), (∀ i, b i < 256) → sumN (tbN (tbC t)) s n b = sumN t s n b := fun s n b hb => sumN_tb t s n b (fun i _ => hb i)
    rw [ha _ _ _ hb, ha _ _ _ hb, ha _ _ _ (fun i => hb _), sumN_two ht hk hs b] at h
    simp at h
  · rw [sumN_none _ hs] at h
    simp at h
  · rw [e0, sumN_tb _ _ _ _ (fun i _ => hb i), sumN_tb _ _ _ _ (fun i _ => hb i)]
    by_cases h : s = u
    · subst h; simp
    · have h1 : ¬ sumN stp8 s n b = sumN stp8 u n b := fun h2 => h ((sumN_inj hb hs hu).1 h2)
      have h2 : ¬ (s : Int) = (u : Int) := by omega
      have h3 : ¬ ((sumN stp8 s n b : Nat) : Int) = ((sumN stp8 u n b : Nat) : Int) := by omega
      rw [beq_eq_false_iff_ne.2 h2, beq_eq_false_iff_ne.2 h3]; rfl
  · rw [hsame] at h
    simp at h
end Crc
end Go.Fx
