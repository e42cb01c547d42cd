/- Tallies: what the functions answer. -/
import Derived.Test.YtokdkmlpfkeeaaaFxF
import Derived.Test.YtokdkmlpfkeeaaaChecked
set_option maxRecDepth 100000
set_option maxHeartbeats 4000000
set_option linter.unusedVariables false
set_option linter.unusedSimpArgs false
namespace Go.Fx
open Go.Proofs
theorem hP : progOk Try.prog = true := by kernel_rfl
/-- A function that the model itself does. -/
theorem QOk.ext {P : Program} {C : Cfg} {f : FuncId} {fn : Func} {e : Array Value → Sem Value} (hf : P.funcs[f]? = some fn) (hname : (fn.name == "runtime.NumGoroutine") = false) (hb : fn.body.isNone = true) (hn : Extern.findNext fn = none) (he : Extern.find fn = some e)
    {x v : Value} (hv : scalar v = true) (hr : ∀ w : World, (e #[x]).run P w = .ok v w) : QOk P C (.call f [.c (.p (.v x))] []) ⟨.ret, [.c (.p (.v v))], []⟩ := by
  intro vs w M φ hR hV
  obtain ⟨u, us, rfl, hu, hus⟩ := hV.uncons
  have h1 := hus.nil_inv
  subst h1
  have h2 := sval_rep hu
  subst h2
  refine .inr ⟨v, w, ?_, M, φ, .refl _, fun _ _ => rfl, hR, Nat.le_refl _, .c (.p (.v hv))⟩
  have hb' : fn.body = none := by simpa using hb
  have hn' : ¬ fn.name = "runtime.NumGoroutine" := by simpa using hname
  simp [callFunc, hf, hn', hb', hn, he, hr]
namespace Tally
open Fl
def CK : Cfg := ⟨fun _ => false, fun _ => false, keepTab [(3, 9, [3, 4, 8, 9, 10, 11]), (6, 10, [0, 1, 2, 7, 8, 11, 12]), (8, 8, [0, 1, 5, 6, 7, 8]), (8, 11, [0, 1, 4, 5, 7, 9, 10]), (8, 19, [0, 1, 5, 7, 9, 10, 11, 12]), (9, 7, [1, 5, 6, 7]), (12, 7, [0, 1, 2, 3, 9, 10]), (12, 8, [0, 1, 2, 3, 9, 11]), (12, 9, [0, 1, 2, 3, 8, 9, 12]), (15, 6, [1, 2, 3, 22, 23]), (27, 4, [0, 6, 7]), (28, 5, [3, 6, 7, 8]), (29, 6, [4, 10, 11, 12]), (30, 6, [0, 4, 5, 6]), (35, 4, [0, 2, 3]), (37, 4, [1, 2, 3]), (40, 7, [2, 3, 4, 12, 13]), (41, 5, [1, 2, 3, 4]), (41, 11, [1, 2, 3, 4, 5]), (43, 6, [1, 5, 6]), (50, 4, [1, 5]), (53, 5, [1, 2, 3, 4, 8, 10, 11]), (53, 6, [2, 3, 4, 8, 10, 14]), (53, 7, [3, 4, 8, 10, 17]), (70, 4, [0, 1, 4, 7, 8]), (73, 5, [0, 1, 5]), (73, 15, [0, 1, 2, 3, 5, 10]), (85, 5, [1, 3, 11, 12, 13]), (86, 5, [1, 5, 6]), (87, 5, [0, 3, 4]), (87, 12, [0, 3, 4, 5]), (88, 5, [0, 1, 4, 12, 13]), (89, 4, [0, 1, 4, 7, 8]), (91, 2, [0, 1, 3])], fun _ _ => []⟩
abbrev Flt (w : Nat) : AV := .c (.p (.v (.float .f64 w)))
abbrev Cpx (a b : Nat) : AV := .c (.p (.v (.complex .f64 a b)))
def hold (n : Int) : Int := min (max n 0) 1099511627776
def wf (n : Int) : Nat := FloatKind.nearest .f64 n
def ng (w : Nat) : Nat := Op.negFloat .f64 w
def trn : Nat → Nat × Nat → Nat × Nat
  | 0, p => p
  | k + 1, p => trn k (ng p.2, p.1)
def toIntW (w : Nat) : Int := ((Ieee.double.read w).toInt .zero).getD 0
def intV : AV → Option Int
  | .c (.p (.v (.int _ x))) => some x
  | _ => none
def fltV : AV → Option Nat
  | .c (.p (.v (.float _ x))) => some x
  | _ => none
def cpxV : AV → Option (Nat × Nat)
  | .c (.p (.v (.complex _ a b))) => some (a, b)
  | _ => none
abbrev Is (l : Nat → Int) : Nat → List PV := fun i => [.v (.int .i64 (l i))]
def intC : List PV → Int
  | [.v (.int _ x)] => x
  | _ => 0
def slI : AV → Option (Nat × (Nat → Int))
  | .c (.p (.sl n f)) => some (n, fun i => intC (f i))
  | .c .nils => some (0, fun _ => 0)
  | _ => none
/-- The beat of a list, number by number. -/
def bst (l : Nat → Int) (i : Nat) (p : Int × Int) : Int × Int := match i % 4 with
  | 0 => (p.1 + hold (l i), p.2)
  | 1 => (p.1, p.2 + hold (l i))
  | 2 => (p.1 - hold (l i), p.2)
  | _ => (p.1, p.2 - hold (l i))
def brun (l : Nat → Int) : Nat → Nat → Int × Int → Int × Int
  | 0, _, p => p
  | k + 1, i, p => brun l k (i + 1) (bst l i p)
def beat (n : Nat) (l : Nat → Int) : Int × Int := match Nat.ble n 4096 with
  | true => brun l n 0 (0, 0)
  | false => (0, 0)
def rV (x : AV) : Option Sa := some (.one ⟨.ret, [x], []⟩)
/-- What the functions of tally answer. -/
def tlS (aw : Nat) : Qry → Option Sa := fun q => match q with
  | .call f args _ => match args with
    | [] => match Nat.beq f aw with
      | true => rV (B true)
      | false => none
    | [x] => match intV x with
      | some n => match Nat.beq f 63 || Nat.beq f 64 with
        | true => rV (I (hold n))
        | false => none
      | none => match fltV x with
        | some w => match Nat.beq f 83 with
          | true => rV (I (toIntW w))
          | false => match Nat.beq f 92 || Nat.beq f 95 with
            | true => rV (Flt w)
            | false => match Nat.beq f 93 with
              | true => rV (Flt (w % 9223372036854775808))
              | false => match Nat.beq f 98 with
                | true => rV (U64 w)
                | false => none
        | none => match cpxV x with
          | some (a, b) => match Nat.beq f 62 with
            | true => rV (.tup [I (toIntW a), I (toIntW b)])
            | false => none
          | none => match slI x with
            | some (n, l) => match Nat.beq f 29 || Nat.beq f 30 with
              | true => rV (.tup [I (beat n l).1, I (beat n l).2])
              | false => none
            | none => none
    | [x, y] => match intV x, intV y with
      | some a, some b => match Nat.beq f 26 with
        | true => rV (Cpx (wf (hold a)) (wf (hold b)))
        | false => none
      | _, _ => match cpxV x, intV y with
        | some (a, b), some q => match Nat.beq f 27 with
          | true => rV (Cpx (trn (q % 4).toNat (a, b)).1 (trn (q % 4).toNat (a, b)).2)
          | false => none
        | _, _ => none
    | _ => none
  | _ => none
def SLo (f0 : Nat) (a : List AV → Hp → Option Ans) (S : Qry → Option Sa) : Qry → Option Sa := fun r => match r with
  | .loop f _ _ vals h => match Nat.beq f f0 with
    | true => match a vals h with
      | some x => some (.one x)
      | none => none
    | false => none
  | r => S r
def noS : Qry → Option Sa := fun _ => none

attribute [local irreducible] QOk
theorem ofT_t (a b : Int)  : fol CK Try.prog (tlS 1000000) (An.a (An.a An.e)) (T.evQ CK Try.prog (.call 26 [I a, I b] []) .done) = Sc.ask (Qry.call (63 : Nat) [AV.c (CV.p (PV.v (Value.int IntKind.i64 a)))] []) (Ans.mk Ex.ret [AV.c (CV.p (PV.v (Value.int IntKind.i64 (hold a))))] []) (Sc.ask (Qry.call (63 : Nat) [AV.c (CV.p (PV.v (Value.int IntKind.i64 b)))] []) (Ans.mk Ex.ret [AV.c (CV.p (PV.v (Value.int IntKind.i64 (hold b))))] []) (Sc.done (Ans.mk Ex.ret [AV.c (CV.p (PV.v (Value.complex FloatKind.f64 (FloatKind.nearest FloatKind.f64 (hold a)) (FloatKind.nearest FloatKind.f64 (hold b)))))] []))) := by kernel_rfl
theorem hold63_t (a : Int)  : fol CK Try.prog noS (An.e) (T.evQ CK Try.prog (.call 63 [I a] []) .done) = Sc.done (Ans.mk Ex.ret [AV.c (CV.p (PV.v (Value.int IntKind.i64 (min (max a (0 : Int)) (1099511627776 : Int)))))] []) := by kernel_rfl
theorem hold64_t (a : Int)  : fol CK Try.prog noS (An.b An.e (An.b An.e An.e)) (T.evQ CK Try.prog (.call 64 [I a] []) .done) = Sc.br (decide (a < (0 : Int))) (Sc.done (Ans.mk Ex.ret [AV.c (CV.p (PV.v (Value.int IntKind.i64 (0 : Int))))] [])) (Sc.br (decide (a > (1099511627776 : Int))) (Sc.done (Ans.mk Ex.ret [AV.c (CV.p (PV.v (Value.int IntKind.i64 (1099511627776 : Int))))] [])) (Sc.done (Ans.mk Ex.ret [AV.c (CV.p (PV.v (Value.int IntKind.i64 a)))] []))) := by kernel_rfl
theorem truncT_t (w : Nat)  : fol CK Try.prog (tlS 1000000) (An.a An.e) (T.evQ CK Try.prog (.call 92 [Flt w] []) .done) = Sc.ask (Qry.call (95 : Nat) [AV.c (CV.p (PV.v (Value.float FloatKind.f64 w)))] []) (Ans.mk Ex.ret [AV.c (CV.p (PV.v (Value.float FloatKind.f64 w)))] []) (Sc.done (Ans.mk Ex.ret [AV.c (CV.p (PV.v (Value.float FloatKind.f64 w)))] [])) := by kernel_rfl
theorem absT_t (w : Nat)  (v : Nat)  : fol CK Try.prog (spec [(98, fun _ => some (U64 w)), (97, fun _ => some (Flt v))] []) (An.a (An.a An.e)) (T.evQ CK Try.prog (.call 93 [Flt w] []) .done) = Sc.ask (Qry.call (98 : Nat) [AV.c (CV.p (PV.v (Value.float FloatKind.f64 w)))] []) (Ans.mk Ex.ret [AV.c (CV.p (PV.v (Value.int IntKind.u64 (↑w : Int))))] []) (Sc.ask (Qry.call (97 : Nat) [AV.c (CV.p (PV.v (Value.int IntKind.u64 (IntKind.wrap IntKind.u64 (↑(BitVec.toNat (BitVec.ofInt (IntKind.bits IntKind.u64) (↑w : Int) &&& ~~~BitVec.ofInt (IntKind.bits IntKind.u64) (9223372036854775808 : Int))) : Int)))))] []) (Ans.mk Ex.ret [AV.c (CV.p (PV.v (Value.float FloatKind.f64 v)))] []) (Sc.done (Ans.mk Ex.ret [AV.c (CV.p (PV.v (Value.float FloatKind.f64 v)))] []))) := by kernel_rfl
theorem wholeT_t (w : Nat)  : fol CK Try.prog (tlS 1000000) (An.a (An.b (An.l (An.l (An.l (An.l An.e)))) (An.l (An.a (An.l (An.l (An.b An.e (An.c An.e)))))))) (T.evQ CK Try.prog (.call 83 [Flt w] []) .done) = Sc.ask (Qry.call (92 : Nat) [AV.c (CV.p (PV.v (Value.float FloatKind.f64 w)))] []) (Ans.mk Ex.ret [AV.c (CV.p (PV.v (Value.float FloatKind.f64 w)))] []) (Sc.br (Ieee.Format.order (FloatKind.format FloatKind.f64) w w != some Ordering.eq) (Sc.done (Ans.mk Ex.ret [AV.c (CV.p (PV.v (Value.int IntKind.i64 (0 : Int))))] [])) (Sc.ask (Qry.call (93 : Nat) [AV.c (CV.p (PV.v (Value.float FloatKind.f64 w)))] []) (Ans.mk Ex.ret [AV.c (CV.p (PV.v (Value.float FloatKind.f64 (w % (9223372036854775808 : Nat)))))] []) (Sc.br (Ieee.Format.order (FloatKind.format FloatKind.f64) (w % (9223372036854775808 : Nat)) (4845873199050653696 : Nat) == some Ordering.gt) (Sc.done (Ans.mk Ex.ret [AV.c (CV.p (PV.v (Value.int IntKind.i64 (0 : Int))))] [])) (Sc.chk (inKind IntKind.i64 (Ieee.Datum.toInt Ieee.Toward.zero (Ieee.Format.read Ieee.double w)) = true) (Sc.done (Ans.mk Ex.ret [AV.c (CV.p (PV.v (Value.int IntKind.i64 (Option.getD (Ieee.Datum.toInt Ieee.Toward.zero (Ieee.Format.read Ieee.double w)) (0 : Int)))))] [])))))) := by kernel_rfl
theorem partsT_t (a b : Nat)  : fol CK Try.prog (tlS 1000000) (An.a (An.a An.e)) (T.evQ CK Try.prog (.call 62 [Cpx a b] []) .done) = Sc.ask (Qry.call (83 : Nat) [AV.c (CV.p (PV.v (Value.float FloatKind.f64 a)))] []) (Ans.mk Ex.ret [AV.c (CV.p (PV.v (Value.int IntKind.i64 (toIntW a))))] []) (Sc.ask (Qry.call (83 : Nat) [AV.c (CV.p (PV.v (Value.float FloatKind.f64 b)))] []) (Ans.mk Ex.ret [AV.c (CV.p (PV.v (Value.int IntKind.i64 (toIntW b))))] []) (Sc.done (Ans.mk Ex.ret [AV.tup [AV.c (CV.p (PV.v (Value.int IntKind.i64 (toIntW a)))), AV.c (CV.p (PV.v (Value.int IntKind.i64 (toIntW b))))]] []))) := by kernel_rfl
theorem turnT_t (a b : Nat)  (q : Int)  (c d : Nat)  (k : Int)  : fol CK Try.prog (SLo 27 (fun vals h => match vals with | [_, x, _] => some ⟨.exit 0, [Cpx c d, x, x], h⟩ | _ => none) noS) (An.a An.e) (T.evQ CK Try.prog (.call 27 [Cpx a b, I q] []) .done) = Sc.ask (Qry.loop (27 : Nat) (0 : Nat) [(1 : Nat), (0 : Nat), (1 : Nat), (0 : Nat)] [AV.c (CV.p (PV.v (Value.complex FloatKind.f64 a b))), AV.c (CV.p (PV.v (Value.int IntKind.i64 (IntKind.wrap IntKind.i64 (↑(BitVec.toNat (BitVec.ofInt (IntKind.bits IntKind.i64) q &&& BitVec.ofInt (IntKind.bits IntKind.i64) (3 : Int))) : Int))))), AV.c (CV.p (PV.v (Value.int IntKind.i64 (0 : Int))))] []) (Ans.mk (Ex.exit (0 : Nat)) [AV.c (CV.p (PV.v (Value.complex FloatKind.f64 c d))), AV.c (CV.p (PV.v (Value.int IntKind.i64 (IntKind.wrap IntKind.i64 (↑(BitVec.toNat (BitVec.ofInt (IntKind.bits IntKind.i64) q &&& BitVec.ofInt (IntKind.bits IntKind.i64) (3 : Int))) : Int))))), AV.c (CV.p (PV.v (Value.int IntKind.i64 (IntKind.wrap IntKind.i64 (↑(BitVec.toNat (BitVec.ofInt (IntKind.bits IntKind.i64) q &&& BitVec.ofInt (IntKind.bits IntKind.i64) (3 : Int))) : Int)))))] []) (Sc.done (Ans.mk Ex.ret [AV.c (CV.p (PV.v (Value.complex FloatKind.f64 c d)))] [])) := by kernel_rfl
theorem turnR_t (a b : Nat)  (k i : Nat)  (c d : Nat)  : fol CK Try.prog (SLo 27 (fun vals h => match vals with | [_, x, _] => some ⟨.exit 0, [Cpx c d, x, x], h⟩ | _ => none) noS) (An.b (An.a An.e) An.e) (T.evQ CK Try.prog (.loop 27 0 [1, 0, 1, 0] [Cpx a b, I k, I i] []) .done) = Sc.br (decide ((↑i : Int) < (↑k : Int))) (Sc.ask (Qry.loop (27 : Nat) (0 : Nat) [(1 : Nat), (0 : Nat), (1 : Nat), (0 : Nat)] [AV.c (CV.p (PV.v (Value.complex FloatKind.f64 (Op.negFloat FloatKind.f64 b) a))), AV.c (CV.p (PV.v (Value.int IntKind.i64 (↑k : Int)))), AV.c (CV.p (PV.v (Value.int IntKind.i64 (IntKind.wrap IntKind.i64 ((↑i : Int) + (1 : Int))))))] []) (Ans.mk (Ex.exit (0 : Nat)) [AV.c (CV.p (PV.v (Value.complex FloatKind.f64 c d))), AV.c (CV.p (PV.v (Value.int IntKind.i64 (↑k : Int)))), AV.c (CV.p (PV.v (Value.int IntKind.i64 (↑k : Int))))] []) (Sc.done (Ans.mk (Ex.exit (0 : Nat)) [AV.c (CV.p (PV.v (Value.complex FloatKind.f64 c d))), AV.c (CV.p (PV.v (Value.int IntKind.i64 (↑k : Int)))), AV.c (CV.p (PV.v (Value.int IntKind.i64 (↑k : Int))))] []))) (Sc.done (Ans.mk (Ex.exit (0 : Nat)) [AV.c (CV.p (PV.v (Value.complex FloatKind.f64 a b))), AV.c (CV.p (PV.v (Value.int IntKind.i64 (↑k : Int)))), AV.c (CV.p (PV.v (Value.int IntKind.i64 (↑i : Int))))] [])) := by kernel_rfl
theorem beatT_t (n : Nat)  (l : Nat → Int)  (c d : Nat)  : fol CK Try.prog (SLo 29 (fun vals h => match vals with | [_, x, y, _] => some ⟨.exit 0, [Cpx c d, x, y, y], h⟩ | _ => none) (tlS 1000000)) (An.b An.e (An.a (An.a An.e))) (T.evQ CK Try.prog (.call 29 [Sl n (Is l)] []) .done) = Sc.br (decide ((↑n : Int) > (4096 : Int))) (Sc.done (Ans.mk Ex.ret [AV.tup [AV.c (CV.p (PV.v (Value.int IntKind.i64 (0 : Int)))), AV.c (CV.p (PV.v (Value.int IntKind.i64 (0 : Int))))]] [])) (Sc.ask (Qry.loop (29 : Nat) (0 : Nat) [(1 : Nat), (1 : Nat), (1 : Nat), (0 : Nat), (1 : Nat), (0 : Nat)] [AV.c (CV.p (PV.v (Value.complex FloatKind.f64 (0 : Nat) (0 : Nat)))), AV.c (CV.p (PV.sl n fun i => [PV.v (Value.int IntKind.i64 (l i))])), AV.c (CV.p (PV.v (Value.int IntKind.i64 (↑n : Int)))), AV.c (CV.p (PV.v (Value.int IntKind.i64 (0 : Int))))] []) (Ans.mk (Ex.exit (0 : Nat)) [AV.c (CV.p (PV.v (Value.complex FloatKind.f64 c d))), AV.c (CV.p (PV.sl n fun i => [PV.v (Value.int IntKind.i64 (l i))])), AV.c (CV.p (PV.v (Value.int IntKind.i64 (↑n : Int)))), AV.c (CV.p (PV.v (Value.int IntKind.i64 (↑n : Int))))] []) (Sc.ask (Qry.call (62 : Nat) [AV.c (CV.p (PV.v (Value.complex FloatKind.f64 c d)))] []) (Ans.mk Ex.ret [AV.tup [AV.c (CV.p (PV.v (Value.int IntKind.i64 (toIntW c)))), AV.c (CV.p (PV.v (Value.int IntKind.i64 (toIntW d))))]] []) (Sc.done (Ans.mk Ex.ret [AV.tup [AV.c (CV.p (PV.v (Value.int IntKind.i64 (toIntW c)))), AV.c (CV.p (PV.v (Value.int IntKind.i64 (toIntW d))))]] [])))) := by kernel_rfl
theorem beatR_t (n : Nat)  (l : Nat → Int)  (a b i : Nat)  (c d : Nat)  : fol CK Try.prog (SLo 29 (fun vals h => match vals with | [_, x, y, _] => some ⟨.exit 0, [Cpx c d, x, y, y], h⟩ | _ => none) (tlS 1000000)) (An.b (An.c (An.a (An.a (An.c (An.a An.e))))) An.e) (T.evQ CK Try.prog (.loop 29 0 [1, 1, 1, 0, 1, 0] [Cpx a b, Sl n (Is l), I n, I i] []) .done) = Sc.br (decide ((↑i : Int) < (↑n : Int))) (Sc.chk ((0 : Int) ≤ (↑i : Int) ∧ (↑i : Int) < (↑n : Int)) (Sc.ask (Qry.call (26 : Nat) [AV.c (CV.p (PV.v (Value.int IntKind.i64 (l (Int.toNat (↑i : Int)))))), AV.c (CV.p (PV.v (Value.int IntKind.i64 (0 : Int))))] []) (Ans.mk Ex.ret [AV.c (CV.p (PV.v (Value.complex FloatKind.f64 (wf (hold (l (Int.toNat (↑i : Int))))) (0 : Nat))))] []) (Sc.ask (Qry.call (27 : Nat) [AV.c (CV.p (PV.v (Value.complex FloatKind.f64 (wf (hold (l (Int.toNat (↑i : Int))))) (0 : Nat)))), AV.c (CV.p (PV.v (Value.int IntKind.i64 (↑i : Int))))] []) (Ans.mk Ex.ret [AV.c (CV.p (PV.v (Value.complex FloatKind.f64 (Prod.fst (trn (Int.toNat ((↑i : Int) % (4 : Int))) (wf (hold (l (Int.toNat (↑i : Int)))), (0 : Nat)))) (Prod.snd (trn (Int.toNat ((↑i : Int) % (4 : Int))) (wf (hold (l (Int.toNat (↑i : Int)))), (0 : Nat)))))))] []) (Sc.chk ((Option.isSome (Ieee.Format.add Ieee.double a (Prod.fst (trn (Int.toNat ((↑i : Int) % (4 : Int))) (wf (hold (l (Int.toNat (↑i : Int)))), (0 : Nat))))) && Option.isSome (Ieee.Format.add Ieee.double b (Prod.snd (trn (Int.toNat ((↑i : Int) % (4 : Int))) (wf (hold (l (Int.toNat (↑i : Int)))), (0 : Nat)))))) = true) (Sc.ask (Qry.loop (29 : Nat) (0 : Nat) [(1 : Nat), (1 : Nat), (1 : Nat), (0 : Nat), (1 : Nat), (0 : Nat)] [AV.c (CV.p (PV.v (Value.complex FloatKind.f64 (Option.getD (Ieee.Format.add Ieee.double a (Prod.fst (trn (Int.toNat ((↑i : Int) % (4 : Int))) (wf (hold (l (Int.toNat (↑i : Int)))), (0 : Nat))))) (0 : Nat)) (Option.getD (Ieee.Format.add Ieee.double b (Prod.snd (trn (Int.toNat ((↑i : Int) % (4 : Int))) (wf (hold (l (Int.toNat (↑i : Int)))), (0 : Nat))))) (0 : Nat))))), AV.c (CV.p (PV.sl n fun i => [PV.v (Value.int IntKind.i64 (l i))])), AV.c (CV.p (PV.v (Value.int IntKind.i64 (↑n : Int)))), AV.c (CV.p (PV.v (Value.int IntKind.i64 (IntKind.wrap IntKind.i64 ((↑i : Int) + (1 : Int))))))] []) (Ans.mk (Ex.exit (0 : Nat)) [AV.c (CV.p (PV.v (Value.complex FloatKind.f64 c d))), AV.c (CV.p (PV.sl n fun i => [PV.v (Value.int IntKind.i64 (l i))])), AV.c (CV.p (PV.v (Value.int IntKind.i64 (↑n : Int)))), AV.c (CV.p (PV.v (Value.int IntKind.i64 (↑n : Int))))] []) (Sc.done (Ans.mk (Ex.exit (0 : Nat)) [AV.c (CV.p (PV.v (Value.complex FloatKind.f64 c d))), AV.c (CV.p (PV.sl n fun i => [PV.v (Value.int IntKind.i64 (l i))])), AV.c (CV.p (PV.v (Value.int IntKind.i64 (↑n : Int)))), AV.c (CV.p (PV.v (Value.int IntKind.i64 (↑n : Int))))] []))))))) (Sc.done (Ans.mk (Ex.exit (0 : Nat)) [AV.c (CV.p (PV.v (Value.complex FloatKind.f64 a b))), AV.c (CV.p (PV.sl n fun i => [PV.v (Value.int IntKind.i64 (l i))])), AV.c (CV.p (PV.v (Value.int IntKind.i64 (↑n : Int)))), AV.c (CV.p (PV.v (Value.int IntKind.i64 (↑i : Int))))] [])) := by kernel_rfl
theorem rbeatT_t (n : Nat)  (l : Nat → Int)  (c d : Int)  : fol CK Try.prog (SLo 30 (fun vals h => match vals with | [x, _, _, _] => some ⟨.exit 0, [x, I c, I d, I n], h⟩ | _ => none) (tlS 1000000)) (An.b An.e (An.a An.e)) (T.evQ CK Try.prog (.call 30 [Sl n (Is l)] []) .done) = Sc.br (decide ((↑n : Int) > (4096 : Int))) (Sc.done (Ans.mk Ex.ret [AV.tup [AV.c (CV.p (PV.v (Value.int IntKind.i64 (0 : Int)))), AV.c (CV.p (PV.v (Value.int IntKind.i64 (0 : Int))))]] [])) (Sc.ask (Qry.loop (30 : Nat) (0 : Nat) [(1 : Nat), (1 : Nat), (1 : Nat), (0 : Nat), (1 : Nat), (0 : Nat)] [AV.c (CV.p (PV.sl n fun i => [PV.v (Value.int IntKind.i64 (l i))])), AV.c (CV.p (PV.v (Value.int IntKind.i64 (0 : Int)))), AV.c (CV.p (PV.v (Value.int IntKind.i64 (0 : Int)))), AV.c (CV.p (PV.v (Value.int IntKind.i64 (0 : Int))))] []) (Ans.mk (Ex.exit (0 : Nat)) [AV.c (CV.p (PV.sl n fun i => [PV.v (Value.int IntKind.i64 (l i))])), AV.c (CV.p (PV.v (Value.int IntKind.i64 c))), AV.c (CV.p (PV.v (Value.int IntKind.i64 d))), AV.c (CV.p (PV.v (Value.int IntKind.i64 (↑n : Int))))] []) (Sc.done (Ans.mk Ex.ret [AV.tup [AV.c (CV.p (PV.v (Value.int IntKind.i64 c))), AV.c (CV.p (PV.v (Value.int IntKind.i64 d)))]] []))) := by kernel_rfl
theorem rbeatR_t (n : Nat)  (l : Nat → Int)  (a b : Int)  (i : Nat)  (c d : Int)  : fol CK Try.prog (SLo 30 (fun vals h => match vals with | [x, _, _, _] => some ⟨.exit 0, [x, I c, I d, I n], h⟩ | _ => none) (tlS 1000000)) (An.b (An.c (An.a (An.d (An.b (An.a An.e) (An.b (An.a An.e) (An.b (An.a An.e) (An.a An.e))))))) An.e) (T.evQ CK Try.prog (.loop 30 0 [1, 1, 1, 0, 1, 0] [Sl n (Is l), I a, I b, I i] []) .done) = Sc.br (decide ((↑i : Int) < (↑n : Int))) (Sc.chk ((0 : Int) ≤ (↑i : Int) ∧ (↑i : Int) < (↑n : Int)) (Sc.ask (Qry.call (64 : Nat) [AV.c (CV.p (PV.v (Value.int IntKind.i64 (l (Int.toNat (↑i : Int))))))] []) (Ans.mk Ex.ret [AV.c (CV.p (PV.v (Value.int IntKind.i64 (hold (l (Int.toNat (↑i : Int)))))))] []) (Sc.br (Int.tmod (↑i : Int) (4 : Int) == (0 : Int)) (Sc.ask (Qry.loop (30 : Nat) (0 : Nat) [(1 : Nat), (1 : Nat), (1 : Nat), (0 : Nat), (1 : Nat), (0 : Nat)] [AV.c (CV.p (PV.sl n fun i => [PV.v (Value.int IntKind.i64 (l i))])), AV.c (CV.p (PV.v (Value.int IntKind.i64 (IntKind.wrap IntKind.i64 (a + hold (l (Int.toNat (↑i : Int)))))))), AV.c (CV.p (PV.v (Value.int IntKind.i64 b))), AV.c (CV.p (PV.v (Value.int IntKind.i64 (IntKind.wrap IntKind.i64 ((↑i : Int) + (1 : Int))))))] []) (Ans.mk (Ex.exit (0 : Nat)) [AV.c (CV.p (PV.sl n fun i => [PV.v (Value.int IntKind.i64 (l i))])), AV.c (CV.p (PV.v (Value.int IntKind.i64 c))), AV.c (CV.p (PV.v (Value.int IntKind.i64 d))), AV.c (CV.p (PV.v (Value.int IntKind.i64 (↑n : Int))))] []) (Sc.done (Ans.mk (Ex.exit (0 : Nat)) [AV.c (CV.p (PV.sl n fun i => [PV.v (Value.int IntKind.i64 (l i))])), AV.c (CV.p (PV.v (Value.int IntKind.i64 c))), AV.c (CV.p (PV.v (Value.int IntKind.i64 d))), AV.c (CV.p (PV.v (Value.int IntKind.i64 (↑n : Int))))] []))) (Sc.br (Int.tmod (↑i : Int) (4 : Int) == (1 : Int)) (Sc.ask (Qry.loop (30 : Nat) (0 : Nat) [(1 : Nat), (1 : Nat), (1 : Nat), (0 : Nat), (1 : Nat), (0 : Nat)] [AV.c (CV.p (PV.sl n fun i => [PV.v (Value.int IntKind.i64 (l i))])), AV.c (CV.p (PV.v (Value.int IntKind.i64 a))), AV.c (CV.p (PV.v (Value.int IntKind.i64 (IntKind.wrap IntKind.i64 (b + hold (l (Int.toNat (↑i : Int)))))))), AV.c (CV.p (PV.v (Value.int IntKind.i64 (IntKind.wrap IntKind.i64 ((↑i : Int) + (1 : Int))))))] []) (Ans.mk (Ex.exit (0 : Nat)) [AV.c (CV.p (PV.sl n fun i => [PV.v (Value.int IntKind.i64 (l i))])), AV.c (CV.p (PV.v (Value.int IntKind.i64 c))), AV.c (CV.p (PV.v (Value.int IntKind.i64 d))), AV.c (CV.p (PV.v (Value.int IntKind.i64 (↑n : Int))))] []) (Sc.done (Ans.mk (Ex.exit (0 : Nat)) [AV.c (CV.p (PV.sl n fun i => [PV.v (Value.int IntKind.i64 (l i))])), AV.c (CV.p (PV.v (Value.int IntKind.i64 c))), AV.c (CV.p (PV.v (Value.int IntKind.i64 d))), AV.c (CV.p (PV.v (Value.int IntKind.i64 (↑n : Int))))] []))) (Sc.br (Int.tmod (↑i : Int) (4 : Int) == (2 : Int)) (Sc.ask (Qry.loop (30 : Nat) (0 : Nat) [(1 : Nat), (1 : Nat), (1 : Nat), (0 : Nat), (1 : Nat), (0 : Nat)] [AV.c (CV.p (PV.sl n fun i => [PV.v (Value.int IntKind.i64 (l i))])), AV.c (CV.p (PV.v (Value.int IntKind.i64 (IntKind.wrap IntKind.i64 (a - hold (l (Int.toNat (↑i : Int)))))))), AV.c (CV.p (PV.v (Value.int IntKind.i64 b))), AV.c (CV.p (PV.v (Value.int IntKind.i64 (IntKind.wrap IntKind.i64 ((↑i : Int) + (1 : Int))))))] []) (Ans.mk (Ex.exit (0 : Nat)) [AV.c (CV.p (PV.sl n fun i => [PV.v (Value.int IntKind.i64 (l i))])), AV.c (CV.p (PV.v (Value.int IntKind.i64 c))), AV.c (CV.p (PV.v (Value.int IntKind.i64 d))), AV.c (CV.p (PV.v (Value.int IntKind.i64 (↑n : Int))))] []) (Sc.done (Ans.mk (Ex.exit (0 : Nat)) [AV.c (CV.p (PV.sl n fun i => [PV.v (Value.int IntKind.i64 (l i))])), AV.c (CV.p (PV.v (Value.int IntKind.i64 c))), AV.c (CV.p (PV.v (Value.int IntKind.i64 d))), AV.c (CV.p (PV.v (Value.int IntKind.i64 (↑n : Int))))] []))) (Sc.ask (Qry.loop (30 : Nat) (0 : Nat) [(1 : Nat), (1 : Nat), (1 : Nat), (0 : Nat), (1 : Nat), (0 : Nat)] [AV.c (CV.p (PV.sl n fun i => [PV.v (Value.int IntKind.i64 (l i))])), AV.c (CV.p (PV.v (Value.int IntKind.i64 a))), AV.c (CV.p (PV.v (Value.int IntKind.i64 (IntKind.wrap IntKind.i64 (b - hold (l (Int.toNat (↑i : Int)))))))), AV.c (CV.p (PV.v (Value.int IntKind.i64 (IntKind.wrap IntKind.i64 ((↑i : Int) + (1 : Int))))))] []) (Ans.mk (Ex.exit (0 : Nat)) [AV.c (CV.p (PV.sl n fun i => [PV.v (Value.int IntKind.i64 (l i))])), AV.c (CV.p (PV.v (Value.int IntKind.i64 c))), AV.c (CV.p (PV.v (Value.int IntKind.i64 d))), AV.c (CV.p (PV.v (Value.int IntKind.i64 (↑n : Int))))] []) (Sc.done (Ans.mk (Ex.exit (0 : Nat)) [AV.c (CV.p (PV.sl n fun i => [PV.v (Value.int IntKind.i64 (l i))])), AV.c (CV.p (PV.v (Value.int IntKind.i64 c))), AV.c (CV.p (PV.v (Value.int IntKind.i64 d))), AV.c (CV.p (PV.v (Value.int IntKind.i64 (↑n : Int))))] [])))))))) (Sc.done (Ans.mk (Ex.exit (0 : Nat)) [AV.c (CV.p (PV.sl n fun i => [PV.v (Value.int IntKind.i64 (l i))])), AV.c (CV.p (PV.v (Value.int IntKind.i64 a))), AV.c (CV.p (PV.v (Value.int IntKind.i64 b))), AV.c (CV.p (PV.v (Value.int IntKind.i64 (↑i : Int))))] [])) := by kernel_rfl

theorem hold_bounds (n : Int) : 0 ≤ hold n ∧ hold n ≤ 1099511627776 := by unfold hold; omega
theorem cHold {n : Int} : QOk Try.prog CK (.call 63 [I n] []) ⟨.ret, [I (hold n)], []⟩ := tree_i hP (hold63_t n) rfl
theorem cRHold {n : Int} : QOk Try.prog CK (.call 64 [I n] []) ⟨.ret, [I (hold n)], []⟩ := by
  refine tree_i hP (hold64_t n) ?_
  simp only [Sc.Ok]
  unfold hold
  refine ⟨fun h => ar ?_, fun h => ⟨fun h2 => ar ?_, fun h2 => ar ?_⟩⟩
  all_goals
    simp only [decide_eq_true_iff, decide_eq_false_iff_not] at *
    congr 4
    omega
theorem fv_of (n : Int) (h : -9007199254740992 ≤ n ∧ n ≤ 9007199254740992) : FV (wf n) n := FV.of n (by omega)
theorem fv0 : FV 0 0 := ⟨false, rfl, fun h => absurd rfl h, by decide⟩
theorem fv_hold (n : Int) : FV (wf (hold n)) (hold n) := fv_of _ (by have := hold_bounds n; omega)
theorem fv_plus {a b : Nat} {x y : Int} (ha : FV a x) (hb : FV b y) (h : -9007199254740992 ≤ x + y ∧ x + y ≤ 9007199254740992) : (Ieee.double.add a b).isSome = true ∧ FV ((Ieee.double.add a b).getD 0) (x + y) := by
  obtain ⟨w, h1, h2⟩ := FV.add ha hb (by omega)
  rw [h1]; exact ⟨rfl, h2⟩
theorem fv_eq {a b : Nat} {x y : Int} (ha : FV a x) (hb : FV b y) (h : x = y) : (Ieee.Format.order (FloatKind.format FloatKind.f64) a b == some Ordering.eq) = true := by
  have h1 : Ieee.Format.order (FloatKind.format FloatKind.f64) a b = some (compare x y) := FV.order ha hb
  rw [h1, h]; simp
theorem toIntW_fv {w : Nat} {n : Int} (h : FV w n) : toIntW w = n := by unfold toIntW; rw [h.toInt]; rfl
/-! ### Of the model itself -/
theorem cArch {w : Nat} {n : Int} (h : FV w n) : QOk Try.prog CK (.call 95 [Flt w] []) ⟨.ret, [Flt w], []⟩ := by
  refine QOk.ext (e := Extern.MathFloor.toIntegral "math.archTrunc" .zero) Try.func95 (by kernel_rfl) (by kernel_rfl) (by kernel_rfl) (by kernel_rfl) rfl (fun W => ?_)
  obtain ⟨s, m, p, hr⟩ := h.isNumber
  have hd : FloatKind.f64.decode w = .number s m p := hr
  have ht : FloatKind.f64.encode ((Ieee.Datum.number s m p).integral .zero) = w := by
    have := h.trunc
    rw [hr] at this; exact this
  have hm : ∀ (A : Nat → Sem Value) (D : Array Value → Sem Value), Extern.MathFloor.toIntegral.match_2 (fun _ => Sem Value) #[Value.float FloatKind.f64 w] A D = A w := fun _ _ => rfl
  dsimp only [Extern.MathFloor.toIntegral]
  rw [hm, hd]
  dsimp only
  rw [ht]
  rfl
theorem cBits (w : Nat) : QOk Try.prog CK (.call 98 [Flt w] []) ⟨.ret, [U64 w], []⟩ :=
  QOk.ext (e := Extern.MathFloatBits.float64bits) Try.func98 (by kernel_rfl) (by kernel_rfl) (by kernel_rfl) (by kernel_rfl) rfl (fun W => rfl)
theorem cFrom (n : Int) : QOk Try.prog CK (.call 97 [U64 n] []) ⟨.ret, [Flt n.toNat], []⟩ :=
  QOk.ext (e := Extern.MathFloatBits.float64frombits) Try.func97 (by kernel_rfl) (by kernel_rfl) (by kernel_rfl) (by kernel_rfl) rfl (fun W => rfl)
theorem cTrunc {w : Nat} {n : Int} (h : FV w n) : QOk Try.prog CK (.call 92 [Flt w] []) ⟨.ret, [Flt w], []⟩ :=
  tree_i hP (truncT_t w) ⟨cArch h, rfl⟩
theorem abs_bits {w : Nat} (h : w < 2 ^ 64) : IntKind.wrap IntKind.u64 (↑(BitVec.toNat (BitVec.ofInt (IntKind.bits IntKind.u64) (↑w : Int) &&& ~~~BitVec.ofInt (IntKind.bits IntKind.u64) (9223372036854775808 : Int))) : Int) = ((w % 9223372036854775808 : Nat) : Int) := by
  have e : BitVec.toNat (BitVec.ofInt (IntKind.bits IntKind.u64) (↑w : Int) &&& ~~~BitVec.ofInt (IntKind.bits IntKind.u64) (9223372036854775808 : Int)) = w % 9223372036854775808 := by
    show BitVec.toNat (BitVec.ofInt 64 (↑w : Int) &&& ~~~BitVec.ofInt 64 (9223372036854775808 : Int)) = _
    rw [BitVec.toNat_and, bvN, BitVec.toNat_ofNat, Nat.mod_eq_of_lt h]
    rw [show (~~~BitVec.ofInt 64 (9223372036854775808 : Int)).toNat = 2 ^ 63 - 1 from by decide]
    rw [Nat.and_two_pow_sub_one_eq_mod]
  rw [e, wu64, Nat.mod_eq_of_lt (by omega)]
theorem cAbs {w : Nat} (h : w < 2 ^ 64) : QOk Try.prog CK (.call 93 [Flt w] []) ⟨.ret, [Flt (w % 9223372036854775808)], []⟩ := by
  refine tree_i hP (absT_t w (w % 9223372036854775808)) ?_
  simp only [Sc.Ok, abs_bits h]
  exact ⟨cBits w, cFrom _, trivial⟩
theorem fv53 : FV 4845873199050653696 9007199254740992 := ⟨false, by kernel_rfl, fun _ => ⟨fun h => by simp at h, fun h => absurd h (by decide)⟩, by decide⟩
theorem kind64 {n : Int} (h : -9007199254740992 ≤ n ∧ n ≤ 9007199254740992) : inKind .i64 (some n) = true := by
  have h1 : inKind .i64 (some n) = decide ((-9223372036854775808 : Int) ≤ n ∧ n ≤ 9223372036854775807) := rfl
  rw [h1, decide_eq_true_iff]; omega
theorem fv_abs {w : Nat} {n : Int} (h : FV w n) : FV (w % 9223372036854775808) (n.natAbs : Int) := h.abs
theorem fv_bound {w : Nat} {n : Int} (h : FV w n) : -9007199254740992 ≤ n ∧ n ≤ 9007199254740992 := by
  obtain ⟨_, _, _, hb⟩ := h
  rw [show (2 : Nat) ^ 53 = 9007199254740992 from by decide] at hb
  omega
theorem not_far {w : Nat} {n : Int} (h : FV w n) : (Ieee.Format.order (FloatKind.format FloatKind.f64) (w % 9223372036854775808) 4845873199050653696 == some Ordering.gt) = false := by
  have h2 : Ieee.Format.order (FloatKind.format FloatKind.f64) (w % 9223372036854775808) 4845873199050653696 = some (compare (n.natAbs : Int) 9007199254740992) := FV.order (fv_abs h) fv53
  rw [h2]
  have hb := fv_bound h
  cases hc : compare (n.natAbs : Int) 9007199254740992 with
  | gt =>
    have := Int.compare_eq_gt.1 hc
    omega
  | lt => rfl
  | eq => rfl
theorem is_self {w : Nat} {n : Int} (h : FV w n) : (Ieee.Format.order (FloatKind.format FloatKind.f64) w w != some Ordering.eq) = false := by
  rw [bne, fv_eq h h rfl]; rfl
theorem in_kind {w : Nat} {n : Int} (h : FV w n) : inKind .i64 (Ieee.Datum.toInt Ieee.Toward.zero (Ieee.Format.read Ieee.double w)) = true := by
  rw [h.toInt]; exact kind64 (fv_bound h)
theorem cWhole {w : Nat} {n : Int} (h : FV w n) : QOk Try.prog CK (.call 83 [Flt w] []) ⟨.ret, [I (toIntW w)], []⟩ := by
  refine tree_i hP (wholeT_t w) ?_
  simp only [Sc.Ok]
  refine ⟨cTrunc h, fun h1 => ?_, fun _ => ⟨cAbs h.lt, fun h1 => ?_, fun _ => ⟨in_kind h, rfl⟩⟩⟩
  · rw [is_self h] at h1; cases h1
  · rw [not_far h] at h1; cases h1
theorem cParts {a b : Nat} {x y : Int} (ha : FV a x) (hb : FV b y) : QOk Try.prog CK (.call 62 [Cpx a b] []) ⟨.ret, [.tup [I (toIntW a), I (toIntW b)]], []⟩ :=
  tree_i hP (partsT_t a b) ⟨cWhole ha, cWhole hb, rfl⟩
theorem cOf {a b : Int} : QOk Try.prog CK (.call 26 [I a, I b] []) ⟨.ret, [Cpx (wf (hold a)) (wf (hold b))], []⟩ :=
  tree_i hP (ofT_t a b) ⟨cHold, cHold, rfl⟩
/-! ### Turns -/
theorem turnLoop (K : Nat) (hK : K ≤ 3) : ∀ (k i a b : Nat), i + k = K → QOk Try.prog CK (.loop 27 0 [1, 0, 1, 0] [Cpx a b, I K, I i] []) ⟨.exit 0, [Cpx (trn k (a, b)).1 (trn k (a, b)).2, I K, I K], []⟩
  | 0, i, a, b, hk => by
    refine tree_i hP (turnR_t a b K i 0 0) ?_
    simp only [Sc.Ok]
    refine ⟨fun h => ?_, fun h => ?_⟩
    · rw [decide_eq_true_iff] at h; omega
    · rw [show i = K by omega]; rfl
  | k + 1, i, a, b, hk => by
    have e7 : IntKind.wrap .i64 ((i : Int) + 1) = ((i + 1 : Nat) : Int) := by rw [w64 (by omega)]; omega
    have ih := turnLoop K hK k (i + 1) (ng b) a (by omega)
    refine tree_i hP (turnR_t a b K i (trn k (ng b, a)).1 (trn k (ng b, a)).2) ?_
    simp only [Sc.Ok, e7]
    refine ⟨fun _ => ⟨ih, rfl⟩, fun h => ?_⟩
    rw [decide_eq_false_iff_not] at h; omega
theorem cTurn {a b : Nat} {q : Int} : QOk Try.prog CK (.call 27 [Cpx a b, I q] []) ⟨.ret, [Cpx (trn (q % 4).toNat (a, b)).1 (trn (q % 4).toNat (a, b)).2], []⟩ := by
  have e : IntKind.wrap .i64 (↑(BitVec.toNat (BitVec.ofInt (IntKind.bits IntKind.i64) q &&& BitVec.ofInt (IntKind.bits IntKind.i64) (3 : Int))) : Int) = (((q % 4).toNat : Nat) : Int) := by
    have e1 : BitVec.toNat (BitVec.ofInt (IntKind.bits IntKind.i64) q &&& BitVec.ofInt (IntKind.bits IntKind.i64) (3 : Int)) = (q % 4).toNat := by
      show BitVec.toNat (BitVec.ofInt 64 q &&& BitVec.ofInt 64 (3 : Int)) = _
      rw [BitVec.toNat_and, BitVec.toNat_ofInt]
      rw [show (BitVec.ofInt 64 (3 : Int)).toNat = 2 ^ 2 - 1 from by decide, Nat.and_two_pow_sub_one_eq_mod]
      omega
    rw [e1, w64 (by omega)]
  have hl := turnLoop (q % 4).toNat (by omega) (q % 4).toNat 0 a b (by omega)
  refine tree_i hP (turnT_t a b q (trn (q % 4).toNat (a, b)).1 (trn (q % 4).toNat (a, b)).2 0) ?_
  simp only [Sc.Ok, e]
  exact ⟨hl, trivial⟩
def rot : Nat → Int × Int → Int × Int
  | 0, p => p
  | k + 1, p => rot k (-p.2, p.1)
theorem fv_trn : ∀ (k : Nat) {a b : Nat} {x y : Int}, FV a x → FV b y → FV (trn k (a, b)).1 (rot k (x, y)).1 ∧ FV (trn k (a, b)).2 (rot k (x, y)).2
  | 0, a, b, x, y, ha, hb => ⟨ha, hb⟩
  | k + 1, a, b, x, y, ha, hb => fv_trn k hb.neg ha
theorem rot_add : ∀ (k : Nat) (x y u v : Int), rot k (x + u, y + v) = ((rot k (x, y)).1 + (rot k (u, v)).1, (rot k (x, y)).2 + (rot k (u, v)).2)
  | 0, x, y, u, v => rfl
  | k + 1, x, y, u, v => by
    show rot k (-(y + v), x + u) = _
    rw [show -(y + v) = -y + -v by omega, rot_add k]; rfl
theorem rot_rot : ∀ (m n : Nat) (p : Int × Int), rot n (rot m p) = rot (m + n) p
  | 0, n, p => by rw [Nat.zero_add]; rfl
  | m + 1, n, p => by rw [show m + 1 + n = (m + n) + 1 by omega]; exact rot_rot m n _
theorem rot4 (k : Nat) (p : Int × Int) : rot (k + 4) p = rot k p := by
  show rot k (-(-p.1), -(-p.2)) = rot k p
  rw [Int.neg_neg, Int.neg_neg]
theorem rot_mod : ∀ (k : Nat) (p : Int × Int), rot k p = rot (k % 4) p
  | 0, p => rfl
  | 1, p => rfl
  | 2, p => rfl
  | 3, p => rfl
  | k + 4, p => by rw [rot4, rot_mod k, show (k + 4) % 4 = k % 4 by omega]
theorem rot_le {B : Int} : ∀ (k : Nat) {x y : Int}, (-B ≤ x ∧ x ≤ B) → (-B ≤ y ∧ y ≤ B) → (-B ≤ (rot k (x, y)).1 ∧ (rot k (x, y)).1 ≤ B) ∧ (-B ≤ (rot k (x, y)).2 ∧ (rot k (x, y)).2 ≤ B)
  | 0, x, y, hx, hy => ⟨hx, hy⟩
  | k + 1, x, y, hx, hy => rot_le k (x := -y) (y := x) (by omega) hx
/-! ### Beats -/
theorem bst_rot (l : Nat → Int) (i : Nat) (p : Int × Int) : bst l i p = (p.1 + (rot (i % 4) (hold (l i), 0)).1, p.2 + (rot (i % 4) (hold (l i), 0)).2) := by
  unfold bst
  have : i % 4 < 4 := Nat.mod_lt _ (by decide)
  generalize i % 4 = r at *
  match r, this with
  | 0, _ => simp [rot]
  | 1, _ => simp [rot]
  | 2, _ => simp [rot]; omega
  | 3, _ => simp [rot]; omega
theorem beatLoop (n : Nat) (l : Nat → Int) (hn : n ≤ 4096) : ∀ (k i a b : Nat) (x y : Int), i + k = n → FV a x → FV b y → (-(1099511627776 * i : Int) ≤ x ∧ x ≤ 1099511627776 * i) → (-(1099511627776 * i : Int) ≤ y ∧ y ≤ 1099511627776 * i) →
    ∃ c d, FV c (brun l k i (x, y)).1 ∧ FV d (brun l k i (x, y)).2 ∧ QOk Try.prog CK (.loop 29 0 [1, 1, 1, 0, 1, 0] [Cpx a b, Sl n (Is l), I n, I i] []) ⟨.exit 0, [Cpx c d, Sl n (Is l), I n, I n], []⟩
  | 0, i, a, b, x, y, hk, ha, hb, hx, hy => by
    refine ⟨a, b, ha, hb, tree_i hP (beatR_t n l a b i 0 0) ?_⟩
    simp only [Sc.Ok]
    refine ⟨fun h => ?_, fun h => ?_⟩
    · rw [decide_eq_true_iff] at h; omega
    · rw [show i = n by omega]
  | k + 1, i, a, b, x, y, hk, ha, hb, hx, hy => by
    have e7 : IntKind.wrap .i64 ((i : Int) + 1) = ((i + 1 : Nat) : Int) := by rw [w64 (by omega)]; omega
    have e4 : ((i : Int) % 4).toNat = i % 4 := by omega
    have hh := hold_bounds (l i)
    obtain ⟨f1, f2⟩ := fv_trn (i % 4) (fv_hold (l i)) fv0
    obtain ⟨g1, g2⟩ := rot_le (B := 1099511627776) (i % 4) (x := hold (l i)) (y := 0) (by omega) (by omega)
    obtain ⟨s1, s2⟩ := fv_plus ha f1 (by omega)
    obtain ⟨t1, t2⟩ := fv_plus hb f2 (by omega)
    obtain ⟨c, d, hc, hd, ih⟩ := beatLoop n l hn k (i + 1) _ _ _ _ (by omega) s2 t2 (by omega) (by omega)
    have hr : brun l (k + 1) i (x, y) = brun l k (i + 1) (x + (rot (i % 4) (hold (l i), 0)).1, y + (rot (i % 4) (hold (l i), 0)).2) := by
      show brun l k (i + 1) (bst l i (x, y)) = _
      rw [bst_rot]
    rw [hr]
    refine ⟨c, d, hc, hd, tree_i hP (beatR_t n l a b i c d) ?_⟩
    have qt := cTurn (a := wf (hold (l i))) (b := 0) (q := (i : Int))
    rw [e4] at qt
    simp only [Sc.Ok, Int.toNat_natCast, e7, e4]
    refine ⟨fun _ => ⟨by omega, cOf, qt, by rw [s1, t1]; rfl, ih, trivial⟩, fun h => ?_⟩
    rw [decide_eq_false_iff_not] at h; omega
theorem cBeat {n : Nat} {l : Nat → Int} : QOk Try.prog CK (.call 29 [Sl n (Is l)] []) ⟨.ret, [.tup [I (beat n l).1, I (beat n l).2]], []⟩ := by
  unfold beat
  cases hn : Nat.ble n 4096 with
  | false =>
    have hn : ¬ n ≤ 4096 := fun h => by rw [Nat.ble_eq_true_of_le h] at hn; cases hn
    refine tree_i hP (beatT_t n l 0 0) ?_
    simp only [Sc.Ok]
    refine ⟨fun _ => trivial, fun h => ?_⟩
    rw [decide_eq_false_iff_not] at h; omega
  | true =>
    have hn : n ≤ 4096 := Nat.le_of_ble_eq_true hn
    obtain ⟨c, d, hc, hd, hl⟩ := beatLoop n l hn n 0 0 0 0 0 (by omega) fv0 fv0 (by omega) (by omega)
    refine tree_i hP (beatT_t n l c d) ?_
    simp only [Sc.Ok]
    refine ⟨fun h => ?_, fun _ => ⟨hl, cParts hc hd, ?_⟩⟩
    · rw [decide_eq_true_iff] at h; omega
    · rw [toIntW_fv hc, toIntW_fv hd]
theorem rbeatLoop (n : Nat) (l : Nat → Int) (hn : n ≤ 4096) : ∀ (k i : Nat) (x y : Int), i + k = n → (-(1099511627776 * i : Int) ≤ x ∧ x ≤ 1099511627776 * i) → (-(1099511627776 * i : Int) ≤ y ∧ y ≤ 1099511627776 * i) →
    QOk Try.prog CK (.loop 30 0 [1, 1, 1, 0, 1, 0] [Sl n (Is l), I x, I y, I i] []) ⟨.exit 0, [Sl n (Is l), I (brun l k i (x, y)).1, I (brun l k i (x, y)).2, I n], []⟩
  | 0, i, x, y, hk, hx, hy => by
    refine tree_i hP (rbeatR_t n l x y i 0 0) ?_
    simp only [Sc.Ok]
    refine ⟨fun h => ?_, fun h => ?_⟩
    · rw [decide_eq_true_iff] at h; omega
    · rw [show i = n by omega]; rfl
  | k + 1, i, x, y, hk, hx, hy => by
    have e7 : IntKind.wrap .i64 ((i : Int) + 1) = ((i + 1 : Nat) : Int) := by rw [w64 (by omega)]; omega
    have hh := hold_bounds (l i)
    have hm : Int.tmod (i : Int) (4 : Int) = ((i % 4 : Nat) : Int) := tmodN i 4
    have a1 : IntKind.wrap .i64 (x + hold (l i)) = x + hold (l i) := w64 (by omega)
    have a2 : IntKind.wrap .i64 (y + hold (l i)) = y + hold (l i) := w64 (by omega)
    have a3 : IntKind.wrap .i64 (x - hold (l i)) = x - hold (l i) := w64 (by omega)
    have a4 : IntKind.wrap .i64 (y - hold (l i)) = y - hold (l i) := w64 (by omega)
    have hr : brun l (k + 1) i (x, y) = brun l k (i + 1) (bst l i (x, y)) := rfl
    have hr4 : i % 4 < 4 := Nat.mod_lt _ (by decide)
    rw [hr]
    refine tree_i hP (rbeatR_t n l x y i (brun l k (i + 1) (bst l i (x, y))).1 (brun l k (i + 1) (bst l i (x, y))).2) ?_
    simp only [Sc.Ok, Int.toNat_natCast, e7, hm, a1, a2, a3, a4]
    refine ⟨fun _ => ⟨by omega, cRHold, fun h => ⟨?_, trivial⟩, fun h0 => ⟨fun h => ⟨?_, trivial⟩, fun h1 => ⟨fun h => ⟨?_, trivial⟩, fun h2 => ⟨?_, trivial⟩⟩⟩⟩, fun h => ?_⟩
    · have hb : bst l i (x, y) = (x + hold (l i), y) := by unfold bst; rw [show i % 4 = 0 by simp at h; omega]; rfl
      rw [hb]; exact rbeatLoop n l hn k (i + 1) _ _ (by omega) (by omega) (by omega)
    · have hb : bst l i (x, y) = (x, y + hold (l i)) := by unfold bst; rw [show i % 4 = 1 by simp at h; omega]; rfl
      rw [hb]; exact rbeatLoop n l hn k (i + 1) _ _ (by omega) (by omega) (by omega)
    · have hb : bst l i (x, y) = (x - hold (l i), y) := by unfold bst; rw [show i % 4 = 2 by simp at h; omega]; rfl
      rw [hb]; exact rbeatLoop n l hn k (i + 1) _ _ (by omega) (by omega) (by omega)
    · have hb : bst l i (x, y) = (x, y - hold (l i)) := by unfold bst; rw [show i % 4 = 3 by simp at h0 h1 h2; omega]; rfl
      rw [hb]; exact rbeatLoop n l hn k (i + 1) _ _ (by omega) (by omega) (by omega)
    · rw [decide_eq_false_iff_not] at h; omega
theorem cRBeat {n : Nat} {l : Nat → Int} : QOk Try.prog CK (.call 30 [Sl n (Is l)] []) ⟨.ret, [.tup [I (beat n l).1, I (beat n l).2]], []⟩ := by
  unfold beat
  cases hn : Nat.ble n 4096 with
  | false =>
    have hn : ¬ n ≤ 4096 := fun h => by rw [Nat.ble_eq_true_of_le h] at hn; cases hn
    refine tree_i hP (rbeatT_t n l 0 0) ?_
    simp only [Sc.Ok]
    refine ⟨fun _ => trivial, fun h => ?_⟩
    rw [decide_eq_false_iff_not] at h; omega
  | true =>
    have hn : n ≤ 4096 := Nat.le_of_ble_eq_true hn
    have hl := rbeatLoop n l hn n 0 0 0 (by omega) (by omega) (by omega)
    refine tree_i hP (rbeatT_t n l (brun l n 0 (0, 0)).1 (brun l n 0 (0, 0)).2) ?_
    simp only [Sc.Ok]
    refine ⟨fun h => ?_, fun _ => ⟨hl, trivial⟩⟩
    rw [decide_eq_true_iff] at h; omega
end Tally
end Go.Fx
