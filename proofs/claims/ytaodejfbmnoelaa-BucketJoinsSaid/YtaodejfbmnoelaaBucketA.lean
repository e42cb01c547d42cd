/- Buckets: what the functions answer, and that BucketRight answers true. -/
import Derived.Test.YtaodejfbmnoelaaFxU
import Derived.Test.YtaodejfbmnoelaaChecked
set_option maxRecDepth 100000
set_option linter.unusedVariables false
set_option linter.unusedSimpArgs false
namespace Go.Fx
open Go.Proofs
theorem hP : progOk Try.prog = true := by kernel_rfl
namespace Bucket
abbrev Bk (r h : Int) : AV := .agg [i64 r, i64 h]
/-- Is the bucket right? -/
def bright (r h : Int) : Bool := decide (r ≥ 0) && decide (r ≤ 2147483647) && decide (h ≥ 0) && decide (h ≤ r)
def btake (r h n : Int) : Int := if n < 0 then h else if bright r h then (if n ≤ h then h - n else 0) else h
def benough (r h n : Int) : Bool := decide (n ≥ 0) && bright r h && decide (n ≤ h)
def bput (r h n : Int) : Int := if n < 0 then h else if bright r h then (if h + n ≤ r then h + n else r) else h
def bnew (r h : Int) : AV := .tup [Bk (if bright r h then r else 0) (if bright r h then h else 0), I (if bright r h then 0 else 1)]
def sRight : List AV → Option AV
  | [.agg [.p (.v (.int _ r)), .p (.v (.int _ h))]] => some (B (bright r h))
  | _ => none
def sNew : List AV → Option AV
  | [.c (.p (.v (.int _ r))), .c (.p (.v (.int _ h)))] => some (bnew r h)
  | _ => none
def sTake : List AV → Option AV
  | [.agg [.p (.v (.int _ r)), .p (.v (.int _ h))], .c (.p (.v (.int _ n)))] => some (.tup [Bk r (btake r h n), B (benough r h n)])
  | _ => none
def sPut : List AV → Option AV
  | [.agg [.p (.v (.int _ r)), .p (.v (.int _ h))], .c (.p (.v (.int _ n)))] => some (Bk r (bput r h n))
  | _ => none
def SB : Qry → Option Ans := spec [(28, sRight), (25, sRight), (24, sNew), (26, sTake), (27, sTake), (29, sPut), (30, sPut), (23, sT)] []
theorem right28_t (r h : Int)  : fol SB (An.d (An.b (An.l (An.d (An.l (An.l (An.b (An.l (An.d (An.l (An.l (An.b (An.l (An.d (An.l (An.l (An.d (An.l (An.l An.e))))))) (An.l (An.l (An.l (An.l (An.l An.e)))))))))) (An.l (An.l (An.l (An.l (An.l (An.l (An.l (An.l (An.l An.e)))))))))))))) (An.l (An.l (An.l (An.l (An.l (An.l (An.l (An.l (An.l (An.l (An.l (An.l (An.l An.e))))))))))))))) (T.evQ C0 Try.prog (.call 28 [Bk r h] []) .done) = Sc.br (decide (r ≥ (0 : Int))) (Sc.br (decide (r ≤ (2147483647 : Int))) (Sc.br (decide (h ≥ (0 : Int))) (Sc.done (Ans.mk Ex.ret [AV.c (CV.p (PV.v (Value.bool (decide (h ≤ r)))))] [])) (Sc.done (Ans.mk Ex.ret [AV.c (CV.p (PV.v (Value.bool false)))] []))) (Sc.done (Ans.mk Ex.ret [AV.c (CV.p (PV.v (Value.bool false)))] []))) (Sc.done (Ans.mk Ex.ret [AV.c (CV.p (PV.v (Value.bool false)))] [])) := by kernel_rfl
theorem right25_t (r h : Int)  : fol SB (An.d (An.b (An.l (An.d (An.l (An.l (An.d (An.l (An.l (An.b (An.l (An.d (An.l (An.l An.e)))) (An.l (An.l (An.l An.e))))))))))) (An.l (An.l (An.l (An.l (An.l (An.l (An.l (An.l (An.l An.e))))))))))) (T.evQ C0 Try.prog (.call 25 [Bk r h] []) .done) = Sc.br (decide (r ≤ (2147483647 : Int))) (Sc.br (decide (h ≤ r)) (Sc.done (Ans.mk Ex.ret [AV.c (CV.p (PV.v (Value.bool (decide (h ≥ (0 : Int))))))] [])) (Sc.done (Ans.mk Ex.ret [AV.c (CV.p (PV.v (Value.bool false)))] []))) (Sc.done (Ans.mk Ex.ret [AV.c (CV.p (PV.v (Value.bool false)))] [])) := by kernel_rfl
theorem new24_t (r h : Int)  : fol SB (An.d (An.d (An.a (An.b (An.d (An.d An.e)) (An.d (An.d (An.d An.e))))))) (T.evQ C0 Try.prog (.call 24 [I r, I h] []) .done) = Sc.ask (Qry.call (28 : Nat) [AV.agg [CV.p (PV.v (Value.int IntKind.i64 r)), CV.p (PV.v (Value.int IntKind.i64 h))]] []) (Ans.mk Ex.ret [AV.c (CV.p (PV.v (Value.bool (bright r h))))] []) (Sc.br (!bright r h) (Sc.done (Ans.mk Ex.ret [AV.tup [AV.agg [CV.p (PV.v (Value.int IntKind.i64 (0 : Int))), CV.p (PV.v (Value.int IntKind.i64 (0 : Int)))], AV.c (CV.p (PV.v (Value.int IntKind.i64 (1 : Int))))]] [])) (Sc.done (Ans.mk Ex.ret [AV.tup [AV.agg [CV.p (PV.v (Value.int IntKind.i64 r)), CV.p (PV.v (Value.int IntKind.i64 h))], AV.c (CV.p (PV.v (Value.int IntKind.i64 (0 : Int))))]] []))) := by kernel_rfl
theorem take26_t (r h n : Int)  : fol SB (An.b (An.l (An.l (An.l (An.l (An.d (An.d (An.d An.e))))))) (An.d (An.l (An.a (An.l (An.l (An.b (An.d (An.d (An.d An.e))) (An.d (An.d (An.d (An.d (An.d (An.d (An.d An.e)))))))))))))) (T.evQ C0 Try.prog (.call 26 [Bk r h, I n] []) .done) = Sc.br (decide (n < (0 : Int))) (Sc.done (Ans.mk Ex.ret [AV.tup [AV.agg [CV.p (PV.v (Value.int IntKind.i64 r)), CV.p (PV.v (Value.int IntKind.i64 h))], AV.c (CV.p (PV.v (Value.bool false)))]] [])) (Sc.ask (Qry.call (28 : Nat) [AV.agg [CV.p (PV.v (Value.int IntKind.i64 r)), CV.p (PV.v (Value.int IntKind.i64 h))]] []) (Ans.mk Ex.ret [AV.c (CV.p (PV.v (Value.bool (bright r h))))] []) (Sc.br (!bright r h) (Sc.done (Ans.mk Ex.ret [AV.tup [AV.agg [CV.p (PV.v (Value.int IntKind.i64 r)), CV.p (PV.v (Value.int IntKind.i64 h))], AV.c (CV.p (PV.v (Value.bool false)))]] [])) (Sc.done (Ans.mk Ex.ret [AV.tup [AV.agg [CV.p (PV.v (Value.int IntKind.i64 r)), CV.p (PV.v (Value.int IntKind.i64 (IntKind.wrap IntKind.i64 (h - min n h))))], AV.c (CV.p (PV.v (Value.bool (decide (n ≤ h)))))]] [])))) := by kernel_rfl
theorem take27_t (r h n : Int)  : fol SB (An.d (An.a (An.b (An.l (An.l (An.l (An.d (An.d (An.d An.e)))))) (An.l (An.l (An.b (An.d (An.d (An.d An.e))) (An.d (An.b (An.d (An.d (An.d An.e))) (An.d (An.d (An.d (An.d An.e)))))))))))) (T.evQ C0 Try.prog (.call 27 [Bk r h, I n] []) .done) = Sc.ask (Qry.call (25 : Nat) [AV.agg [CV.p (PV.v (Value.int IntKind.i64 r)), CV.p (PV.v (Value.int IntKind.i64 h))]] []) (Ans.mk Ex.ret [AV.c (CV.p (PV.v (Value.bool (bright r h))))] []) (Sc.br (!bright r h) (Sc.done (Ans.mk Ex.ret [AV.tup [AV.agg [CV.p (PV.v (Value.int IntKind.i64 r)), CV.p (PV.v (Value.int IntKind.i64 h))], AV.c (CV.p (PV.v (Value.bool false)))]] [])) (Sc.br (decide (n < (0 : Int))) (Sc.done (Ans.mk Ex.ret [AV.tup [AV.agg [CV.p (PV.v (Value.int IntKind.i64 r)), CV.p (PV.v (Value.int IntKind.i64 h))], AV.c (CV.p (PV.v (Value.bool false)))]] [])) (Sc.br (decide (n > h)) (Sc.done (Ans.mk Ex.ret [AV.tup [AV.agg [CV.p (PV.v (Value.int IntKind.i64 r)), CV.p (PV.v (Value.int IntKind.i64 (0 : Int)))], AV.c (CV.p (PV.v (Value.bool false)))]] [])) (Sc.done (Ans.mk Ex.ret [AV.tup [AV.agg [CV.p (PV.v (Value.int IntKind.i64 r)), CV.p (PV.v (Value.int IntKind.i64 (IntKind.wrap IntKind.i64 (h - n))))], AV.c (CV.p (PV.v (Value.bool true)))]] []))))) := by kernel_rfl
theorem put29_t (r h n : Int)  : fol SB (An.b (An.l (An.l (An.l (An.l (An.d (An.d (An.d An.e))))))) (An.d (An.l (An.a (An.l (An.l (An.b (An.d (An.d (An.d An.e))) (An.d (An.d (An.d (An.d (An.d (An.d (An.d An.e)))))))))))))) (T.evQ C0 Try.prog (.call 29 [Bk r h, I n] []) .done) = Sc.br (decide (n < (0 : Int))) (Sc.done (Ans.mk Ex.ret [AV.agg [CV.p (PV.v (Value.int IntKind.i64 r)), CV.p (PV.v (Value.int IntKind.i64 h))]] [])) (Sc.ask (Qry.call (28 : Nat) [AV.agg [CV.p (PV.v (Value.int IntKind.i64 r)), CV.p (PV.v (Value.int IntKind.i64 h))]] []) (Ans.mk Ex.ret [AV.c (CV.p (PV.v (Value.bool (bright r h))))] []) (Sc.br (!bright r h) (Sc.done (Ans.mk Ex.ret [AV.agg [CV.p (PV.v (Value.int IntKind.i64 r)), CV.p (PV.v (Value.int IntKind.i64 h))]] [])) (Sc.done (Ans.mk Ex.ret [AV.agg [CV.p (PV.v (Value.int IntKind.i64 r)), CV.p (PV.v (Value.int IntKind.i64 (IntKind.wrap IntKind.i64 (h + min n (IntKind.wrap IntKind.i64 (r - h))))))]] [])))) := by kernel_rfl
theorem put30_t (r h n : Int)  : fol SB (An.d (An.a (An.b (An.l (An.l (An.l (An.d (An.d (An.d An.e)))))) (An.l (An.l (An.b (An.d (An.d (An.d An.e))) (An.d (An.b (An.l (An.l (An.l (An.l (An.l (An.l (An.l (An.l (An.d (An.d (An.d (An.d An.e)))))))))))) (An.l (An.d (An.l (An.l (An.l (An.l (An.d (An.l (An.l (An.b (An.d (An.d (An.d (An.d An.e)))) (An.d (An.d (An.d (An.d An.e)))))))))))))))))))))) (T.evQ C0 Try.prog (.call 30 [Bk r h, I n] []) .done) = Sc.ask (Qry.call (25 : Nat) [AV.agg [CV.p (PV.v (Value.int IntKind.i64 r)), CV.p (PV.v (Value.int IntKind.i64 h))]] []) (Ans.mk Ex.ret [AV.c (CV.p (PV.v (Value.bool (bright r h))))] []) (Sc.br (!bright r h) (Sc.done (Ans.mk Ex.ret [AV.agg [CV.p (PV.v (Value.int IntKind.i64 r)), CV.p (PV.v (Value.int IntKind.i64 h))]] [])) (Sc.br (decide (n < (0 : Int))) (Sc.done (Ans.mk Ex.ret [AV.agg [CV.p (PV.v (Value.int IntKind.i64 r)), CV.p (PV.v (Value.int IntKind.i64 h))]] [])) (Sc.br (decide (n > r)) (Sc.done (Ans.mk Ex.ret [AV.agg [CV.p (PV.v (Value.int IntKind.i64 r)), CV.p (PV.v (Value.int IntKind.i64 r))]] [])) (Sc.br (decide (IntKind.wrap IntKind.i64 (h + n) > r)) (Sc.done (Ans.mk Ex.ret [AV.agg [CV.p (PV.v (Value.int IntKind.i64 r)), CV.p (PV.v (Value.int IntKind.i64 r))]] [])) (Sc.done (Ans.mk Ex.ret [AV.agg [CV.p (PV.v (Value.int IntKind.i64 r)), CV.p (PV.v (Value.int IntKind.i64 (IntKind.wrap IntKind.i64 (h + n))))]] [])))))) := by kernel_rfl
theorem law6_t (r h n room has : Int)  : fol SB (An.a (An.l (An.a (An.d (An.d (An.d (An.a (An.b (An.b (An.l (An.l (An.l (An.l An.e)))) (An.d (An.l (An.d (An.l (An.l (An.b An.e (An.d (An.a (An.d (An.d (An.a (An.d (An.d (An.a (An.d (An.a (An.b (An.d (An.l (An.d (An.l (An.l (An.b (An.l (An.l (An.l (An.b (An.d (An.l (An.l (An.a (An.l (An.d (An.l (An.l (An.a (An.l (An.l An.e))))))))))) (An.l (An.l (An.l (An.l (An.l (An.l (An.l An.e))))))))))) (An.l (An.l (An.l (An.l (An.l (An.l (An.l (An.l (An.l (An.l (An.l An.e))))))))))))))))) (An.l (An.l (An.l (An.l (An.l (An.l (An.l (An.l (An.l (An.l (An.l (An.l (An.l (An.l (An.l An.e))))))))))))))))))))))))))))))))) (An.b (An.l (An.l (An.l (An.l An.e)))) (An.d (An.l (An.l (An.l (An.b An.e (An.d (An.a (An.d (An.d (An.a (An.d (An.d (An.a (An.d (An.a (An.b (An.d (An.l (An.d (An.l (An.l (An.b (An.l (An.l (An.l (An.b (An.d (An.l (An.l (An.a (An.l (An.d (An.l (An.l (An.a (An.l (An.l An.e))))))))))) (An.l (An.l (An.l (An.l (An.l (An.l (An.l An.e))))))))))) (An.l (An.l (An.l (An.l (An.l (An.l (An.l (An.l (An.l (An.l (An.l An.e))))))))))))))))) (An.l (An.l (An.l (An.l (An.l (An.l (An.l (An.l (An.l (An.l (An.l (An.l (An.l (An.l (An.l An.e)))))))))))))))))))))))))))))))))))))))) (T.evQ C0 Try.prog (.call 6 [Bk r h, I n, I room, I has] []) .done) = Sc.ask (Qry.call (23 : Nat) [] []) (Ans.mk Ex.ret [AV.c (CV.p (PV.v (Value.bool true)))] []) (Sc.ask (Qry.call (24 : Nat) [AV.c (CV.p (PV.v (Value.int IntKind.i64 room))), AV.c (CV.p (PV.v (Value.int IntKind.i64 has)))] []) (Ans.mk Ex.ret [AV.tup [AV.agg [CV.p (PV.v (Value.int IntKind.i64 (if bright room has = true then room else (0 : Int)))), CV.p (PV.v (Value.int IntKind.i64 (if bright room has = true then has else (0 : Int))))], AV.c (CV.p (PV.v (Value.int IntKind.i64 (if bright room has = true then (0 : Int) else (1 : Int)))))]] []) (Sc.ask (Qry.call (25 : Nat) [AV.agg [CV.p (PV.v (Value.int IntKind.i64 room)), CV.p (PV.v (Value.int IntKind.i64 has))]] []) (Ans.mk Ex.ret [AV.c (CV.p (PV.v (Value.bool (bright room has))))] []) (Sc.br (bright room has) (Sc.br ((if bright room has = true then (0 : Int) else (1 : Int)) != (0 : Int)) (Sc.done (Ans.mk Ex.ret [AV.c (CV.p (PV.v (Value.bool false)))] [])) (Sc.br (!((if bright room has = true then room else (0 : Int)) == room && ((if bright room has = true then has else (0 : Int)) == has && true))) (Sc.done (Ans.mk Ex.ret [AV.c (CV.p (PV.v (Value.bool false)))] [])) (Sc.ask (Qry.call (26 : Nat) [AV.agg [CV.p (PV.v (Value.int IntKind.i64 r)), CV.p (PV.v (Value.int IntKind.i64 h))], AV.c (CV.p (PV.v (Value.int IntKind.i64 n)))] []) (Ans.mk Ex.ret [AV.tup [AV.agg [CV.p (PV.v (Value.int IntKind.i64 r)), CV.p (PV.v (Value.int IntKind.i64 (btake r h n)))], AV.c (CV.p (PV.v (Value.bool (benough r h n))))]] []) (Sc.ask (Qry.call (27 : Nat) [AV.agg [CV.p (PV.v (Value.int IntKind.i64 r)), CV.p (PV.v (Value.int IntKind.i64 h))], AV.c (CV.p (PV.v (Value.int IntKind.i64 n)))] []) (Ans.mk Ex.ret [AV.tup [AV.agg [CV.p (PV.v (Value.int IntKind.i64 r)), CV.p (PV.v (Value.int IntKind.i64 (btake r h n)))], AV.c (CV.p (PV.v (Value.bool (benough r h n))))]] []) (Sc.ask (Qry.call (28 : Nat) [AV.agg [CV.p (PV.v (Value.int IntKind.i64 r)), CV.p (PV.v (Value.int IntKind.i64 h))]] []) (Ans.mk Ex.ret [AV.c (CV.p (PV.v (Value.bool (bright r h))))] []) (Sc.ask (Qry.call (25 : Nat) [AV.agg [CV.p (PV.v (Value.int IntKind.i64 r)), CV.p (PV.v (Value.int IntKind.i64 h))]] []) (Ans.mk Ex.ret [AV.c (CV.p (PV.v (Value.bool (bright r h))))] []) (Sc.br (bright r h == bright r h) (Sc.br (r == r && (btake r h n == btake r h n && true)) (Sc.br (benough r h n == benough r h n) (Sc.ask (Qry.call (29 : Nat) [AV.agg [CV.p (PV.v (Value.int IntKind.i64 r)), CV.p (PV.v (Value.int IntKind.i64 h))], AV.c (CV.p (PV.v (Value.int IntKind.i64 n)))] []) (Ans.mk Ex.ret [AV.agg [CV.p (PV.v (Value.int IntKind.i64 r)), CV.p (PV.v (Value.int IntKind.i64 (bput r h n)))]] []) (Sc.ask (Qry.call (30 : Nat) [AV.agg [CV.p (PV.v (Value.int IntKind.i64 r)), CV.p (PV.v (Value.int IntKind.i64 h))], AV.c (CV.p (PV.v (Value.int IntKind.i64 n)))] []) (Ans.mk Ex.ret [AV.agg [CV.p (PV.v (Value.int IntKind.i64 r)), CV.p (PV.v (Value.int IntKind.i64 (bput r h n)))]] []) (Sc.done (Ans.mk Ex.ret [AV.c (CV.p (PV.v (Value.bool (r == r && (bput r h n == bput r h n && true)))))] [])))) (Sc.done (Ans.mk Ex.ret [AV.c (CV.p (PV.v (Value.bool false)))] []))) (Sc.done (Ans.mk Ex.ret [AV.c (CV.p (PV.v (Value.bool false)))] []))) (Sc.done (Ans.mk Ex.ret [AV.c (CV.p (PV.v (Value.bool false)))] []))))))))) (Sc.br ((if bright room has = true then (0 : Int) else (1 : Int)) != (1 : Int)) (Sc.done (Ans.mk Ex.ret [AV.c (CV.p (PV.v (Value.bool false)))] [])) (Sc.br (!((if bright room has = true then room else (0 : Int)) == (0 : Int) && ((if bright room has = true then has else (0 : Int)) == (0 : Int) && true))) (Sc.done (Ans.mk Ex.ret [AV.c (CV.p (PV.v (Value.bool false)))] [])) (Sc.ask (Qry.call (26 : Nat) [AV.agg [CV.p (PV.v (Value.int IntKind.i64 r)), CV.p (PV.v (Value.int IntKind.i64 h))], AV.c (CV.p (PV.v (Value.int IntKind.i64 n)))] []) (Ans.mk Ex.ret [AV.tup [AV.agg [CV.p (PV.v (Value.int IntKind.i64 r)), CV.p (PV.v (Value.int IntKind.i64 (btake r h n)))], AV.c (CV.p (PV.v (Value.bool (benough r h n))))]] []) (Sc.ask (Qry.call (27 : Nat) [AV.agg [CV.p (PV.v (Value.int IntKind.i64 r)), CV.p (PV.v (Value.int IntKind.i64 h))], AV.c (CV.p (PV.v (Value.int IntKind.i64 n)))] []) (Ans.mk Ex.ret [AV.tup [AV.agg [CV.p (PV.v (Value.int IntKind.i64 r)), CV.p (PV.v (Value.int IntKind.i64 (btake r h n)))], AV.c (CV.p (PV.v (Value.bool (benough r h n))))]] []) (Sc.ask (Qry.call (28 : Nat) [AV.agg [CV.p (PV.v (Value.int IntKind.i64 r)), CV.p (PV.v (Value.int IntKind.i64 h))]] []) (Ans.mk Ex.ret [AV.c (CV.p (PV.v (Value.bool (bright r h))))] []) (Sc.ask (Qry.call (25 : Nat) [AV.agg [CV.p (PV.v (Value.int IntKind.i64 r)), CV.p (PV.v (Value.int IntKind.i64 h))]] []) (Ans.mk Ex.ret [AV.c (CV.p (PV.v (Value.bool (bright r h))))] []) (Sc.br (bright r h == bright r h) (Sc.br (r == r && (btake r h n == btake r h n && true)) (Sc.br (benough r h n == benough r h n) (Sc.ask (Qry.call (29 : Nat) [AV.agg [CV.p (PV.v (Value.int IntKind.i64 r)), CV.p (PV.v (Value.int IntKind.i64 h))], AV.c (CV.p (PV.v (Value.int IntKind.i64 n)))] []) (Ans.mk Ex.ret [AV.agg [CV.p (PV.v (Value.int IntKind.i64 r)), CV.p (PV.v (Value.int IntKind.i64 (bput r h n)))]] []) (Sc.ask (Qry.call (30 : Nat) [AV.agg [CV.p (PV.v (Value.int IntKind.i64 r)), CV.p (PV.v (Value.int IntKind.i64 h))], AV.c (CV.p (PV.v (Value.int IntKind.i64 n)))] []) (Ans.mk Ex.ret [AV.agg [CV.p (PV.v (Value.int IntKind.i64 r)), CV.p (PV.v (Value.int IntKind.i64 (bput r h n)))]] []) (Sc.done (Ans.mk Ex.ret [AV.c (CV.p (PV.v (Value.bool (r == r && (bput r h n == bput r h n && true)))))] [])))) (Sc.done (Ans.mk Ex.ret [AV.c (CV.p (PV.v (Value.bool false)))] []))) (Sc.done (Ans.mk Ex.ret [AV.c (CV.p (PV.v (Value.bool false)))] []))) (Sc.done (Ans.mk Ex.ret [AV.c (CV.p (PV.v (Value.bool false)))] [])))))))))))) := by kernel_rfl

theorem right28 (r h : Int) : QOk Try.prog C0 (.call 28 [Bk r h] []) ⟨.ret, [B (bright r h)], []⟩ := by
  refine tree_i hP (right28_t r h) ?_
  simp only [Sc.Ok, bright]
  refine ⟨fun h1 => ⟨fun h2 => ⟨fun h3 => ?_, fun h3 => ?_⟩, fun h2 => ?_⟩, fun h1 => ?_⟩ <;> simp [*]
theorem right25 (r h : Int) : QOk Try.prog C0 (.call 25 [Bk r h] []) ⟨.ret, [B (bright r h)], []⟩ := by
  refine tree_i hP (right25_t r h) ?_
  simp only [Sc.Ok, bright]
  refine ⟨fun h1 => ⟨fun h2 => ?_, fun h2 => ?_⟩, fun h1 => ?_⟩ <;> refine ar (congrArg B ?_) <;> (rw [Bool.eq_iff_iff]; simp at h1; try simp at h2) <;> simp <;> omega
theorem new24 (r h : Int) : QOk Try.prog C0 (.call 24 [I r, I h] []) ⟨.ret, [bnew r h], []⟩ := by
  refine tree_i hP (new24_t r h) ?_
  simp only [Sc.Ok]
  refine ⟨right28 r h, fun h1 => ?_, fun h1 => ?_⟩ <;> simp at h1 <;> simp [bnew, h1]
theorem bright_iff (r h : Int) : bright r h = true ↔ 0 ≤ h ∧ h ≤ r ∧ r ≤ 2147483647 := by
  unfold bright; simp; omega
theorem take26 (r h n : Int) : QOk Try.prog C0 (.call 26 [Bk r h, I n] []) ⟨.ret, [.tup [Bk r (btake r h n), B (benough r h n)]], []⟩ := by
  refine tree_i hP (take26_t r h n) ?_
  simp only [Sc.Ok]
  refine ⟨fun h1 => ?_, fun h1 => ⟨right28 r h, fun h2 => ?_, fun h2 => ?_⟩⟩
  · simp at h1; simp [btake, benough, h1, show ¬ 0 ≤ n by omega]
  · simp at h1 h2; simp [btake, benough, h1, h2]
  · simp at h1 h2
    have := (bright_iff r h).1 h2
    rw [IntWalk.i64_in _ (by omega)]
    simp [btake, benough, h1, h2]
    rw [if_neg (by omega)]
    split <;> omega
theorem take27 (r h n : Int) : QOk Try.prog C0 (.call 27 [Bk r h, I n] []) ⟨.ret, [.tup [Bk r (btake r h n), B (benough r h n)]], []⟩ := by
  refine tree_i hP (take27_t r h n) ?_
  simp only [Sc.Ok]
  refine ⟨right25 r h, fun h1 => ?_, fun h1 => ⟨fun h2 => ?_, fun h2 => ⟨fun h3 => ?_, fun h3 => ?_⟩⟩⟩
  · simp at h1; simp [btake, benough, h1]
  · simp at h1 h2; simp [btake, benough, h1, h2, show ¬ 0 ≤ n by omega]
  · simp at h1 h2 h3
    simp [btake, benough, h1, h2, show ¬ n < 0 by omega, show ¬ n ≤ h by omega]
  · simp at h1 h2 h3
    have := (bright_iff r h).1 h1
    rw [IntWalk.i64_in _ (by omega)]
    simp [btake, benough, h1, h2, h3, show ¬ n < 0 by omega]
theorem put29 (r h n : Int) : QOk Try.prog C0 (.call 29 [Bk r h, I n] []) ⟨.ret, [Bk r (bput r h n)], []⟩ := by
  refine tree_i hP (put29_t r h n) ?_
  simp only [Sc.Ok]
  refine ⟨fun h1 => ?_, fun h1 => ⟨right28 r h, fun h2 => ?_, fun h2 => ?_⟩⟩
  · simp at h1; simp [bput, h1]
  · simp at h1 h2; simp [bput, h2]
  · simp at h1 h2
    have := (bright_iff r h).1 h2
    rw [IntWalk.i64_in (r - h) (by omega), IntWalk.i64_in _ (by omega)]
    simp [bput, h2, show ¬ n < 0 by omega]
    split <;> omega
theorem put30 (r h n : Int) (hn : -9223372036854775808 ≤ n ∧ n ≤ 9223372036854775807) : QOk Try.prog C0 (.call 30 [Bk r h, I n] []) ⟨.ret, [Bk r (bput r h n)], []⟩ := by
  refine tree_i hP (put30_t r h n) ?_
  simp only [Sc.Ok]
  refine ⟨right25 r h, fun h1 => ?_, fun h1 => ⟨fun h2 => ?_, fun h2 => ⟨fun h3 => ?_, fun h3 => ⟨fun h4 => ?_, fun h4 => ?_⟩⟩⟩⟩ <;> simp at h1
  · simp [bput, h1]
  all_goals have := (bright_iff r h).1 h1
  all_goals simp at h2
  · simp [bput, h2]
  · simp at h3
    simp [bput, h1, show ¬ n < 0 by omega]
    omega
  · simp at h3 
    rw [IntWalk.i64_in _ (by omega)] at h4
    simp at h4
    simp [bput, h1, show ¬ n < 0 by omega]
    omega
  · simp at h3
    rw [IntWalk.i64_in _ (by omega)] at h4 ⊢
    simp at h4
    simp [bput, h1, show ¬ n < 0 by omega]
    omega
theorem awake23 : QOk Try.prog C0 (.call 23 [] []) ⟨.ret, [B true], []⟩ := runA_ok hP 4 _ _ (by kernel_rfl)
theorem law6 (r h n room has : Int) (hn : -9223372036854775808 ≤ n ∧ n ≤ 9223372036854775807) : CallIn Try.prog 6 [Bk r h, I n, I room, I has] [] ⟨.ret, [B true], []⟩ := by
  refine treeIn_i hP (law6_t r h n room has) ?_
  simp only [Sc.Ok]
  refine ⟨awake23, new24 room has, right25 room has, fun h1 => ⟨fun h2 => ?_, fun h2 => ⟨fun h3 => ?_, fun h3 => ⟨take26 r h n, take27 r h n, right28 r h, right25 r h, fun h4 => ⟨fun h5 => ⟨fun h6 => ⟨put29 r h n, put30 r h n hn, ?_⟩, fun h6 => ?_⟩, fun h5 => ?_⟩, fun h4 => ?_⟩⟩⟩,
    fun h1 => ⟨fun h2 => ?_, fun h2 => ⟨fun h3 => ?_, fun h3 => ⟨take26 r h n, take27 r h n, right28 r h, right25 r h, fun h4 => ⟨fun h5 => ⟨fun h6 => ⟨put29 r h n, put30 r h n hn, ?_⟩, fun h6 => ?_⟩, fun h5 => ?_⟩, fun h4 => ?_⟩⟩⟩⟩ <;> simp_all
end Bucket
end Go.Fx
