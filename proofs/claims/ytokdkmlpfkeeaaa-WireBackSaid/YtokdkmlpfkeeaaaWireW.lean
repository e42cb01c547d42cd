/- Numbers and texts as bytes: what the functions of wire answer. -/
import Derived.Test.YtokdkmlpfkeeaaaWireS
import Derived.Test.YtokdkmlpfkeeaaaWireU
import Derived.Test.YtokdkmlpfkeeaaaChecked
set_option maxRecDepth 100000
set_option maxHeartbeats 4000000
set_option linter.unusedVariables false
set_option linter.unusedSimpArgs false
namespace Go.Fx
open Go.Proofs Go.RowKit
theorem hP : progOk Try.prog = true := by kernel_rfl
theorem QOk.cfg {P : Program} {C C' : Cfg} {f : FuncId} {args : List AV} {h : Hp} {a : Ans} (q : QOk P C (.call f args h) a) : QOk P C' (.call f args h) a := q
/-- A row of the call's own, frozen. -/
theorem CallR.frz {P : Program} {M : Mem} {φ : Phi} {w w' : World} {e : Ending} {t : TypeId} {n : Nat} {g : Nat → List PV} (hc : CallR P M φ [] w ⟨.ret, [.c (.os 0)], [.row t n g true]⟩ e w') : CallR P M φ [] w ⟨.ret, [Sl n g], []⟩ e w' := by
  obtain ⟨M', φ', hle, heq, hrel, hlen, hend⟩ := hc
  cases e with
  | returned v =>
    have hv : RepA M' φ' v (.c (.os 0)) := hend
    obtain ⟨N, f1, f2, f3, f4⟩ := frzA_sound hrel hv
    have L : Local 0 [frzA [Ob.row t n g true] (.c (.os 0))] (applyD [Ob.row t n g true] (frzD [Ob.row t n g true] (.c (.os 0)))) [Sl n g] [] [] := localize_spec rfl
    obtain ⟨y, hy, hy2⟩ := L.single f4
    injection hy with hy _
    subst hy
    exact ⟨N, _, hle.trans f1, heq.trans (first_upto L), L.rel f2, Nat.le_refl _, hy2⟩
  | _ => exact hend.elim
theorem QOk.frz {P : Program} {C : Cfg} {f : FuncId} {args : List AV} {t : TypeId} {n : Nat} {g : Nat → List PV} (q : QOk P C (.call f args []) ⟨.ret, [.c (.os 0)], [.row t n g true]⟩) : QOk P C (.call f args []) ⟨.ret, [Sl n g], []⟩ := by
  intro vs w M φ hR hV
  rcases q vs w M φ hR hV with ⟨h1, h2⟩ | ⟨v, w', h1, h2⟩
  · exact .inl ⟨h1, h2.mono fun e w' => CallR.frz⟩
  · exact .inr ⟨v, w', h1, h2.frz⟩
namespace Wire
abbrev wl (n : Nat) : Prop := n ≤ 1000000
theorem bif_leaf {q : Bool} {A B : Ans} : (q = true → A = bif q then A else B) ∧ (q = false → B = bif q then A else B) := by cases q <;> simp
theorem next64 {i n : Nat} (hi : i < n) (hn : n ≤ 9223372036854775807) : IntKind.wrap .i64 ((i : Int) + 1) = ((i + 1 : Nat) : Int) := by rw [w64 (by omega)]; omega
theorem weakSlice {n m : Nat} {f g : Nat → List PV} (hn : n = m) (h : ∀ i, i < n → f i = g i) : Weak ⟨.ret, [Sl n f], []⟩ ⟨.ret, [Sl m g], []⟩ := by
  subst hn
  exact Weak.mkh (.cons (ALe.sl h) .nil) .nil
theorem curLe {n : Nat} {f g : Nat → List PV} {a e : Int} (h : ∀ i, i < n → f i = g i) : ALe (Cur n f a e) (Cur n g a e) := ALe.aggs (.cons (CLe.p (PLe.sl h)) (.cons (CLe.refl _) (.cons (CLe.refl _) .nil)))
/-! ### The number of some bytes, read from the last on -/
theorem vl_le (d : Nat → Nat) : ∀ (i k : Nat), vl d i k ≤ vl d 0 (i + k)
  | 0, k => by rw [Nat.zero_add]; exact Nat.le_refl _
  | i + 1, k => by
    have h1 : vl d (i + 1) k ≤ vl d i (k + 1) := by rw [vl]; omega
    have h2 := vl_le d i (k + 1)
    rw [show i + 1 + k = i + (k + 1) by omega]
    omega
theorem or_add {a x : Nat} (hx : x < 128) : a * 128 ||| x = a * 128 + x := by
  have := Nat.two_pow_add_eq_or_of_lt (i := 7) (b := x) (by simpa using hx) a
  rw [Nat.mul_comm a 128]
  exact this.symm
theorem and127 {x : Nat} (hx : x < 256) : (BitVec.ofNat 8 x &&& ~~~BitVec.ofNat 8 128).toNat = x % 128 := by
  have key : ∀ x : Fin 256, (BitVec.ofNat 8 x.val &&& ~~~BitVec.ofNat 8 128).toNat = x.val % 128 := by decide
  exact key ⟨x, hx⟩
theorem eatB_nat {n x : Nat} (hn : n * 128 < 18446744073709551616) (hx : x < 256) : Wu.eatB (n : Int) (x : Int) = ((x % 128 + 128 * n : Nat) : Int) := by
  unfold Wu.eatB
  have e1 : IntKind.wrap .u64 ((n : Int) * 128) = ((n * 128 : Nat) : Int) := by
    rw [show (n : Int) * 128 = ((n * 128 : Nat) : Int) by simp, wu64, Nat.mod_eq_of_lt hn]
  have e2 : Go.bits .andNot .u8 (x : Int) 128 = ((x % 128 : Nat) : Int) := by
    show IntKind.wrap .u8 ((BitVec.ofInt 8 (x : Int) &&& ~~~BitVec.ofInt 8 ((128 : Nat) : Int)).toNat : Int) = _
    rw [bvN, bvN, and127 hx, w8]
    rw [show x % 128 % 256 = x % 128 by omega]
  rw [e1, e2, wu64, Nat.mod_eq_of_lt (show x % 128 < 18446744073709551616 by omega)]
  show IntKind.wrap .u64 ((BitVec.ofInt 64 ((n * 128 : Nat) : Int) ||| BitVec.ofInt 64 ((x % 128 : Nat) : Int)).toNat : Int) = _
  rw [bvOr 64 _ _ (by omega) (by omega), or_add (by omega), wu64]
  rw [Nat.mod_eq_of_lt (by omega), Nat.add_comm, Nat.mul_comm]
theorem eat_vl (d : Nat → Nat) (hd : ∀ i, d i < 256) (len : Nat) (h : u64 (vl d 0 len)) : ∀ j, j ≤ len → Wu.eatAll (Wu.upto (Wu.bk (fun i => (d i : Int)) len) j) = (vl d (len - j) j : Int)
  | 0, _ => rfl
  | j + 1, hj => by
    rw [Wu.upto_succ, Wu.eatAll_snoc, eat_vl d hd len h j (by omega)]
    have e1 : len - (j + 1) = len - 1 - j := by omega
    have e2 : len - j = len - 1 - j + 1 := by omega
    have hv := vl_le d (len - 1 - j) (j + 1)
    rw [show len - 1 - j + (j + 1) = len by omega] at hv
    rw [vl] at hv
    unfold u64 at h
    rw [e2, e1, vl]
    exact eatB_nat (by omega) (hd _)
attribute [local irreducible] QOk
theorem wclone0_t (b : Nat → Nat)  : fol CK Try.prog noS (An.l (An.g (An.l An.e) (An.l (An.d An.e)))) (T.evQ CK Try.prog (.call 76 [Sl 0 (Bs b)] []) .done) = Sc.both (Sc.done (Ans.mk Ex.ret [AV.c CV.nils] [])) (Sc.done (Ans.mk Ex.ret [AV.c (CV.os (0 : Nat))] [Ob.row (5 : Nat) (0 : Nat) (fun i => [PV.v (Value.int IntKind.u8 (↑(b (i - (0 : Nat))) : Int))]) true])) := by kernel_rfl
theorem wclone1_t (n : Nat)  (b : Nat → Nat)  : fol CK Try.prog noS (An.l (An.l (An.c An.e))) (T.evQ CK Try.prog (.call 76 [Sl (n + 1) (Bs b)] []) .done) = Sc.chk (((0 : Nat) + (n + (1 : Nat))) * (1 : Nat) ≤ (140737488355328 : Nat) ∧ (0 : Nat) + (n + (1 : Nat)) ≤ (9223372036854775807 : Nat)) (Sc.done (Ans.mk Ex.ret [AV.c (CV.os (0 : Nat))] [Ob.row (5 : Nat) ((0 : Nat) + (n + (1 : Nat))) (fun i => [PV.v (Value.int IntKind.u8 (↑(b (i - (0 : Nat))) : Int))]) true])) := by kernel_rfl
theorem windexT_t (n : Nat)  (b : Nat → Nat)  (q : Bool)  (r : Nat)  : fol CK Try.prog (SLq 89 q (fun vals h => match vals with | [a, c, _, d, _] => some ⟨.ret, [a, c, I r, d, I r], h⟩ | _ => none) (fun vals h => match vals with | [a, b, c, d, _] => some ⟨.exit 0, [a, b, c, d, d], h⟩ | _ => none) noS) (An.a (An.b An.e An.e)) (T.evQ CK Try.prog (.call 89 [Sl n (Bs b), .c (.p (.v (.func (.func 90) #[] #[])))] []) .done) = Sc.ask (Qry.loop (89 : Nat) (0 : Nat) [(1 : Nat), (0 : Nat), (1 : Nat), (0 : Nat)] [AV.c (CV.p (PV.sl n fun i => [PV.v (Value.int IntKind.u8 (↑(b i) : Int))])), AV.c (CV.p (PV.v (Value.func (Fn.func (90 : Nat)) (Array.mk []) (Array.mk [])))), AV.c (CV.p (PV.v (Value.int IntKind.i64 (0 : Int)))), AV.c (CV.p (PV.v (Value.int IntKind.i64 (↑n : Int)))), AV.c (CV.p (PV.v (Value.int IntKind.i64 (0 : Int))))] []) (bif q then Ans.mk Ex.ret [AV.c (CV.p (PV.sl n fun i => [PV.v (Value.int IntKind.u8 (↑(b i) : Int))])), AV.c (CV.p (PV.v (Value.func (Fn.func (90 : Nat)) (Array.mk []) (Array.mk [])))), AV.c (CV.p (PV.v (Value.int IntKind.i64 (↑r : Int)))), AV.c (CV.p (PV.v (Value.int IntKind.i64 (↑n : Int)))), AV.c (CV.p (PV.v (Value.int IntKind.i64 (↑r : Int))))] [] else Ans.mk (Ex.exit (0 : Nat)) [AV.c (CV.p (PV.sl n fun i => [PV.v (Value.int IntKind.u8 (↑(b i) : Int))])), AV.c (CV.p (PV.v (Value.func (Fn.func (90 : Nat)) (Array.mk []) (Array.mk [])))), AV.c (CV.p (PV.v (Value.int IntKind.i64 (0 : Int)))), AV.c (CV.p (PV.v (Value.int IntKind.i64 (↑n : Int)))), AV.c (CV.p (PV.v (Value.int IntKind.i64 (↑n : Int))))] []) (Sc.br q (Sc.done (Ans.mk Ex.ret [AV.c (CV.p (PV.v (Value.int IntKind.i64 (↑r : Int))))] [])) (Sc.done (Ans.mk Ex.ret [AV.c (CV.p (PV.v (Value.int IntKind.i64 (-1 : Int))))] []))) := by kernel_rfl
theorem windexR_t (n : Nat)  (b : Nat → Nat)  (i : Nat)  (q : Bool)  (r : Nat)  : fol CK Try.prog (SLq 89 q (fun vals h => match vals with | [a, c, _, d, _] => some ⟨.ret, [a, c, I r, d, I r], h⟩ | _ => none) (fun vals h => match vals with | [a, b, c, d, _] => some ⟨.exit 0, [a, b, c, d, d], h⟩ | _ => none) noS) (An.b (An.c (An.i (An.b An.e (An.a (An.b An.e An.e))))) An.e) (T.evQ CK Try.prog (.loop 89 0 [1, 0, 1, 0] [Sl n (Bs b), .c (.p (.v (.func (.func 90) #[] #[]))), I 0, I n, I i] []) .done) = Sc.br (decide ((↑i : Int) < (↑n : Int))) (Sc.chk ((0 : Int) ≤ (↑i : Int) ∧ (↑i : Int) < (↑n : Int)) (Sc.br (decide ((↑(b (Int.toNat (↑i : Int))) : Int) < (128 : Int))) (Sc.done (Ans.mk Ex.ret [AV.c (CV.p (PV.sl n fun i => [PV.v (Value.int IntKind.u8 (↑(b i) : Int))])), AV.c (CV.p (PV.v (Value.func (Fn.func (90 : Nat)) (Array.mk []) (Array.mk [])))), AV.c (CV.p (PV.v (Value.int IntKind.i64 (↑i : Int)))), AV.c (CV.p (PV.v (Value.int IntKind.i64 (↑n : Int)))), AV.c (CV.p (PV.v (Value.int IntKind.i64 (↑i : Int))))] [])) (Sc.ask (Qry.loop (89 : Nat) (0 : Nat) [(1 : Nat), (0 : Nat), (1 : Nat), (0 : Nat)] [AV.c (CV.p (PV.sl n fun i => [PV.v (Value.int IntKind.u8 (↑(b i) : Int))])), AV.c (CV.p (PV.v (Value.func (Fn.func (90 : Nat)) (Array.mk []) (Array.mk [])))), AV.c (CV.p (PV.v (Value.int IntKind.i64 (0 : Int)))), AV.c (CV.p (PV.v (Value.int IntKind.i64 (↑n : Int)))), AV.c (CV.p (PV.v (Value.int IntKind.i64 (IntKind.wrap IntKind.i64 ((↑i : Int) + (1 : Int))))))] []) (bif q then Ans.mk Ex.ret [AV.c (CV.p (PV.sl n fun i => [PV.v (Value.int IntKind.u8 (↑(b i) : Int))])), AV.c (CV.p (PV.v (Value.func (Fn.func (90 : Nat)) (Array.mk []) (Array.mk [])))), AV.c (CV.p (PV.v (Value.int IntKind.i64 (↑r : Int)))), AV.c (CV.p (PV.v (Value.int IntKind.i64 (↑n : Int)))), AV.c (CV.p (PV.v (Value.int IntKind.i64 (↑r : Int))))] [] else Ans.mk (Ex.exit (0 : Nat)) [AV.c (CV.p (PV.sl n fun i => [PV.v (Value.int IntKind.u8 (↑(b i) : Int))])), AV.c (CV.p (PV.v (Value.func (Fn.func (90 : Nat)) (Array.mk []) (Array.mk [])))), AV.c (CV.p (PV.v (Value.int IntKind.i64 (0 : Int)))), AV.c (CV.p (PV.v (Value.int IntKind.i64 (↑n : Int)))), AV.c (CV.p (PV.v (Value.int IntKind.i64 (↑n : Int))))] []) (Sc.br q (Sc.done (Ans.mk Ex.ret [AV.c (CV.p (PV.sl n fun i => [PV.v (Value.int IntKind.u8 (↑(b i) : Int))])), AV.c (CV.p (PV.v (Value.func (Fn.func (90 : Nat)) (Array.mk []) (Array.mk [])))), AV.c (CV.p (PV.v (Value.int IntKind.i64 (↑r : Int)))), AV.c (CV.p (PV.v (Value.int IntKind.i64 (↑n : Int)))), AV.c (CV.p (PV.v (Value.int IntKind.i64 (↑r : Int))))] [])) (Sc.done (Ans.mk (Ex.exit (0 : Nat)) [AV.c (CV.p (PV.sl n fun i => [PV.v (Value.int IntKind.u8 (↑(b i) : Int))])), AV.c (CV.p (PV.v (Value.func (Fn.func (90 : Nat)) (Array.mk []) (Array.mk [])))), AV.c (CV.p (PV.v (Value.int IntKind.i64 (0 : Int)))), AV.c (CV.p (PV.v (Value.int IntKind.i64 (↑n : Int)))), AV.c (CV.p (PV.v (Value.int IntKind.i64 (↑n : Int))))] [])))))) (Sc.done (Ans.mk (Ex.exit (0 : Nat)) [AV.c (CV.p (PV.sl n fun i => [PV.v (Value.int IntKind.u8 (↑(b i) : Int))])), AV.c (CV.p (PV.v (Value.func (Fn.func (90 : Nat)) (Array.mk []) (Array.mk [])))), AV.c (CV.p (PV.v (Value.int IntKind.i64 (0 : Int)))), AV.c (CV.p (PV.v (Value.int IntKind.i64 (↑n : Int)))), AV.c (CV.p (PV.v (Value.int IntKind.i64 (↑i : Int))))] [])) := by kernel_rfl
theorem sizeT_t (n : Nat)  (b : Nat → Nat)  : fol CK Try.prog (wrS 1000000) (An.c (An.a (An.b (An.l (An.l (An.l (An.b An.e (An.b (An.l An.e) (An.b (An.l (An.l (An.c (An.l (An.l (An.l (An.b (An.l An.e) (An.b (An.l (An.l (An.c (An.l (An.l (An.l (An.b An.e An.e))))))) (An.l (An.l (An.l (An.l (An.l (An.l An.e)))))))))))))) (An.l (An.l (An.l (An.l (An.l (An.l (An.b (An.l (An.l (An.c (An.l (An.l (An.l (An.b An.e An.e))))))) (An.l (An.l (An.l (An.l (An.l (An.l An.e))))))))))))))))))) (An.l (An.l (An.l (An.l (An.b (An.l An.e) (An.b (An.l (An.l (An.c (An.l (An.l (An.l (An.b (An.l An.e) (An.b (An.l (An.l (An.c (An.l (An.l (An.l (An.b An.e An.e))))))) (An.l (An.l (An.l (An.l (An.l (An.l An.e)))))))))))))) (An.l (An.l (An.l (An.l (An.l (An.l (An.b (An.l (An.l (An.c (An.l (An.l (An.l (An.b An.e An.e))))))) (An.l (An.l (An.l (An.l (An.l (An.l An.e)))))))))))))))))))))) (T.evQ CK Try.prog (.call 79 [Sl n (Bs b)] []) .done) = Sc.chk ((0 : Int) ≤ (0 : Int) ∧ (0 : Int) ≤ min (↑n : Int) (10 : Int) ∧ min (↑n : Int) (10 : Int) ≤ (↑n : Int)) (Sc.ask (Qry.call (89 : Nat) [AV.c (CV.p (PV.sl (Int.toNat (min (↑n : Int) (10 : Int)) - (0 : Nat)) fun i => [PV.v (Value.int IntKind.u8 (↑(b (i + Int.toNat (0 : Int))) : Int))])), AV.c (CV.p (PV.v (Value.func (Fn.func (90 : Nat)) (Array.mk []) (Array.mk []))))] []) (Ans.mk Ex.ret [AV.c (CV.p (PV.v (Value.int IntKind.i64 ((↑(fi (byN fun i => Bs b (i + Int.toNat (0 : Int))) (Int.toNat (min (↑n : Int) (10 : Int)) - (0 : Nat)) (0 : Nat)) : Int) - (1 : Int)))))] []) (Sc.br (decide ((↑(fi (byN fun i => Bs b (i + Int.toNat (0 : Int))) (Int.toNat (min (↑n : Int) (10 : Int)) - (0 : Nat)) (0 : Nat)) : Int) - (1 : Int) < (0 : Int))) (Sc.br (decide ((↑(Int.toNat (min (↑n : Int) (10 : Int)) - (0 : Nat)) : Int) < (10 : Int))) (Sc.done (Ans.mk Ex.ret [AV.tup [AV.c (CV.p (PV.v (Value.int IntKind.i64 (0 : Int)))), AV.c (CV.p (PV.v (Value.int IntKind.i64 (10 : Int))))]] [])) (Sc.br (decide ((↑(fi (byN fun i => Bs b (i + Int.toNat (0 : Int))) (Int.toNat (min (↑n : Int) (10 : Int)) - (0 : Nat)) (0 : Nat)) : Int) - (1 : Int) < (0 : Int))) (Sc.done (Ans.mk Ex.ret [AV.tup [AV.c (CV.p (PV.v (Value.int IntKind.i64 (0 : Int)))), AV.c (CV.p (PV.v (Value.int IntKind.i64 (11 : Int))))]] [])) (Sc.br ((↑(fi (byN fun i => Bs b (i + Int.toNat (0 : Int))) (Int.toNat (min (↑n : Int) (10 : Int)) - (0 : Nat)) (0 : Nat)) : Int) - (1 : Int) == (9 : Int)) (Sc.chk ((0 : Int) ≤ (↑(fi (byN fun i => Bs b (i + Int.toNat (0 : Int))) (Int.toNat (min (↑n : Int) (10 : Int)) - (0 : Nat)) (0 : Nat)) : Int) - (1 : Int) ∧ (↑(fi (byN fun i => Bs b (i + Int.toNat (0 : Int))) (Int.toNat (min (↑n : Int) (10 : Int)) - (0 : Nat)) (0 : Nat)) : Int) - (1 : Int) < (↑(Int.toNat (min (↑n : Int) (10 : Int)) - (0 : Nat)) : Int)) (Sc.br (decide ((↑(b (Int.toNat ((↑(fi (byN fun i => Bs b (i + Int.toNat (0 : Int))) (Int.toNat (min (↑n : Int) (10 : Int)) - Int.toNat (0 : Int)) (0 : Nat)) : Int) - (1 : Int)) + Int.toNat (0 : Int))) : Int) > (1 : Int))) (Sc.done (Ans.mk Ex.ret [AV.tup [AV.c (CV.p (PV.v (Value.int IntKind.i64 (0 : Int)))), AV.c (CV.p (PV.v (Value.int IntKind.i64 (11 : Int))))]] [])) (Sc.br (decide ((↑(fi (byN fun i => Bs b (i + Int.toNat (0 : Int))) (Int.toNat (min (↑n : Int) (10 : Int)) - (0 : Nat)) (0 : Nat)) : Int) - (1 : Int) > (0 : Int))) (Sc.chk ((0 : Int) ≤ (↑(fi (byN fun i => Bs b (i + Int.toNat (0 : Int))) (Int.toNat (min (↑n : Int) (10 : Int)) - (0 : Nat)) (0 : Nat)) : Int) - (1 : Int) ∧ (↑(fi (byN fun i => Bs b (i + Int.toNat (0 : Int))) (Int.toNat (min (↑n : Int) (10 : Int)) - (0 : Nat)) (0 : Nat)) : Int) - (1 : Int) < (↑(Int.toNat (min (↑n : Int) (10 : Int)) - (0 : Nat)) : Int)) (Sc.br ((↑(b (Int.toNat ((↑(fi (byN fun i => Bs b (i + Int.toNat (0 : Int))) (Int.toNat (min (↑n : Int) (10 : Int)) - Int.toNat (0 : Int)) (0 : Nat)) : Int) - (1 : Int)) + Int.toNat (0 : Int))) : Int) == (0 : Int)) (Sc.done (Ans.mk Ex.ret [AV.tup [AV.c (CV.p (PV.v (Value.int IntKind.i64 (0 : Int)))), AV.c (CV.p (PV.v (Value.int IntKind.i64 (11 : Int))))]] [])) (Sc.done (Ans.mk Ex.ret [AV.tup [AV.c (CV.p (PV.v (Value.int IntKind.i64 (IntKind.wrap IntKind.i64 ((↑(fi (byN fun i => Bs b (i + Int.toNat (0 : Int))) (Int.toNat (min (↑n : Int) (10 : Int)) - (0 : Nat)) (0 : Nat)) : Int) - (1 : Int) + (1 : Int)))))), AV.c (CV.p (PV.v (Value.int IntKind.i64 (0 : Int))))]] [])))) (Sc.done (Ans.mk Ex.ret [AV.tup [AV.c (CV.p (PV.v (Value.int IntKind.i64 (IntKind.wrap IntKind.i64 ((↑(fi (byN fun i => Bs b (i + Int.toNat (0 : Int))) (Int.toNat (min (↑n : Int) (10 : Int)) - (0 : Nat)) (0 : Nat)) : Int) - (1 : Int) + (1 : Int)))))), AV.c (CV.p (PV.v (Value.int IntKind.i64 (0 : Int))))]] []))))) (Sc.br (decide ((↑(fi (byN fun i => Bs b (i + Int.toNat (0 : Int))) (Int.toNat (min (↑n : Int) (10 : Int)) - (0 : Nat)) (0 : Nat)) : Int) - (1 : Int) > (0 : Int))) (Sc.chk ((0 : Int) ≤ (↑(fi (byN fun i => Bs b (i + Int.toNat (0 : Int))) (Int.toNat (min (↑n : Int) (10 : Int)) - (0 : Nat)) (0 : Nat)) : Int) - (1 : Int) ∧ (↑(fi (byN fun i => Bs b (i + Int.toNat (0 : Int))) (Int.toNat (min (↑n : Int) (10 : Int)) - (0 : Nat)) (0 : Nat)) : Int) - (1 : Int) < (↑(Int.toNat (min (↑n : Int) (10 : Int)) - (0 : Nat)) : Int)) (Sc.br ((↑(b (Int.toNat ((↑(fi (byN fun i => Bs b (i + Int.toNat (0 : Int))) (Int.toNat (min (↑n : Int) (10 : Int)) - Int.toNat (0 : Int)) (0 : Nat)) : Int) - (1 : Int)) + Int.toNat (0 : Int))) : Int) == (0 : Int)) (Sc.done (Ans.mk Ex.ret [AV.tup [AV.c (CV.p (PV.v (Value.int IntKind.i64 (0 : Int)))), AV.c (CV.p (PV.v (Value.int IntKind.i64 (11 : Int))))]] [])) (Sc.done (Ans.mk Ex.ret [AV.tup [AV.c (CV.p (PV.v (Value.int IntKind.i64 (IntKind.wrap IntKind.i64 ((↑(fi (byN fun i => Bs b (i + Int.toNat (0 : Int))) (Int.toNat (min (↑n : Int) (10 : Int)) - (0 : Nat)) (0 : Nat)) : Int) - (1 : Int) + (1 : Int)))))), AV.c (CV.p (PV.v (Value.int IntKind.i64 (0 : Int))))]] [])))) (Sc.done (Ans.mk Ex.ret [AV.tup [AV.c (CV.p (PV.v (Value.int IntKind.i64 (IntKind.wrap IntKind.i64 ((↑(fi (byN fun i => Bs b (i + Int.toNat (0 : Int))) (Int.toNat (min (↑n : Int) (10 : Int)) - (0 : Nat)) (0 : Nat)) : Int) - (1 : Int) + (1 : Int)))))), AV.c (CV.p (PV.v (Value.int IntKind.i64 (0 : Int))))]] [])))))) (Sc.br (decide ((↑(fi (byN fun i => Bs b (i + Int.toNat (0 : Int))) (Int.toNat (min (↑n : Int) (10 : Int)) - (0 : Nat)) (0 : Nat)) : Int) - (1 : Int) < (0 : Int))) (Sc.done (Ans.mk Ex.ret [AV.tup [AV.c (CV.p (PV.v (Value.int IntKind.i64 (0 : Int)))), AV.c (CV.p (PV.v (Value.int IntKind.i64 (11 : Int))))]] [])) (Sc.br ((↑(fi (byN fun i => Bs b (i + Int.toNat (0 : Int))) (Int.toNat (min (↑n : Int) (10 : Int)) - (0 : Nat)) (0 : Nat)) : Int) - (1 : Int) == (9 : Int)) (Sc.chk ((0 : Int) ≤ (↑(fi (byN fun i => Bs b (i + Int.toNat (0 : Int))) (Int.toNat (min (↑n : Int) (10 : Int)) - (0 : Nat)) (0 : Nat)) : Int) - (1 : Int) ∧ (↑(fi (byN fun i => Bs b (i + Int.toNat (0 : Int))) (Int.toNat (min (↑n : Int) (10 : Int)) - (0 : Nat)) (0 : Nat)) : Int) - (1 : Int) < (↑(Int.toNat (min (↑n : Int) (10 : Int)) - (0 : Nat)) : Int)) (Sc.br (decide ((↑(b (Int.toNat ((↑(fi (byN fun i => Bs b (i + Int.toNat (0 : Int))) (Int.toNat (min (↑n : Int) (10 : Int)) - Int.toNat (0 : Int)) (0 : Nat)) : Int) - (1 : Int)) + Int.toNat (0 : Int))) : Int) > (1 : Int))) (Sc.done (Ans.mk Ex.ret [AV.tup [AV.c (CV.p (PV.v (Value.int IntKind.i64 (0 : Int)))), AV.c (CV.p (PV.v (Value.int IntKind.i64 (11 : Int))))]] [])) (Sc.br (decide ((↑(fi (byN fun i => Bs b (i + Int.toNat (0 : Int))) (Int.toNat (min (↑n : Int) (10 : Int)) - (0 : Nat)) (0 : Nat)) : Int) - (1 : Int) > (0 : Int))) (Sc.chk ((0 : Int) ≤ (↑(fi (byN fun i => Bs b (i + Int.toNat (0 : Int))) (Int.toNat (min (↑n : Int) (10 : Int)) - (0 : Nat)) (0 : Nat)) : Int) - (1 : Int) ∧ (↑(fi (byN fun i => Bs b (i + Int.toNat (0 : Int))) (Int.toNat (min (↑n : Int) (10 : Int)) - (0 : Nat)) (0 : Nat)) : Int) - (1 : Int) < (↑(Int.toNat (min (↑n : Int) (10 : Int)) - (0 : Nat)) : Int)) (Sc.br ((↑(b (Int.toNat ((↑(fi (byN fun i => Bs b (i + Int.toNat (0 : Int))) (Int.toNat (min (↑n : Int) (10 : Int)) - Int.toNat (0 : Int)) (0 : Nat)) : Int) - (1 : Int)) + Int.toNat (0 : Int))) : Int) == (0 : Int)) (Sc.done (Ans.mk Ex.ret [AV.tup [AV.c (CV.p (PV.v (Value.int IntKind.i64 (0 : Int)))), AV.c (CV.p (PV.v (Value.int IntKind.i64 (11 : Int))))]] [])) (Sc.done (Ans.mk Ex.ret [AV.tup [AV.c (CV.p (PV.v (Value.int IntKind.i64 (IntKind.wrap IntKind.i64 ((↑(fi (byN fun i => Bs b (i + Int.toNat (0 : Int))) (Int.toNat (min (↑n : Int) (10 : Int)) - (0 : Nat)) (0 : Nat)) : Int) - (1 : Int) + (1 : Int)))))), AV.c (CV.p (PV.v (Value.int IntKind.i64 (0 : Int))))]] [])))) (Sc.done (Ans.mk Ex.ret [AV.tup [AV.c (CV.p (PV.v (Value.int IntKind.i64 (IntKind.wrap IntKind.i64 ((↑(fi (byN fun i => Bs b (i + Int.toNat (0 : Int))) (Int.toNat (min (↑n : Int) (10 : Int)) - (0 : Nat)) (0 : Nat)) : Int) - (1 : Int) + (1 : Int)))))), AV.c (CV.p (PV.v (Value.int IntKind.i64 (0 : Int))))]] []))))) (Sc.br (decide ((↑(fi (byN fun i => Bs b (i + Int.toNat (0 : Int))) (Int.toNat (min (↑n : Int) (10 : Int)) - (0 : Nat)) (0 : Nat)) : Int) - (1 : Int) > (0 : Int))) (Sc.chk ((0 : Int) ≤ (↑(fi (byN fun i => Bs b (i + Int.toNat (0 : Int))) (Int.toNat (min (↑n : Int) (10 : Int)) - (0 : Nat)) (0 : Nat)) : Int) - (1 : Int) ∧ (↑(fi (byN fun i => Bs b (i + Int.toNat (0 : Int))) (Int.toNat (min (↑n : Int) (10 : Int)) - (0 : Nat)) (0 : Nat)) : Int) - (1 : Int) < (↑(Int.toNat (min (↑n : Int) (10 : Int)) - (0 : Nat)) : Int)) (Sc.br ((↑(b (Int.toNat ((↑(fi (byN fun i => Bs b (i + Int.toNat (0 : Int))) (Int.toNat (min (↑n : Int) (10 : Int)) - Int.toNat (0 : Int)) (0 : Nat)) : Int) - (1 : Int)) + Int.toNat (0 : Int))) : Int) == (0 : Int)) (Sc.done (Ans.mk Ex.ret [AV.tup [AV.c (CV.p (PV.v (Value.int IntKind.i64 (0 : Int)))), AV.c (CV.p (PV.v (Value.int IntKind.i64 (11 : Int))))]] [])) (Sc.done (Ans.mk Ex.ret [AV.tup [AV.c (CV.p (PV.v (Value.int IntKind.i64 (IntKind.wrap IntKind.i64 ((↑(fi (byN fun i => Bs b (i + Int.toNat (0 : Int))) (Int.toNat (min (↑n : Int) (10 : Int)) - (0 : Nat)) (0 : Nat)) : Int) - (1 : Int) + (1 : Int)))))), AV.c (CV.p (PV.v (Value.int IntKind.i64 (0 : Int))))]] [])))) (Sc.done (Ans.mk Ex.ret [AV.tup [AV.c (CV.p (PV.v (Value.int IntKind.i64 (IntKind.wrap IntKind.i64 ((↑(fi (byN fun i => Bs b (i + Int.toNat (0 : Int))) (Int.toNat (min (↑n : Int) (10 : Int)) - (0 : Nat)) (0 : Nat)) : Int) - (1 : Int) + (1 : Int)))))), AV.c (CV.p (PV.v (Value.int IntKind.i64 (0 : Int))))]] []))))))) := by kernel_rfl
theorem putuT_t (n : Nat)  (b : Nat → Nat)  (v : Nat)  (h l : Nat)  (p : Nat → List PV)  : fol CK Try.prog (SLo 50 (fun vals hh => match vals, hh with | [_, y], [.row t _ _ _] => some ⟨.exit 0, [U64 l, y], [.row t h p true]⟩ | _, _ => none) (wrS 1000000)) (An.a (An.a (An.c An.e))) (T.evQ CK Try.prog (.call 50 [Sl n (Bs b), U64 v] []) .done) = Sc.ask (Qry.call (76 : Nat) [AV.c (CV.p (PV.sl n fun i => [PV.v (Value.int IntKind.u8 (↑(b i) : Int))]))] []) (Ans.mk Ex.ret [AV.c (CV.os (0 : Nat))] [Ob.row (5 : Nat) n (fun i => [PV.v (Value.int IntKind.u8 (↑(b i) : Int))]) true]) (Sc.ask (Qry.loop (50 : Nat) (0 : Nat) [(1 : Nat), (1 : Nat), (0 : Nat), (0 : Nat)] [AV.c (CV.p (PV.v (Value.int IntKind.u64 (↑v : Int)))), AV.c (CV.os (0 : Nat))] [Ob.row (5 : Nat) n (fun i => [PV.v (Value.int IntKind.u8 (↑(b i) : Int))]) true]) (Ans.mk (Ex.exit (0 : Nat)) [AV.c (CV.p (PV.v (Value.int IntKind.u64 (↑l : Int)))), AV.c (CV.os (0 : Nat))] [Ob.row (5 : Nat) h p true]) (Sc.chk ((h + (1 : Nat)) * (1 : Nat) ≤ (140737488355328 : Nat) ∧ h + (1 : Nat) ≤ (9223372036854775807 : Nat)) (Sc.done (Ans.mk Ex.ret [AV.c (CV.os (0 : Nat))] [Ob.row (5 : Nat) (h + (1 : Nat)) (fun i => if i < h then p i else litF [[PV.v (Value.int IntKind.u8 (IntKind.wrap IntKind.u8 (↑l : Int)))]] (i - h)) true])))) := by kernel_rfl
theorem putuR_t (m : Nat)  (f : Nat → List PV)  (v : Nat)  (h l : Nat)  (p : Nat → List PV)  : fol CK Try.prog (SLo 50 (fun vals hh => match vals, hh with | [_, y], [.row t _ _ _] => some ⟨.exit 0, [U64 l, y], [.row t h p true]⟩ | _, _ => none) noS) (An.b (An.c (An.d (An.a An.e))) An.e) (T.evQ CK Try.prog (.loop 50 0 [1, 1, 0, 0] [U64 v, .c (.os 0)] [rowB m f]) .done) = Sc.br (decide ((↑v : Int) ≥ (128 : Int))) (Sc.chk ((m + (1 : Nat)) * (1 : Nat) ≤ (140737488355328 : Nat) ∧ m + (1 : Nat) ≤ (9223372036854775807 : Nat)) (Sc.ask (Qry.loop (50 : Nat) (0 : Nat) [(1 : Nat), (1 : Nat), (0 : Nat), (0 : Nat)] [AV.c (CV.p (PV.v (Value.int IntKind.u64 (Int.fdiv (↑v : Int) (128 : Int))))), AV.c (CV.os (0 : Nat))] [Ob.row (5 : Nat) (m + (1 : Nat)) (fun i => if i < m then f i else litF [[PV.v (Value.int IntKind.u8 (IntKind.wrap IntKind.u8 (↑(BitVec.toNat (BitVec.ofInt (IntKind.bits IntKind.u8) (IntKind.wrap IntKind.u8 (↑v : Int)) ||| BitVec.ofInt (IntKind.bits IntKind.u8) (128 : Int))) : Int)))]] (i - m)) true]) (Ans.mk (Ex.exit (0 : Nat)) [AV.c (CV.p (PV.v (Value.int IntKind.u64 (↑l : Int)))), AV.c (CV.os (0 : Nat))] [Ob.row (5 : Nat) h p true]) (Sc.done (Ans.mk (Ex.exit (0 : Nat)) [AV.c (CV.p (PV.v (Value.int IntKind.u64 (↑l : Int)))), AV.c (CV.os (0 : Nat))] [Ob.row (5 : Nat) h p true])))) (Sc.done (Ans.mk (Ex.exit (0 : Nat)) [AV.c (CV.p (PV.v (Value.int IntKind.u64 (↑v : Int)))), AV.c (CV.os (0 : Nat))] [Ob.row (5 : Nat) m f true])) := by kernel_rfl
theorem putiT_t (n : Nat)  (b : Nat → Nat)  (k : Int)  : fol CK Try.prog (wrS 1000000) (An.d (An.d (An.a An.e))) (T.evQ CK Try.prog (.call 51 [Sl n (Bs b), I k] []) .done) = Sc.ask (Qry.call (50 : Nat) [AV.c (CV.p (PV.sl n fun i => [PV.v (Value.int IntKind.u8 (↑(b i) : Int))])), AV.c (CV.p (PV.v (Value.int IntKind.u64 (IntKind.wrap IntKind.u64 (↑(BitVec.toNat (BitVec.ofInt (IntKind.bits IntKind.u64) (IntKind.wrap IntKind.u64 (IntKind.wrap IntKind.u64 k * (2 : Int) ^ min (Int.toNat (1 : Int)) (IntKind.bits IntKind.u64))) ^^^ BitVec.ofInt (IntKind.bits IntKind.u64) (IntKind.wrap IntKind.u64 (Int.fdiv k ((2 : Int) ^ min (Int.toNat (63 : Int)) (IntKind.bits IntKind.i64)))))) : Int)))))] []) (Ans.mk Ex.ret [AV.c (CV.os (0 : Nat))] [Ob.row (5 : Nat) (n + List.length (pu (Int.toNat (IntKind.wrap IntKind.u64 (↑(BitVec.toNat (BitVec.ofInt (IntKind.bits IntKind.u64) (IntKind.wrap IntKind.u64 (IntKind.wrap IntKind.u64 k * (2 : Int) ^ min (Int.toNat (1 : Int)) (IntKind.bits IntKind.u64))) ^^^ BitVec.ofInt (IntKind.bits IntKind.u64) (IntKind.wrap IntKind.u64 (Int.fdiv k ((2 : Int) ^ min (Int.toNat (63 : Int)) (IntKind.bits IntKind.i64)))))) : Int))))) (fun i => if i < n then [PV.v (Value.int IntKind.u8 (↑(b i) : Int))] else [PV.v (Value.int IntKind.u8 (↑(List.getD (pu (Int.toNat (IntKind.wrap IntKind.u64 (↑(BitVec.toNat (BitVec.ofInt (IntKind.bits IntKind.u64) (IntKind.wrap IntKind.u64 (IntKind.wrap IntKind.u64 k * (2 : Int) ^ min (Int.toNat (1 : Int)) (IntKind.bits IntKind.u64))) ^^^ BitVec.ofInt (IntKind.bits IntKind.u64) (IntKind.wrap IntKind.u64 (Int.fdiv k ((2 : Int) ^ min (Int.toNat (63 : Int)) (IntKind.bits IntKind.i64)))))) : Int)))) (i - n) (0 : Nat)) : Int))]) true]) (Sc.done (Ans.mk Ex.ret [AV.c (CV.os (0 : Nat))] [Ob.row (5 : Nat) (n + List.length (pu (Int.toNat (IntKind.wrap IntKind.u64 (↑(BitVec.toNat (BitVec.ofInt (IntKind.bits IntKind.u64) (IntKind.wrap IntKind.u64 (IntKind.wrap IntKind.u64 k * (2 : Int) ^ min (Int.toNat (1 : Int)) (IntKind.bits IntKind.u64))) ^^^ BitVec.ofInt (IntKind.bits IntKind.u64) (IntKind.wrap IntKind.u64 (Int.fdiv k ((2 : Int) ^ min (Int.toNat (63 : Int)) (IntKind.bits IntKind.i64)))))) : Int))))) (fun i => if i < n then [PV.v (Value.int IntKind.u8 (↑(b i) : Int))] else [PV.v (Value.int IntKind.u8 (↑(List.getD (pu (Int.toNat (IntKind.wrap IntKind.u64 (↑(BitVec.toNat (BitVec.ofInt (IntKind.bits IntKind.u64) (IntKind.wrap IntKind.u64 (IntKind.wrap IntKind.u64 k * (2 : Int) ^ min (Int.toNat (1 : Int)) (IntKind.bits IntKind.u64))) ^^^ BitVec.ofInt (IntKind.bits IntKind.u64) (IntKind.wrap IntKind.u64 (Int.fdiv k ((2 : Int) ^ min (Int.toNat (63 : Int)) (IntKind.bits IntKind.i64)))))) : Int)))) (i - n) (0 : Nat)) : Int))]) true])) := by kernel_rfl
theorem puttT_t (n : Nat)  (b : Nat → Nat)  (s : ByteArray)  : fol CK Try.prog (wrS 1000000) (An.a (An.c An.e)) (T.evQ CK Try.prog (.call 52 [Sl n (Bs b), Str s] []) .done) = Sc.ask (Qry.call (50 : Nat) [AV.c (CV.p (PV.sl n fun i => [PV.v (Value.int IntKind.u8 (↑(b i) : Int))])), AV.c (CV.p (PV.v (Value.int IntKind.u64 (IntKind.wrap IntKind.u64 (↑(ByteArray.size s) : Int)))))] []) (Ans.mk Ex.ret [AV.c (CV.os (0 : Nat))] [Ob.row (5 : Nat) (n + List.length (pu (Int.toNat (IntKind.wrap IntKind.u64 (↑(ByteArray.size s) : Int))))) (fun i => if i < n then [PV.v (Value.int IntKind.u8 (↑(b i) : Int))] else [PV.v (Value.int IntKind.u8 (↑(List.getD (pu (Int.toNat (IntKind.wrap IntKind.u64 (↑(ByteArray.size s) : Int)))) (i - n) (0 : Nat)) : Int))]) true]) (Sc.chk ((n + List.length (pu (Int.toNat (IntKind.wrap IntKind.u64 (↑(ByteArray.size s) : Int)))) + ByteArray.size s) * (1 : Nat) ≤ (140737488355328 : Nat) ∧ n + List.length (pu (Int.toNat (IntKind.wrap IntKind.u64 (↑(ByteArray.size s) : Int)))) + ByteArray.size s ≤ (9223372036854775807 : Nat)) (Sc.done (Ans.mk Ex.ret [AV.c (CV.os (0 : Nat))] [Ob.row (5 : Nat) (n + List.length (pu (Int.toNat (IntKind.wrap IntKind.u64 (↑(ByteArray.size s) : Int)))) + ByteArray.size s) (fun i => if i < n + List.length (pu (Int.toNat (IntKind.wrap IntKind.u64 (↑(ByteArray.size s) : Int)))) then catF n (Bs b) (Ls (pu (Int.toNat (IntKind.wrap IntKind.u64 (↑(ByteArray.size s) : Int))))) i else [PV.v (Value.int IntKind.u8 (byteAt s (i - (n + List.length (pu (Int.toNat (IntKind.wrap IntKind.u64 (↑(ByteArray.size s) : Int))))))))]) true]))) := by kernel_rfl
theorem wrightT_t (n : Nat)  (f : Nat → List PV)  (a e : Int)  : fol CK Try.prog noS (An.d (An.b (An.l (An.d (An.l (An.l (An.b (An.l (An.d (An.l (An.l (An.d (An.l (An.l (An.l An.e)))))))) (An.l (An.l (An.l (An.l (An.l (An.l An.e))))))))))) (An.l (An.l (An.l (An.l (An.l (An.l (An.l (An.l (An.l (An.l An.e)))))))))))) (T.evQ CK Try.prog (.call 77 [Cur n f a e] []) .done) = Sc.br (e == (0 : Int)) (Sc.br (decide (a ≥ (0 : Int))) (Sc.done (Ans.mk Ex.ret [AV.c (CV.p (PV.v (Value.bool (decide (a ≤ (↑n : Int))))))] [])) (Sc.done (Ans.mk Ex.ret [AV.c (CV.p (PV.v (Value.bool false)))] []))) (Sc.done (Ans.mk Ex.ret [AV.c (CV.p (PV.v (Value.bool false)))] [])) := by kernel_rfl
theorem leftT_t (n : Nat)  (f : Nat → List PV)  (a e : Int)  : fol CK Try.prog (wrS 1000000) (An.d (An.a (An.b An.e (An.d (An.d An.e))))) (T.evQ CK Try.prog (.call 55 [Cur n f a e] []) .done) = Sc.ask (Qry.call (77 : Nat) [AV.agg [CV.p (PV.sl n f), CV.p (PV.v (Value.int IntKind.i64 a)), CV.p (PV.v (Value.int IntKind.i64 e))]] []) (Ans.mk Ex.ret [AV.c (CV.p (PV.v (Value.bool (rt n a e))))] []) (Sc.br (!rt n a e) (Sc.done (Ans.mk Ex.ret [AV.c (CV.p (PV.v (Value.int IntKind.i64 (0 : Int))))] [])) (Sc.done (Ans.mk Ex.ret [AV.c (CV.p (PV.v (Value.int IntKind.i64 (IntKind.wrap IntKind.i64 ((↑n : Int) - a)))))] []))) := by kernel_rfl
theorem intT_t (n : Nat)  (f : Nat → List PV)  (a e : Int)  : fol CK Try.prog (wrS 1000000) (An.d (An.a (An.d (An.d (An.d (An.d (An.d An.e))))))) (T.evQ CK Try.prog (.call 57 [Cur n f a e] []) .done) = Sc.ask (Qry.call (56 : Nat) [AV.agg [CV.p (PV.sl n f), CV.p (PV.v (Value.int IntKind.i64 a)), CV.p (PV.v (Value.int IntKind.i64 e))]] []) (Ans.mk Ex.ret [AV.tup [AV.agg [CV.p (PV.sl n f), CV.p (PV.v (Value.int IntKind.i64 (uA n f a e))), CV.p (PV.v (Value.int IntKind.i64 (uE n f a e)))], AV.c (CV.p (PV.v (Value.int IntKind.u64 (↑(uV n f a e) : Int))))]] []) (Sc.done (Ans.mk Ex.ret [AV.tup [AV.agg [CV.p (PV.sl n f), CV.p (PV.v (Value.int IntKind.i64 (uA n f a e))), CV.p (PV.v (Value.int IntKind.i64 (uE n f a e)))], AV.c (CV.p (PV.v (Value.int IntKind.i64 (IntKind.wrap IntKind.i64 (↑(BitVec.toNat (BitVec.ofInt (IntKind.bits IntKind.i64) (IntKind.wrap IntKind.i64 (Int.fdiv (↑(uV n f a e) : Int) ((2 : Int) ^ min (Int.toNat (1 : Int)) (IntKind.bits IntKind.u64)))) ^^^ BitVec.ofInt (IntKind.bits IntKind.i64) (IntKind.wrap IntKind.i64 ((0 : Int) - IntKind.wrap IntKind.i64 (IntKind.wrap IntKind.u64 (↑(BitVec.toNat (BitVec.ofInt (IntKind.bits IntKind.u64) (↑(uV n f a e) : Int) &&& BitVec.ofInt (IntKind.bits IntKind.u64) (1 : Int))) : Int)))))) : Int)))))]] [])) := by kernel_rfl
theorem takeT_t (n : Nat)  (b : Nat → Nat)  (a e k : Int)  : fol CK Try.prog (wrS 1000000) (An.d (An.a (An.b (An.l (An.d (An.i (An.d (An.b (An.d (An.d (An.d (An.d (An.d (An.d An.e)))))) (An.d (An.d (An.d (An.d (An.d An.e)))))))))) (An.b (An.d (An.i (An.d (An.b (An.d (An.d (An.d (An.d (An.d (An.d An.e)))))) (An.d (An.d (An.d (An.d (An.d An.e))))))))) (An.d (An.a (An.b (An.d (An.i (An.d (An.b (An.d (An.d (An.d (An.d (An.d (An.d An.e)))))) (An.d (An.d (An.d (An.d (An.d An.e))))))))) (An.d (An.d (An.d (An.c (An.a (An.d (An.d (An.d (An.d (An.d An.e))))))))))))))))) (T.evQ CK Try.prog (.call 81 [Cur n (Bs b) a e, I k] []) .done) = Sc.ask (Qry.call (77 : Nat) [AV.agg [CV.p (PV.sl n fun i => [PV.v (Value.int IntKind.u8 (↑(b i) : Int))]), CV.p (PV.v (Value.int IntKind.i64 a)), CV.p (PV.v (Value.int IntKind.i64 e))]] []) (Ans.mk Ex.ret [AV.c (CV.p (PV.v (Value.bool (rt n a e))))] []) (Sc.br (!rt n a e) (Sc.br (e == (0 : Int)) (Sc.done (Ans.mk Ex.ret [AV.tup [AV.agg [CV.p (PV.sl n fun i => [PV.v (Value.int IntKind.u8 (↑(b i) : Int))]), CV.p (PV.v (Value.int IntKind.i64 a)), CV.p (PV.v (Value.int IntKind.i64 (1 : Int)))], AV.c (CV.p (PV.sl (0 : Nat) fun x => []))]] [])) (Sc.done (Ans.mk Ex.ret [AV.tup [AV.agg [CV.p (PV.sl n fun i => [PV.v (Value.int IntKind.u8 (↑(b i) : Int))]), CV.p (PV.v (Value.int IntKind.i64 a)), CV.p (PV.v (Value.int IntKind.i64 e))], AV.c (CV.p (PV.sl (0 : Nat) fun x => []))]] []))) (Sc.br (decide (k < (0 : Int))) (Sc.br (e == (0 : Int)) (Sc.done (Ans.mk Ex.ret [AV.tup [AV.agg [CV.p (PV.sl n fun i => [PV.v (Value.int IntKind.u8 (↑(b i) : Int))]), CV.p (PV.v (Value.int IntKind.i64 a)), CV.p (PV.v (Value.int IntKind.i64 (1 : Int)))], AV.c (CV.p (PV.sl (0 : Nat) fun x => []))]] [])) (Sc.done (Ans.mk Ex.ret [AV.tup [AV.agg [CV.p (PV.sl n fun i => [PV.v (Value.int IntKind.u8 (↑(b i) : Int))]), CV.p (PV.v (Value.int IntKind.i64 a)), CV.p (PV.v (Value.int IntKind.i64 e))], AV.c (CV.p (PV.sl (0 : Nat) fun x => []))]] []))) (Sc.ask (Qry.call (55 : Nat) [AV.agg [CV.p (PV.sl n fun i => [PV.v (Value.int IntKind.u8 (↑(b i) : Int))]), CV.p (PV.v (Value.int IntKind.i64 a)), CV.p (PV.v (Value.int IntKind.i64 e))]] []) (Ans.mk Ex.ret [AV.c (CV.p (PV.v (Value.int IntKind.i64 (lft n a e))))] []) (Sc.br (decide (k > lft n a e)) (Sc.br (e == (0 : Int)) (Sc.done (Ans.mk Ex.ret [AV.tup [AV.agg [CV.p (PV.sl n fun i => [PV.v (Value.int IntKind.u8 (↑(b i) : Int))]), CV.p (PV.v (Value.int IntKind.i64 a)), CV.p (PV.v (Value.int IntKind.i64 (10 : Int)))], AV.c (CV.p (PV.sl (0 : Nat) fun x => []))]] [])) (Sc.done (Ans.mk Ex.ret [AV.tup [AV.agg [CV.p (PV.sl n fun i => [PV.v (Value.int IntKind.u8 (↑(b i) : Int))]), CV.p (PV.v (Value.int IntKind.i64 a)), CV.p (PV.v (Value.int IntKind.i64 e))], AV.c (CV.p (PV.sl (0 : Nat) fun x => []))]] []))) (Sc.chk ((0 : Int) ≤ a ∧ a ≤ IntKind.wrap IntKind.i64 (a + k) ∧ IntKind.wrap IntKind.i64 (a + k) ≤ (↑n : Int)) (Sc.ask (Qry.call (76 : Nat) [AV.c (CV.p (PV.sl (Int.toNat (IntKind.wrap IntKind.i64 (a + k)) - Int.toNat a) fun i => [PV.v (Value.int IntKind.u8 (↑(b (i + Int.toNat a)) : Int))]))] []) (Ans.mk Ex.ret [AV.c (CV.os (0 : Nat))] [Ob.row (5 : Nat) (Int.toNat (IntKind.wrap IntKind.i64 (a + k)) - Int.toNat a) (fun i => [PV.v (Value.int IntKind.u8 (↑(b (i + Int.toNat a)) : Int))]) true]) (Sc.done (Ans.mk Ex.ret [AV.tup [AV.agg [CV.p (PV.sl n fun i => [PV.v (Value.int IntKind.u8 (↑(b i) : Int))]), CV.p (PV.v (Value.int IntKind.i64 (IntKind.wrap IntKind.i64 (a + k)))), CV.p (PV.v (Value.int IntKind.i64 e))], AV.c (CV.p (PV.sl (Int.toNat (IntKind.wrap IntKind.i64 (a + k)) - Int.toNat a) fun i => [PV.v (Value.int IntKind.u8 (↑(b (i + Int.toNat a)) : Int))]))]] [])))))))) := by kernel_rfl
theorem textT_t (n : Nat)  (f : Nat → List PV)  (a e k : Int)  : fol CK Try.prog (wrS 1000000) (An.d (An.a (An.d (An.d (An.b (An.d (An.d (An.d An.e))) (An.b (An.l (An.l (An.l (An.l (An.l (An.d (An.i (An.d (An.b (An.d (An.d (An.d (An.d (An.d (An.d An.e)))))) (An.d (An.d (An.d (An.d (An.d An.e)))))))))))))) (An.l (An.l (An.l (An.l (An.b (An.d (An.i (An.d (An.b (An.d (An.d (An.d (An.d (An.d (An.d An.e)))))) (An.d (An.d (An.d (An.d (An.d An.e))))))))) (An.d (An.a (An.d (An.d (An.b (An.d (An.d (An.i (An.d (An.b (An.d (An.d (An.d (An.d (An.d (An.d An.e)))))) (An.d (An.d (An.d (An.d (An.d An.e)))))))))) (An.d (An.c (An.d (An.d An.e)))))))))))))))))))) (T.evQ CK Try.prog (.call 58 [Cur n f a e, I k] []) .done) = Sc.ask (Qry.call (56 : Nat) [AV.agg [CV.p (PV.sl n f), CV.p (PV.v (Value.int IntKind.i64 a)), CV.p (PV.v (Value.int IntKind.i64 e))]] []) (Ans.mk Ex.ret [AV.tup [AV.agg [CV.p (PV.sl n f), CV.p (PV.v (Value.int IntKind.i64 (uA n f a e))), CV.p (PV.v (Value.int IntKind.i64 (uE n f a e)))], AV.c (CV.p (PV.v (Value.int IntKind.u64 (↑(uV n f a e) : Int))))]] []) (Sc.br (uE n f a e != (0 : Int)) (Sc.done (Ans.mk Ex.ret [AV.tup [AV.agg [CV.p (PV.sl n f), CV.p (PV.v (Value.int IntKind.i64 (uA n f a e))), CV.p (PV.v (Value.int IntKind.i64 (uE n f a e)))], AV.c (CV.p (PV.v (Value.string (ByteArray.mk (Array.mk [])))))]] [])) (Sc.br (decide (k < (0 : Int))) (Sc.br (e == (0 : Int)) (Sc.done (Ans.mk Ex.ret [AV.tup [AV.agg [CV.p (PV.sl n f), CV.p (PV.v (Value.int IntKind.i64 a)), CV.p (PV.v (Value.int IntKind.i64 (9 : Int)))], AV.c (CV.p (PV.v (Value.string (ByteArray.mk (Array.mk [])))))]] [])) (Sc.done (Ans.mk Ex.ret [AV.tup [AV.agg [CV.p (PV.sl n f), CV.p (PV.v (Value.int IntKind.i64 a)), CV.p (PV.v (Value.int IntKind.i64 e))], AV.c (CV.p (PV.v (Value.string (ByteArray.mk (Array.mk [])))))]] []))) (Sc.br (decide ((↑(uV n f a e) : Int) > IntKind.wrap IntKind.u64 k)) (Sc.br (e == (0 : Int)) (Sc.done (Ans.mk Ex.ret [AV.tup [AV.agg [CV.p (PV.sl n f), CV.p (PV.v (Value.int IntKind.i64 a)), CV.p (PV.v (Value.int IntKind.i64 (9 : Int)))], AV.c (CV.p (PV.v (Value.string (ByteArray.mk (Array.mk [])))))]] [])) (Sc.done (Ans.mk Ex.ret [AV.tup [AV.agg [CV.p (PV.sl n f), CV.p (PV.v (Value.int IntKind.i64 a)), CV.p (PV.v (Value.int IntKind.i64 e))], AV.c (CV.p (PV.v (Value.string (ByteArray.mk (Array.mk [])))))]] []))) (Sc.ask (Qry.call (81 : Nat) [AV.agg [CV.p (PV.sl n f), CV.p (PV.v (Value.int IntKind.i64 (uA n f a e))), CV.p (PV.v (Value.int IntKind.i64 (uE n f a e)))], AV.c (CV.p (PV.v (Value.int IntKind.i64 (IntKind.wrap IntKind.i64 (↑(uV n f a e) : Int)))))] []) (Ans.mk Ex.ret [AV.tup [AV.agg [CV.p (PV.sl n f), CV.p (PV.v (Value.int IntKind.i64 (uA n f a e + (↑(kL n (uA n f a e) (uE n f a e) (IntKind.wrap IntKind.i64 (↑(uV n f a e) : Int))) : Int)))), CV.p (PV.v (Value.int IntKind.i64 (kE n (uA n f a e) (uE n f a e) (IntKind.wrap IntKind.i64 (↑(uV n f a e) : Int)))))], AV.c (CV.p (PV.sl (kL n (uA n f a e) (uE n f a e) (IntKind.wrap IntKind.i64 (↑(uV n f a e) : Int))) fun i => f (i + Int.toNat (uA n f a e))))]] []) (Sc.br (kE n (uA n f a e) (uE n f a e) (IntKind.wrap IntKind.i64 (↑(uV n f a e) : Int)) != (0 : Int)) (Sc.br (e == (0 : Int)) (Sc.done (Ans.mk Ex.ret [AV.tup [AV.agg [CV.p (PV.sl n f), CV.p (PV.v (Value.int IntKind.i64 a)), CV.p (PV.v (Value.int IntKind.i64 (kE n (uA n f a e) (uE n f a e) (IntKind.wrap IntKind.i64 (↑(uV n f a e) : Int)))))], AV.c (CV.p (PV.v (Value.string (ByteArray.mk (Array.mk [])))))]] [])) (Sc.done (Ans.mk Ex.ret [AV.tup [AV.agg [CV.p (PV.sl n f), CV.p (PV.v (Value.int IntKind.i64 a)), CV.p (PV.v (Value.int IntKind.i64 e))], AV.c (CV.p (PV.v (Value.string (ByteArray.mk (Array.mk [])))))]] []))) (Sc.chk ((bytesOk (kL n (uA n f a e) (uE n f a e) (IntKind.wrap IntKind.i64 (↑(uV n f a e) : Int))) fun i => f (i + Int.toNat (uA n f a e))) = true) (Sc.done (Ans.mk Ex.ret [AV.tup [AV.agg [CV.p (PV.sl n f), CV.p (PV.v (Value.int IntKind.i64 (uA n f a e + (↑(kL n (uA n f a e) (uE n f a e) (IntKind.wrap IntKind.i64 (↑(uV n f a e) : Int))) : Int)))), CV.p (PV.v (Value.int IntKind.i64 (kE n (uA n f a e) (uE n f a e) (IntKind.wrap IntKind.i64 (↑(uV n f a e) : Int)))))], AV.c (CV.p (PV.v (Value.string (textOf (kL n (uA n f a e) (uE n f a e) (IntKind.wrap IntKind.i64 (↑(uV n f a e) : Int))) fun i => f (i + Int.toNat (uA n f a e))))))]] [])))))))) := by kernel_rfl
theorem uintT0_t (n : Nat)  (f : Nat → List PV)  (a e : Int)  : fol CK Try.prog (spec [(77, fun _ => some (B false))] []) (An.d (An.a (An.l (An.d (An.i (An.d (An.b (An.d (An.d (An.d (An.d (An.d (An.d An.e)))))) (An.d (An.d (An.d (An.d (An.d An.e)))))))))))) (T.evQ CK Try.prog (.call 56 [Cur n f a e] []) .done) = Sc.ask (Qry.call (77 : Nat) [AV.agg [CV.p (PV.sl n f), CV.p (PV.v (Value.int IntKind.i64 a)), CV.p (PV.v (Value.int IntKind.i64 e))]] []) (Ans.mk Ex.ret [AV.c (CV.p (PV.v (Value.bool false)))] []) (Sc.br (e == (0 : Int)) (Sc.done (Ans.mk Ex.ret [AV.tup [AV.agg [CV.p (PV.sl n f), CV.p (PV.v (Value.int IntKind.i64 a)), CV.p (PV.v (Value.int IntKind.i64 (1 : Int)))], AV.c (CV.p (PV.v (Value.int IntKind.u64 (0 : Int))))]] [])) (Sc.done (Ans.mk Ex.ret [AV.tup [AV.agg [CV.p (PV.sl n f), CV.p (PV.v (Value.int IntKind.i64 a)), CV.p (PV.v (Value.int IntKind.i64 e))], AV.c (CV.p (PV.v (Value.int IntKind.u64 (0 : Int))))]] []))) := by kernel_rfl
theorem uintT1_t (n : Nat)  (b : Nat → Nat)  (a E : Int)  (h : (E == 0) = false)  : fol CK Try.prog (spec [(77, fun _ => some (B true)), (79, fun _ => some (.tup [I 0, I E]))] []) (An.d (An.a (An.l (An.d (An.d (An.c (An.a (An.b (An.d (An.i (An.d (An.l (An.d (An.d (An.d (An.d (An.d (An.d An.e)))))))))) (An.d (An.d (An.d (An.d (An.c (An.i (An.i An.e))))))))))))))) (T.evQ CK Try.prog (.call 56 [Cur n (Bs b) a 0] []) .done) = Sc.ask (Qry.call (77 : Nat) [AV.agg [CV.p (PV.sl n fun i => [PV.v (Value.int IntKind.u8 (↑(b i) : Int))]), CV.p (PV.v (Value.int IntKind.i64 a)), CV.p (PV.v (Value.int IntKind.i64 (0 : Int)))]] []) (Ans.mk Ex.ret [AV.c (CV.p (PV.v (Value.bool true)))] []) (Sc.chk ((0 : Int) ≤ a ∧ a ≤ (↑n : Int) ∧ (↑n : Int) ≤ (↑n : Int)) (Sc.ask (Qry.call (79 : Nat) [AV.c (CV.p (PV.sl (Int.toNat (↑n : Int) - Int.toNat a) fun i => [PV.v (Value.int IntKind.u8 (↑(b (i + Int.toNat a)) : Int))]))] []) (Ans.mk Ex.ret [AV.tup [AV.c (CV.p (PV.v (Value.int IntKind.i64 (0 : Int)))), AV.c (CV.p (PV.v (Value.int IntKind.i64 E)))]] []) (Sc.br (E != (0 : Int)) (Sc.done (Ans.mk Ex.ret [AV.tup [AV.agg [CV.p (PV.sl n fun i => [PV.v (Value.int IntKind.u8 (↑(b i) : Int))]), CV.p (PV.v (Value.int IntKind.i64 a)), CV.p (PV.v (Value.int IntKind.i64 E))], AV.c (CV.p (PV.v (Value.int IntKind.u64 (0 : Int))))]] [])) (Sc.chk ((0 : Int) ≤ a ∧ a ≤ IntKind.wrap IntKind.i64 (a + (0 : Int)) ∧ IntKind.wrap IntKind.i64 (a + (0 : Int)) ≤ (↑n : Int)) Sc.fail)))) := by kernel_rfl

/-! ### Rows -/
theorem cClone {n : Nat} {f : Nat → List PV} (hf : BOk n f) (hn : wl n) : QOk Try.prog CK (.call 76 [Sl n f] []) ⟨.ret, [.c (.os 0)], [rowB n f]⟩ := by
  refine QOk.arg (args := [Sl n (Bs (byN f))]) ?_ (.cons (ALe.sl hf) .nil)
  refine QOk.row (n := n) (f := Bs (byN f)) ?_ rfl (fun i hi => (hf i hi).symm)
  match n with
  | 0 =>
    refine tree_c hP (wclone0_t (byN f)) ⟨?_, ?_⟩
    · exact CallLe.nilRow (sz := 1) rfl (by decide) _
    · exact CallLe.refl _
  | n + 1 =>
    refine tree_i hP (wclone1_t n (byN f)) ?_
    simp only [Sc.Ok, Nat.zero_add, Nat.sub_zero]
    exact ⟨by omega, trivial⟩
abbrev fnd (p : Nat) : Bool := !(Nat.beq p 0)
theorem fnd_t {p : Nat} (h : fnd p = true) : p ≠ 0 := by
  rintro rfl; simp [fnd] at h
theorem fnd_f {p : Nat} (h : fnd p = false) : p = 0 := by
  unfold fnd at h
  rw [Bool.not_eq_false'] at h
  exact Nat.eq_of_beq_eq_true h
theorem indexLoop (n : Nat) (b : Nat → Nat) (hn : wl n) : ∀ (k i : Nat), i + k = n →
    QOk Try.prog CK (.loop 89 0 [1, 0, 1, 0] [Sl n (Bs b), .c (.p (.v (.func (.func 90) #[] #[]))), I 0, I n, I i] []) (bif fnd (fi b k i) then ⟨.ret, [Sl n (Bs b), .c (.p (.v (.func (.func 90) #[] #[]))), I ((fi b k i - 1 : Nat) : Int), I n, I ((fi b k i - 1 : Nat) : Int)], []⟩ else ⟨.exit 0, [Sl n (Bs b), .c (.p (.v (.func (.func 90) #[] #[]))), I 0, I n, I n], []⟩)
  | 0, i, hk => by
    refine tree_i hP (windexR_t n b i true 0) ?_
    simp only [Sc.Ok]
    refine ⟨fun h => ?_, fun h => ?_⟩
    · simp at h; omega
    · rw [show i = n by omega]; rfl
  | k + 1, i, hk => by
    have ih := indexLoop n b hn k (i + 1) (by omega)
    have hx := next64 (i := i) (n := n) (by omega) (by omega)
    by_cases h1 : b i < 128
    · rw [fi_hit h1]
      refine tree_i hP (windexR_t n b i true 0) ?_
      simp only [Sc.Ok]
      refine ⟨fun _ => ⟨by omega, fun _ => ?_, fun h => ?_⟩, fun h => ?_⟩
      · show _ = (⟨.ret, [Sl n (Bs b), .c (.p (.v (.func (.func 90) #[] #[]))), I ((i + 1 - 1 : Nat) : Int), I n, I ((i + 1 - 1 : Nat) : Int)], []⟩ : Ans)
        rw [Nat.add_sub_cancel]
      · rw [Int.toNat_natCast] at h; simp at h; omega
      · simp at h; omega
    · rw [fi_miss h1]
      refine tree_i hP (windexR_t n b i (fnd (fi b k (i + 1))) (fi b k (i + 1) - 1)) ?_
      simp only [Sc.Ok, hx]
      refine ⟨fun _ => ⟨by omega, fun h => ?_, fun _ => ⟨ih, bif_leaf⟩⟩, fun h => ?_⟩
      · rw [Int.toNat_natCast] at h; simp at h; omega
      · simp at h; omega
theorem cIndex {n : Nat} {f : Nat → List PV} (hf : BOk n f) (hn : wl n) : QOk Try.prog CK (.call 89 [Sl n f, .c (.p (.v (.func (.func 90) #[] #[])))] []) ⟨.ret, [I ((fi (byN f) n 0 : Nat) - 1)], []⟩ := by
  refine QOk.arg (args := [Sl n (Bs (byN f)), .c (.p (.v (.func (.func 90) #[] #[])))]) ?_ (.cons (ALe.sl hf) (.cons (ALe.refl _) .nil))
  have hl := indexLoop n (byN f) hn n 0 (by omega)
  refine tree_i hP (windexT_t n (byN f) (fnd (fi (byN f) n 0)) (fi (byN f) n 0 - 1)) ?_
  simp only [Sc.Ok]
  refine ⟨hl, fun h => ar ?_, fun h => ar ?_⟩
  · have : fi (byN f) n 0 ≠ 0 := fnd_t h
    rw [show ((fi (byN f) n 0 - 1 : Nat) : Int) = (fi (byN f) n 0 : Int) - 1 by omega]
  · have : fi (byN f) n 0 = 0 := fnd_f h
    rw [this]; rfl
theorem byN_bs (f : Nat → List PV) : byN (Bs (byN f)) = byN f := funext fun i => byN_Bs _ _ (byN_lt f i)
theorem fi_congr {b c : Nat → Nat} : ∀ (k i : Nat), (∀ j, i ≤ j → j < i + k → b j = c j) → fi b k i = fi c k i
  | 0, i, _ => rfl
  | k + 1, i, h => by
    rw [fi, fi, h i (by omega) (by omega), fi_congr k (i + 1) fun j h1 h2 => h j (by omega) (by omega)]
theorem cSize {n : Nat} {f : Nat → List PV} (hf : BOk n f) (hn : wl n) : QOk Try.prog CK (.call 79 [Sl n f] []) ⟨.ret, [.tup [I (szK n (byN f)), I (szE n (byN f))]], []⟩ := by
  refine QOk.arg (args := [Sl n (Bs (byN f))]) ?_ (.cons (ALe.sl hf) .nil)
  refine tree_i hP (sizeT_t n (byN f)) ?_
  have hN : Int.toNat (min (n : Int) 10) - Int.toNat 0 = min n 10 := by omega
  have hN' : Int.toNat (min (n : Int) 10) - 0 = min n 10 := by omega
  have hb : byN (fun i => Bs (byN f) (i + Int.toNat 0)) = byN f := byN_bs f
  have hb' : BOk (min n 10) (fun i => Bs (byN f) (i + Int.toNat 0)) := BOk.bs (l := byN f) _ (fun i _ => byN_lt f i)
  have q := cIndex hb' (by unfold wl at *; omega)
  rw [hb] at q
  simp only [Sc.Ok, hN, hN', hb]
  have hk := fi_spec (min n 10) 0 (byN f)
  unfold szK szE badN
  generalize fi (byN f) (min n 10) 0 = K at *
  refine ⟨by omega, q, ?_⟩
  rcases Nat.eq_zero_or_pos K with h0 | hpos
  · subst h0
    refine ⟨fun _ => ⟨fun h => ar ?_, fun h => ⟨fun _ => ar ?_, fun h => ?_⟩⟩, fun h => ?_⟩
    · simp at h
      simp; omega
    · simp at h
      simp; omega
    · simp at h
    · simp at h
  · obtain ⟨L, rfl⟩ : ∃ L, K = L + 1 := ⟨K - 1, by omega⟩
    obtain ⟨g1, g2, g3, g4⟩ := hk (by omega)
    have e1 : ((L + 1 : Nat) : Int) - 1 = (L : Int) := by omega
    have hw : IntKind.wrap .i64 ((L : Int) + 1) = ((L + 1 : Nat) : Int) := by rw [w64 (by omega)]; omega
    have hi0 : L + Int.toNat 0 = L := rfl
    simp only [e1, hw, Int.toNat_natCast, hi0, Nat.add_sub_cancel]
    refine ⟨fun h => ?_, fun _ => ⟨fun h => ?_, fun _ => ⟨fun h => ⟨by omega, fun h2 => ar ?_, fun h2 => ?_⟩, fun h => ?_⟩⟩⟩
    · simp at h; omega
    · simp at h; omega
    · have h : L = 9 := by simp at h; omega
      subst h
      have h2 : 1 < byN f 9 := by simp at h2; omega
      simp [h2]
    · have h : L = 9 := by simp at h; omega
      subst h
      have h2 : ¬ 1 < byN f 9 := by simp at h2; omega
      refine ⟨fun _ => ⟨by omega, fun h3 => ar ?_, fun h3 => ar ?_⟩, fun h => by simp at h⟩
      · have h3 : byN f 9 = 0 := by simp at h3; omega
        simp [h3]
      · have h3 : byN f 9 ≠ 0 := by simp at h3; omega
        simp [h2, h3]
    · have h : L ≠ 9 := by simp at h; omega
      refine ⟨fun h1 => ⟨by omega, fun h3 => ar ?_, fun h3 => ar ?_⟩, fun h1 => ar ?_⟩
      · have h1 : 0 < L := by simp at h1; omega
        have h3 : byN f L = 0 := by simp at h3; omega
        simp [h1, h3]
      · have h1 : 0 < L := by simp at h1; omega
        have h3 : byN f L ≠ 0 := by simp at h3; omega
        simp [h, h3]
      · have h1 : L = 0 := by simp at h1; omega
        subst h1
        simp
theorem u8_more (v : Nat) : IntKind.wrap .u8 ((BitVec.toNat (BitVec.ofInt (IntKind.bits IntKind.u8) (IntKind.wrap IntKind.u8 (v : Int)) ||| BitVec.ofInt (IntKind.bits IntKind.u8) (128 : Int)) : Nat) : Int) = ((v % 128 + 128 : Nat) : Int) := by
  rw [w8]
  show IntKind.wrap .u8 ((BitVec.ofInt 8 ((v % 256 : Nat) : Int) ||| BitVec.ofInt 8 ((128 : Nat) : Int)).toNat : Int) = _
  rw [bvOr 8 _ _ (by omega) (by omega)]
  have key : ∀ x : Fin 256, x.val ||| 128 = x.val % 128 + 128 := by decide
  have h := key ⟨v % 256, by omega⟩
  simp only at h
  rw [h, w8]
  rw [show v % 256 % 128 = v % 128 by omega, Nat.mod_eq_of_lt (by omega)]
theorem putLoop : ∀ (k v m : Nat) (f : Nat → List PV), v < 128 ^ (k + 1) → m + (k + 1) ≤ 2000000 →
    QOk Try.prog CK (.loop 50 0 [1, 1, 0, 0] [U64 v, .c (.os 0)] [rowB m f]) ⟨.exit 0, [U64 (lo k v), .c (.os 0)], [rowB (m + (hi k v).length) (catF m f (Ls (hi k v)))]⟩
  | k, v, m, f, hv, hm => by
    by_cases h1 : v < 128
    · have e1 : hi k v = [] := by cases k with | zero => rfl | succ k => rw [hi, blt_t h1]
      have e2 : lo k v = v := by cases k with | zero => rfl | succ k => rw [lo, blt_t h1]
      rw [e1, e2]
      refine QOk.weak (tree_i hP (putuR_t m f v m v f) ?_) (Weak.mkh (h := [rowB m f]) (ALes.refl _) (.cons (OLe.row rfl fun i hi => ?_) .nil))
      · simp only [Sc.Ok]
        refine ⟨fun h => ?_, fun _ => trivial⟩
        simp at h; omega
      · show f i = catF m f _ i
        unfold catF; rw [if_pos hi]
    · cases k with
      | zero => exact absurd (by simpa using hv) h1
      | succ k =>
        have ih := putLoop k (v / 128) (m + 1) (catF m f (litF [[.v (.int .u8 ((v % 128 + 128 : Nat) : Int))]])) (Nat.div_lt_of_lt_mul (by rw [Nat.pow_succ] at hv; omega)) (by omega)
        have e1 : hi (k + 1) v = (v % 128 + 128) :: hi k (v / 128) := by rw [hi, blt_f h1]
        have e2 : lo (k + 1) v = lo k (v / 128) := by rw [lo, blt_f h1]
        have hd : Int.fdiv (v : Int) 128 = ((v / 128 : Nat) : Int) := fdivN v 128
        have q := tree_i hP (putuR_t m f v (m + 1 + (hi k (v / 128)).length) (lo k (v / 128)) (catF (m + 1) (catF m f (litF [[.v (.int .u8 ((v % 128 + 128 : Nat) : Int))]])) (Ls (hi k (v / 128))))) (by
          simp only [Sc.Ok, u8_more, hd]
          exact ⟨fun _ => ⟨by omega, ih, rfl⟩, fun h => by simp at h; omega⟩)
        rw [e1, e2]
        refine QOk.weak q (Weak.mkh (ALes.refl _) (.cons ?_ .nil))
        have hl : m + 1 + (hi k (v / 128)).length = m + ((v % 128 + 128) :: hi k (v / 128)).length := by simp; omega
        refine OLe.row hl fun i hi => ?_
        unfold catF
        by_cases h2 : i < m
        · rw [if_pos (by omega), if_pos h2, if_pos h2]
        · by_cases h3 : i < m + 1
          · rw [if_pos h3, if_neg h2, if_neg h2, show i - m = 0 by omega]; rfl
          · rw [if_neg h3, if_neg h2]
            obtain ⟨j, hj⟩ : ∃ j, i - m = j + 1 := ⟨i - m - 1, by omega⟩
            rw [hj, show i - (m + 1) = j by omega]; rfl
theorem cPutU {n v : Nat} {f : Nat → List PV} (hf : BOk n f) (hn : wl n) (hv : u64 v) : QOk Try.prog CK (.call 50 [Sl n f, U64 v] []) ⟨.ret, [.c (.os 0)], [rowB (n + (pu v).length) (catF n f (Ls (pu v)))]⟩ := by
  refine QOk.arg (args := [Sl n (Bs (byN f)), U64 v]) ?_ (.cons (ALe.sl hf) (.cons (ALe.refl _) .nil))
  have hb : BOk n (Bs (byN f)) := BOk.bs n (fun i _ => byN_lt f i)
  have hlo : lo 9 v < 256 := pu_256 hv _ (by unfold pu; simp)
  have hlen := pu_len v
  have hl1 : (pu v).length = (hi 9 v).length + 1 := by unfold pu; simp
  have q := putLoop 9 v n (Bs (byN f)) (by rw [pow10]; unfold u64 at hv; omega) (by unfold wl at hn; omega)
  have q2 := tree_i hP (putuT_t n (byN f) v (n + (hi 9 v).length) (lo 9 v) (catF n (Bs (byN f)) (Ls (hi 9 v)))) (by
    simp only [Sc.Ok, w8]
    refine ⟨cClone hb hn, q, by unfold wl at hn; omega, rfl⟩)
  refine QOk.weak q2 (Weak.mkh (ALes.refl _) (.cons ?_ .nil))
  have hl : n + (hi 9 v).length + 1 = n + (pu v).length := by omega
  refine OLe.row hl fun i hi' => ?_
  unfold catF
  by_cases h2 : i < n
  · rw [if_pos (by omega), if_pos h2, if_pos h2]; exact (hf i h2).symm
  · unfold pu
    by_cases h3 : i < n + (hi 9 v).length
    · rw [if_pos h3, if_neg h2, if_neg h2]
      have : ((hi 9 v ++ [lo 9 v]).getD (i - n) 0) = (hi 9 v).getD (i - n) 0 := by
        rw [List.getD_eq_getElem?_getD, List.getD_eq_getElem?_getD, List.getElem?_append_left (by omega)]
      show [PV.v (Value.int .u8 (((hi 9 v).getD (i - n) 0 : Nat) : Int))] = [PV.v (Value.int .u8 (((hi 9 v ++ [lo 9 v]).getD (i - n) 0 : Nat) : Int))]
      rw [this]
    · rw [if_neg h3, if_neg h2]
      have e : i - n = (hi 9 v).length := by omega
      have : ((hi 9 v ++ [lo 9 v]).getD (i - n) 0) = lo 9 v := by
        rw [e, List.getD_eq_getElem?_getD, List.getElem?_append_right (Nat.le_refl _), Nat.sub_self]; rfl
      rw [show i - (n + (hi 9 v).length) = 0 by omega]
      show [PV.v (Value.int .u8 ((lo 9 v % 256 : Nat) : Int))] = [PV.v (Value.int .u8 (((hi 9 v ++ [lo 9 v]).getD (i - n) 0 : Nat) : Int))]
      rw [this, Nat.mod_eq_of_lt hlo]
/-! ### Signed numbers -/
theorem wz64 (n : Int) : IntKind.wrap .u64 n = n % 18446744073709551616 := by simp [IntKind.wrap, IntKind.signed, IntKind.bits]
theorem wi64 (n : Int) : IntKind.wrap .i64 n = if 9223372036854775808 ≤ n % 18446744073709551616 then n % 18446744073709551616 - 18446744073709551616 else n % 18446744073709551616 := by simp [IntKind.wrap, IntKind.signed, IntKind.bits]
theorem shl1 (k : Int) : IntKind.wrap .u64 (IntKind.wrap .u64 k * (2 : Int) ^ min (Int.toNat (1 : Int)) (IntKind.bits .u64)) = ((2 * k) % 18446744073709551616 : Int) := by
  show IntKind.wrap .u64 (IntKind.wrap .u64 k * (2 : Int)) = _
  rw [wz64, wz64]
  omega
theorem shr63 {k : Int} (h : -9223372036854775808 ≤ k ∧ k ≤ 9223372036854775807) : IntKind.wrap .u64 (Int.fdiv k ((2 : Int) ^ min (Int.toNat (63 : Int)) (IntKind.bits .i64))) = if 0 ≤ k then 0 else 18446744073709551615 := by
  show IntKind.wrap .u64 (Int.fdiv k (9223372036854775808 : Int)) = _
  rw [Int.fdiv_eq_ediv_of_nonneg _ (by decide), wz64]
  split <;> omega
theorem xor_ones {x : Nat} (h : x < 18446744073709551616) : (BitVec.ofNat 64 x ^^^ BitVec.ofNat 64 18446744073709551615).toNat = 18446744073709551615 - x := by
  have : BitVec.ofNat 64 18446744073709551615 = BitVec.allOnes 64 := by decide
  rw [this, BitVec.xor_allOnes, BitVec.toNat_not, BitVec.toNat_ofNat, Nat.mod_eq_of_lt (by simpa using h)]
theorem zz_word {k : Int} (h : -9223372036854775808 ≤ k ∧ k ≤ 9223372036854775807) : IntKind.wrap .u64 ((BitVec.toNat (BitVec.ofInt (IntKind.bits .u64) (IntKind.wrap .u64 (IntKind.wrap .u64 k * (2 : Int) ^ min (Int.toNat (1 : Int)) (IntKind.bits .u64))) ^^^ BitVec.ofInt (IntKind.bits .u64) (IntKind.wrap .u64 (Int.fdiv k ((2 : Int) ^ min (Int.toNat (63 : Int)) (IntKind.bits .i64))))) : Nat) : Int) = ((zz k : Nat) : Int) := by
  rw [shl1, shr63 h]
  show IntKind.wrap .u64 ((BitVec.ofInt 64 _ ^^^ BitVec.ofInt 64 _).toNat : Int) = _
  obtain ⟨x, hx⟩ : ∃ x : Nat, (2 * k) % 18446744073709551616 = (x : Int) := ⟨((2 * k) % 18446744073709551616).toNat, by omega⟩
  rw [hx]
  unfold zz
  by_cases h0 : 0 ≤ k
  · rw [if_pos h0, if_pos h0, show (0 : Int) = ((0 : Nat) : Int) by rfl, bvXor 64 _ _ (by omega) (by decide)]
    rw [show Nat.xor x 0 = x from Nat.xor_zero x, wu64, Nat.mod_eq_of_lt (by omega)]
    omega
  · rw [if_neg h0, if_neg h0, show (18446744073709551615 : Int) = ((18446744073709551615 : Nat) : Int) by rfl, bvN, bvN, xor_ones (by omega)]
    rw [wu64, Nat.mod_eq_of_lt (by omega)]
    omega
theorem uz_word {u : Nat} (h : u64 u) : IntKind.wrap .i64 ((BitVec.toNat (BitVec.ofInt (IntKind.bits .i64) (IntKind.wrap .i64 (Int.fdiv (u : Int) ((2 : Int) ^ min (Int.toNat (1 : Int)) (IntKind.bits .u64)))) ^^^ BitVec.ofInt (IntKind.bits .i64) (IntKind.wrap .i64 ((0 : Int) - IntKind.wrap .i64 (IntKind.wrap .u64 ((BitVec.toNat (BitVec.ofInt (IntKind.bits .u64) (u : Int) &&& BitVec.ofInt (IntKind.bits .u64) (1 : Int)) : Nat) : Int))))) : Nat) : Int) = uz u := by
  have e1 : Int.fdiv (u : Int) ((2 : Int) ^ min (Int.toNat (1 : Int)) (IntKind.bits .u64)) = ((u / 2 : Nat) : Int) := fdivN u 2
  have e2 : (BitVec.toNat (BitVec.ofInt (IntKind.bits .u64) (u : Int) &&& BitVec.ofInt (IntKind.bits .u64) (1 : Int)) : Nat) = u % 2 := by
    show (BitVec.ofInt 64 (u : Int) &&& BitVec.ofInt 64 ((1 : Nat) : Int)).toNat = _
    rw [bvAnd 64 _ _ h (by decide), Nat.and_one_is_mod]
  unfold u64 at h
  rw [e1, e2, wu64, Nat.mod_eq_of_lt (by omega), w64 (n := ((u / 2 : Nat) : Int)) (by omega), w64 (n := ((u % 2 : Nat) : Int)) (by omega), w64 (n := (0 : Int) - ((u % 2 : Nat) : Int)) (by omega)]
  show IntKind.wrap .i64 ((BitVec.ofInt 64 _ ^^^ BitVec.ofInt 64 _).toNat : Int) = _
  unfold uz
  by_cases h0 : u % 2 = 0
  · rw [if_pos h0, h0, show (0 : Int) - ((0 : Nat) : Int) = ((0 : Nat) : Int) by rfl, bvXor 64 _ _ (by omega) (by decide)]
    rw [show Nat.xor (u / 2) 0 = u / 2 from Nat.xor_zero _, w64 (by omega)]
  · rw [if_neg h0, show u % 2 = 1 by omega]
    have : BitVec.ofInt 64 ((0 : Int) - ((1 : Nat) : Int)) = BitVec.ofNat 64 18446744073709551615 := by decide
    rw [this, bvN, xor_ones (by omega), wi64]
    split <;> omega
theorem cPutI {n : Nat} {k : Int} {f : Nat → List PV} (hf : BOk n f) (hn : wl n) (hk : -9223372036854775808 ≤ k ∧ k ≤ 9223372036854775807) : QOk Try.prog CK (.call 51 [Sl n f, I k] []) ⟨.ret, [.c (.os 0)], [rowB (n + (pu (zz k)).length) (catF n f (Ls (pu (zz k))))]⟩ := by
  refine QOk.arg (args := [Sl n (Bs (byN f)), I k]) ?_ (.cons (ALe.sl hf) (.cons (ALe.refl _) .nil))
  have hb : BOk n (Bs (byN f)) := BOk.bs n (fun i _ => byN_lt f i)
  have q := cPutU hb hn (zz_lt hk)
  have q2 := tree_i (r := ⟨.ret, [.c (.os 0)], [rowB (n + (pu (zz k)).length) (catF n (Bs (byN f)) (Ls (pu (zz k))))]⟩) hP (putiT_t n (byN f) k) (by
    simp only [Sc.Ok, zz_word hk, Int.toNat_natCast]
    exact ⟨q, rfl⟩)
  refine QOk.weak q2 (Weak.mkh (ALes.refl _) (.cons (OLe.row rfl fun i hi' => ?_) .nil))
  unfold catF
  by_cases h2 : i < n
  · rw [if_pos h2, if_pos h2]; exact (hf i h2).symm
  · rw [if_neg h2, if_neg h2]
theorem cPutT {n : Nat} {s : ByteArray} {f : Nat → List PV} (hf : BOk n f) (hn : wl n) (hs : wl s.size) : QOk Try.prog CK (.call 52 [Sl n f, Str s] []) ⟨.ret, [.c (.os 0)], [rowB (n + (pu s.size).length + s.size) (catF (n + (pu s.size).length) (catF n f (Ls (pu s.size))) (strF s))]⟩ := by
  refine QOk.arg (args := [Sl n (Bs (byN f)), Str s]) ?_ (.cons (ALe.sl hf) (.cons (ALe.refl _) .nil))
  have hb : BOk n (Bs (byN f)) := BOk.bs n (fun i _ => byN_lt f i)
  have hw : IntKind.wrap .u64 ((s.size : Nat) : Int) = ((s.size : Nat) : Int) := by rw [wu64, Nat.mod_eq_of_lt (by unfold wl at hs; omega)]
  have q := cPutU (v := s.size) hb hn (by unfold u64; unfold wl at hs; omega)
  have hl := pu_len s.size
  have q2 := tree_i (r := ⟨.ret, [.c (.os 0)], [rowB (n + (pu s.size).length + s.size) (catF (n + (pu s.size).length) (catF n (Bs (byN f)) (Ls (pu s.size))) (strF s))]⟩) hP (puttT_t n (byN f) s) (by
    simp only [Sc.Ok, hw, Int.toNat_natCast]
    exact ⟨q, by unfold wl at hn hs; omega, rfl⟩)
  refine QOk.weak q2 (Weak.mkh (ALes.refl _) (.cons (OLe.row rfl fun i hi' => ?_) .nil))
  unfold catF
  by_cases h1 : i < n + (pu s.size).length
  · rw [if_pos h1, if_pos h1]
    by_cases h2 : i < n
    · rw [if_pos h2, if_pos h2]; exact (hf i h2).symm
    · rw [if_neg h2, if_neg h2]
  · rw [if_neg h1, if_neg h1]
/-! ### Cursors -/
theorem cRight (n : Nat) (f : Nat → List PV) (a e : Int) : QOk Try.prog CK (.call 77 [Cur n f a e] []) ⟨.ret, [B (rt n a e)], []⟩ := by
  refine tree_i hP (wrightT_t n f a e) ?_
  simp only [Sc.Ok]
  unfold rt
  refine ⟨fun h => ⟨fun h2 => ar (congrArg B ?_), fun h2 => ar (congrArg B ?_)⟩, fun h => ar (congrArg B ?_)⟩
  all_goals
    simp at *
    try simp [*]
    try omega
theorem cLeft {n : Nat} {f : Nat → List PV} {a e : Int} (hn : wl n) : QOk Try.prog CK (.call 55 [Cur n f a e] []) ⟨.ret, [I (lft n a e)], []⟩ := by
  refine tree_i hP (leftT_t n f a e) ?_
  simp only [Sc.Ok]
  unfold lft
  refine ⟨cRight n f a e, fun h => ar (congrArg I ?_), fun h => ar (congrArg I ?_)⟩
  · have h : rt n a e = false := by simpa using h
    rw [h]; rfl
  · have h : rt n a e = true := by simpa using h
    rw [if_pos h]
    unfold rt at h
    rw [decide_eq_true_iff] at h
    rw [w64 (by unfold wl at hn; omega)]
theorem sh_bs (f : Nat → List PV) (k : Nat) : byN (sh (Bs (byN f)) k) = byN (sh f k) := funext fun i => congrFun (byN_bs f) (i + k)
theorem u_bs (n : Nat) (f : Nat → List PV) (a e : Int) : uK n (Bs (byN f)) a = uK n f a ∧ uE n (Bs (byN f)) a e = uE n f a e ∧ uA n (Bs (byN f)) a e = uA n f a e ∧ uV n (Bs (byN f)) a e = uV n f a e := by
  unfold uE uA uV uK
  rw [sh_bs]
  exact ⟨rfl, rfl, rfl, rfl⟩
theorem rt_iff {n : Nat} {a e : Int} : rt n a e = true ↔ e = 0 ∧ 0 ≤ a ∧ a ≤ n := by unfold rt; rw [decide_eq_true_iff]
theorem Rel.later {P : Program} {M : Mem} {φ : Phi} {w W : World} (hR : Rel P (Blocks [] φ) w M M φ [] w) (hb : Below w.heap.size w W) : Rel P (Blocks [] φ) w M M φ [] W where
  mem := .refl _
  agr := fun b o v h => (hb.cell (p := ⟨b, o, none⟩) (block_lt (hR.agr b o v h))).trans (hR.agr b o v h)
  obj := fun l o h => by simp at h
  sep := fun l l' o o' x x' b h => by simp at h
  own := fun l o x b h => by simp at h
  dom := hR.dom
  os := hb.os
  tape := hb.tape
  output := hb.output
  size := hb.size
  old := fun b h k => hb.block b h
  new := fun b o v h => .inl h
  eqs := hR.eqs
theorem not_blocks {φ : Phi} (b : Nat) : ¬ Blocks [] φ b := fun ⟨l, o, x, h, _⟩ => by simp at h
theorem below_of {P : Program} {M N : Mem} {φ ψ : Phi} {w w' : World} (hR : Rel P (Blocks [] φ) w M N ψ [] w') : Below w.heap.size w w' := ⟨hR.os, hR.tape, hR.output, hR.size, fun k hk => hR.old k hk (not_blocks k)⟩
theorem repL2 {M : Mem} {φ : Phi} {v : Value} {x y : AV} (h : RepA M φ v (.tup [x, y])) : ∃ a b, v = .tuple #[a, b] ∧ RepA M φ a x ∧ RepA M φ b y := by
  cases h with
  | @tup vs cs hl h =>
    match vs, hl with
    | [a, b], _ => exact ⟨a, b, rfl, h 0 a x rfl rfl, h 1 b y rfl rfl⟩
theorem cUint {n : Nat} {f : Nat → List PV} {a e : Int} (hf : BOk n f) (hn : wl n) : QOk Try.prog CK (.call 56 [Cur n f a e] []) ⟨.ret, [.tup [Cur n f (uA n f a e) (uE n f a e), U64 (uV n f a e)]], []⟩ := by
  have qr := cRight n f a e
  cases hr : rt n a e with
  | false =>
    rw [hr] at qr
    refine tree_i hP (uintT0_t n f a e) ?_
    simp only [Sc.Ok]
    have e1 : uE n f a e = if e = 0 then 1 else e := by unfold uE; rw [hr]; rfl
    have e2 : uA n f a e = a := by unfold uA; rw [hr]; rfl
    have e3 : uV n f a e = 0 := by unfold uV; rw [hr]; rfl
    rw [e1, e2, e3]
    refine ⟨qr, fun h => ?_, fun h => ?_⟩
    · have h : e = 0 := by simpa using h
      rw [if_pos h]; rfl
    · have h : ¬ e = 0 := by simpa using h
      rw [if_neg h]; rfl
  | true =>
    obtain ⟨rfl, h0, hle⟩ := rt_iff.1 hr
    have hpart : BOk (n - a.toNat) (sh f a.toNat) := hf.part (by omega)
    have qs := cSize hpart (by unfold wl at *; omega)
    have eE : uE n f a 0 = szE (n - a.toNat) (byN (sh f a.toNat)) := by unfold uE; rw [hr]; rfl
    have eA : uA n f a 0 = a + uK n f a := by unfold uA; rw [hr]; rfl
    have eV : uV n f a 0 = vl (byN (sh f a.toNat)) 0 (uK n f a) := by unfold uV; rw [hr]; rfl
    by_cases hE : szE (n - a.toNat) (byN (sh f a.toNat)) = 0
    · obtain ⟨g1, g2, g3, g4, _⟩ := of_size (fun i => byN_lt (sh f a.toNat) i) hE
      have hKd : uK n f a = szK (n - a.toNat) (byN (sh f a.toNat)) := rfl
      rw [hE, ← hKd] at qs
      rw [hE] at eE
      rw [eE, eA, eV]
      rw [← hKd] at g1 g2 g3 g4
      generalize hk : uK n f a = k at *
      have hcall : ∀ (vs : List Value) (w : World) (M : Mem) (φ : Phi), Rel Try.prog (Blocks [] φ) w M M φ [] w → RepL M φ vs [Cur n f a 0] → Calls Try.prog 56 vs.toArray w (CallR Try.prog M φ [] w ⟨.ret, [.tup [Cur n f (a + k) 0, U64 (vl (byN (sh f a.toNat)) 0 k)]], []⟩) := by
        intro vs w M φ hR hV
        obtain ⟨v, us, rfl, hu, hus⟩ := hV.uncons
        have h1 := hus.nil_inv
        subst h1
        cases hu with
        | @agg ws cs hu =>
          obtain ⟨x0, ws, rfl, y0, hu⟩ := hu.uncons
          obtain ⟨x1, ws, rfl, y1, hu⟩ := hu.uncons
          obtain ⟨x2, ws, rfl, y2, hu⟩ := hu.uncons
          have h1 := hu.nil_inv
          subst h1
          have z1 := sval_rep (.c y1)
          have z2 := sval_rep (.c y2)
          subst z1 z2
          have y0' := y0
          cases y0 with
          | p y0 => cases y0 with
            | sl ad cap b o sz c hc ha hl hM hcc =>
              have hsz : sz = 1 := by rw [← hl 0 (by omega), hf 0 (by omega)]; rfl
              subst hsz
              have had := ha (by omega)
              subst had
              have hcell : ∀ j, j < n → w.cell? ⟨b, o + j, none⟩ = some (.int .u8 (byN f j : Int)) := by
                intro j hj
                have h2 := hR.agr _ _ _ (hM j 0 hj (by omega))
                have h3 := hcc j 0 (.v (.int .u8 (byN f j : Int))) hj (by rw [hf j hj]; rfl)
                have h4 : c j 0 = .int .u8 (byN f j : Int) := sval_rep (φ := φ) (.c (.p h3))
                rw [h4, Nat.mul_one, Nat.add_zero] at h2
                exact h2
              have hbl : b < w.heap.size := by have := block_lt (hcell 0 (by omega)); exact this
              have hu := Wu.Uint_in Fence.wide 3 trivial trivial trivial trivial trivial rfl (Nat.le_refl _) b o n cap a k h0 (by omega) (by omega) hn hc (fun j => (byN f j : Int)) w hbl hcell (fun W hW => by
                have hRW := (Rel.later hR hW).anew
                have ax : RepA M φ (.slice (some ⟨b, o + a.toNat, none⟩) (n - a.toNat) (cap - a.toNat)) (Sl (n - a.toNat) (sh f a.toNat)) := .c (.p (.sl _ _ b (o + a.toNat) 1 (fun i j => c (i + a.toNat) j) (by omega) (fun _ => rfl) (fun i hi => hl _ (by omega)) (fun i j hi hj => by
                  have := hM (i + a.toNat) j (by omega) hj
                  rwa [show o + ((i + a.toNat) * 1 + j) = o + a.toNat + (i * 1 + j) by omega] at this) (fun i j x hi hx => hcc (i + a.toNat) j x (by omega) hx)))
                refine callsIn_wide.2 ?_
                have qs' : CallOk Try.prog 79 [Sl (n - a.toNat) (sh f a.toNat)] [] ⟨.ret, [.tup [I k, I 0]], []⟩ := by
                  unfold QOk at qs; exact qs
                rcases qs' [_] W M φ hRW (RepL.cons ax RepL.nil) with ⟨_, h2⟩ | ⟨v, w', h1, _⟩
                · refine h2.mono ?_
                  rintro e w' ⟨M', φ', _, _, hrel, _, hend⟩
                  cases e with
                  | returned v =>
                    obtain ⟨p, q, rfl, hp, hq⟩ := repL2 hend
                    have e1 := sval_rep hp
                    have e2 := sval_rep hq
                    subst e1 e2
                    exact ⟨rfl, below_of hrel⟩
                  | _ => exact hend.elim
                · exfalso
                  simp [callFunc, Try.func79, Try.f79] at h1)
              refine (callsIn_wide.1 hu).mono ?_
              rintro e w' ⟨rfl, hB⟩
              refine ⟨M, φ, .refl _, fun _ _ => rfl, Rel.later hR hB, Nat.le_refl _, ?_⟩
              have hev := eat_vl (byN (sh f a.toNat)) (fun i => byN_lt _ i) k g4 k (Nat.le_refl _)
              rw [Nat.sub_self] at hev
              have hev' : Wu.eatAll (Wu.upto (Wu.bk (fun j => (byN f (j + a.toNat) : Int)) k) k) = (vl (byN (sh f a.toNat)) 0 k : Int) := hev
              rw [hev']
              have r1 : RepA M φ (.agg #[.slice (some ⟨b, o, none⟩) n cap, .int .i64 (a + k), .int .i64 0]) (Cur n f (a + k) 0) := .agg (RepCs.cons y0' (RepCs.cons (.p (.v rfl)) (RepCs.cons (.p (.v rfl)) RepCs.nil)))
              have r2 : RepL M φ [.agg #[.slice (some ⟨b, o, none⟩) n cap, .int .i64 (a + k), .int .i64 0], .int .u64 (vl (byN (sh f a.toNat)) 0 k : Int)] [Cur n f (a + k) 0, U64 (vl (byN (sh f a.toNat)) 0 k)] := RepL.cons r1 (RepL.cons (.c (.p (.v rfl))) RepL.nil)
              exact RepA.tup r2.1 r2.2
      unfold QOk
      exact CallIn.ok (by have := hP; unfold progOk at this; simp only [Bool.and_eq_true] at this; exact this.1.1.2) Try.func56 (by rfl) hcall
    · have hK : uK n f a = 0 := szK_of_err hE
      rw [eE, eA, eV, hK]
      refine QOk.weak (a := ⟨.ret, [.tup [Cur n f a (szE (n - a.toNat) (byN (sh f a.toNat))), U64 0]], []⟩) ?_ ?_
      · refine QOk.arg (args := [Cur n (Bs (byN f)) a 0]) ?_ (.cons (curLe hf) .nil)
        have hfb : BOk n (Bs (byN f)) := BOk.bs n (fun i _ => byN_lt f i)
        have qr' := cRight n (Bs (byN f)) a 0
        rw [hr] at qr'
        have qs' := cSize (n := n - a.toNat) (f := sh (Bs (byN f)) a.toNat) (hfb.part (by omega)) (by unfold wl at *; omega)
        rw [sh_bs, szK_of_err hE] at qs'
        refine QOk.weak (tree_i (r := ⟨.ret, [.tup [Cur n (Bs (byN f)) a (szE (n - a.toNat) (byN (sh f a.toNat))), U64 0]], []⟩) hP (uintT1_t n (byN f) a (szE (n - a.toNat) (byN (sh f a.toNat))) (by simpa using hE)) ?_) (Weak.mkh (.cons (ALe.tups (.cons (curLe fun i hi => (hf i hi).symm) (.cons (ALe.refl _) .nil))) .nil) .nil)
        simp only [Sc.Ok, Int.toNat_natCast]
        refine ⟨qr', by omega, qs', fun _ => trivial, fun h => ?_⟩
        simp at h; exact absurd h hE
      · have : a + ((0 : Nat) : Int) = a := by omega
        rw [this]; exact Weak.refl _
theorem uV_lt (n : Nat) (f : Nat → List PV) (a e : Int) : u64 (uV n f a e) := by
  unfold uV u64
  split
  · by_cases hE : szE (n - a.toNat) (byN (sh f a.toNat)) = 0
    · exact (of_size (fun i => byN_lt _ i) hE).2.2.2.1
    · unfold uK; rw [szK_of_err hE]; show 0 < 18446744073709551616; decide
  · decide
theorem cInt {n : Nat} {f : Nat → List PV} {a e : Int} (hf : BOk n f) (hn : wl n) : QOk Try.prog CK (.call 57 [Cur n f a e] []) ⟨.ret, [.tup [Cur n f (uA n f a e) (uE n f a e), I (uz (uV n f a e))]], []⟩ := by
  refine tree_i hP (intT_t n f a e) ?_
  simp only [Sc.Ok, uz_word (uV_lt n f a e)]
  exact ⟨cUint hf hn, trivial⟩
theorem wTake {n m : Nat} {f g h : Nat → List PV} {a e a' e' : Int} (ha : a = a') (he : e = e') (hf : ∀ i, i < n → f i = g i) {l : Nat} {p q : Nat → List PV} (hl : l = m) (hp : ∀ i, i < l → p i = q i) : Weak ⟨.ret, [.tup [Cur n f a e, Sl l p]], []⟩ ⟨.ret, [.tup [Cur n g a' e', Sl m q]], []⟩ := by
  subst ha he hl
  exact Weak.mkh (.cons (ALe.tups (.cons (curLe hf) (.cons (ALe.sl hp) .nil))) .nil) .nil
theorem cTake {n : Nat} {f : Nat → List PV} {a e k : Int} (hf : BOk n f) (hn : wl n) (hk : -9223372036854775808 ≤ k ∧ k ≤ 9223372036854775807) :
    QOk Try.prog CK (.call 81 [Cur n f a e, I k] []) ⟨.ret, [.tup [Cur n f (a + kL n a e k) (kE n a e k), Sl (kL n a e k) (fun i => f (i + a.toNat))]], []⟩ := by
  refine QOk.arg (args := [Cur n (Bs (byN f)) a e, I k]) ?_ (.cons (curLe hf) (.cons (ALe.refl _) .nil))
  have hb : BOk n (Bs (byN f)) := BOk.bs n (fun i _ => byN_lt f i)
  have hback : ∀ i, i < n → Bs (byN f) i = f i := fun i hi => (hf i hi).symm
  have no : ∀ {E : Int}, kE n a e k = E → E ≠ 0 → Weak ⟨.ret, [.tup [Cur n (Bs (byN f)) a E, Sl 0 (fun _ => [])]], []⟩ ⟨.ret, [.tup [Cur n f (a + kL n a e k) (kE n a e k), Sl (kL n a e k) (fun i => f (i + a.toNat))]], []⟩ := by
    intro E h1 h2
    have h3 : kL n a e k = 0 := by unfold kL; rw [if_neg (by rw [h1]; exact h2)]
    exact wTake (h := f) (by rw [h3]; omega) h1.symm hback h3.symm (fun i hi => by omega)
  refine tree_w hP (takeT_t n (byN f) a e k) ?_
  simp only [Sc.Ok]
  refine ⟨cRight _ _ _ _, fun h => ⟨fun h1 => no (E := 1) ?_ (by decide), fun h1 => no (E := e) ?_ ?_⟩, fun h => ⟨fun h1 => ⟨fun h2 => no (E := 1) ?_ (by decide), fun h2 => ?_⟩, fun h1 => ⟨cLeft hn, fun h2 => ⟨fun h3 => no (E := 10) ?_ (by decide), fun h3 => ?_⟩, fun h2 => ?_⟩⟩⟩
  · have h : rt n a e = false := by simpa using h
    have h1 : e = 0 := by simpa using h1
    unfold kE; rw [h, if_neg (by simp), if_pos h1]
  · have h : rt n a e = false := by simpa using h
    have h1 : ¬ e = 0 := by simpa using h1
    unfold kE; rw [h, if_neg (by simp), if_neg h1]
  · simpa using h1
  · have h1 : k < 0 := by simpa using h1
    have h2 : e = 0 := by simpa using h2
    unfold kE; rw [if_neg (by omega), if_pos h2]
  · have h : rt n a e = true := by simpa using h
    have := (rt_iff.1 h).1
    simp [this] at h2
  · have h : rt n a e = true := by simpa using h
    have h1 : ¬ k < 0 := by simpa using h1
    have h2 : lft n a e < k := by simpa using h2
    unfold lft at h2; rw [if_pos h] at h2
    unfold kE; rw [if_pos ⟨h, by omega⟩, if_pos (by omega)]
  · have h : rt n a e = true := by simpa using h
    have := (rt_iff.1 h).1
    simp [this] at h3
  · have h : rt n a e = true := by simpa using h
    have h1 : ¬ k < 0 := by simpa using h1
    have h2 : ¬ lft n a e < k := by simpa using h2
    unfold lft at h2; rw [if_pos h] at h2
    obtain ⟨rfl, g1, g2⟩ := rt_iff.1 h
    unfold wl at hn
    have hw : IntKind.wrap .i64 (a + k) = a + k := w64 (by omega)
    have hE : kE n a 0 k = 0 := by unfold kE; rw [if_pos ⟨h, by omega⟩, if_neg (by omega)]
    have hL : kL n a 0 k = k.toNat := by unfold kL; rw [if_pos hE]
    have hs : (a + k).toNat - a.toNat = k.toNat := by omega
    simp only [hw, hs]
    refine ⟨by omega, cClone (BOk.bs (l := fun i => byN f (i + a.toNat)) _ (fun i _ => byN_lt f _)) (by unfold wl; omega), ?_⟩
    exact wTake (h := f) (by rw [hL]; omega) hE.symm hback hL.symm (fun i hi => hback _ (by omega))
theorem cText {n : Nat} {f : Nat → List PV} {a e k : Int} (hf : BOk n f) (hn : wl n) (hk : -9223372036854775808 ≤ k ∧ k ≤ 9223372036854775807) :
    QOk Try.prog CK (.call 58 [Cur n f a e, I k] []) ⟨.ret, [.tup [Cur n f (tA n f a e k) (tE n f a e k), Str (tS n f a e k)]], []⟩ := by
  have hv := uV_lt n f a e
  refine tree_i hP (textT_t n f a e k) ?_
  simp only [Sc.Ok]
  have hu := cUint (a := a) (e := e) hf hn
  have hEA : uE n f a e = 0 → e = 0 ∧ 0 ≤ a ∧ a ≤ uA n f a e ∧ uA n f a e ≤ n := by
    intro h0
    cases hr : rt n a e with
    | true =>
      obtain ⟨g0, g1, g2⟩ := rt_iff.1 hr
      have hs : szE (n - a.toNat) (byN (sh f a.toNat)) = 0 := by unfold uE at h0; rw [if_pos hr] at h0; exact h0
      have := of_size (b := byN (sh f a.toNat)) (fun i => byN_lt _ i) hs
      unfold uA uK; rw [if_pos hr]
      exact ⟨g0, g1, by omega, by omega⟩
    | false =>
      unfold uE at h0
      rw [if_neg (by rw [hr]; decide)] at h0
      split at h0 <;> omega
  refine ⟨hu, fun h => ?_, fun h => ?_⟩
  · have h : uE n f a e ≠ 0 := by simpa using h
    have hA : uA n f a e = a := by
      unfold uA uE at *
      split
      · rename_i hr
        rw [if_pos hr] at h
        unfold uK; rw [szK_of_err h]; omega
      · rfl
    have hE : tE n f a e k = uE n f a e := by unfold tE; rw [if_pos h]
    have hT : tA n f a e k = a := by unfold tA; rw [if_neg (by rw [hE]; exact h)]
    have hS : tS n f a e k = ByteArray.empty := by unfold tS; rw [if_neg (by rw [hE]; exact h)]
    rw [hE, hT, hS, hA]; rfl
  · have h : uE n f a e = 0 := by simpa using h
    obtain ⟨rfl, g1, g2, g3⟩ := hEA h
    have nine : (k < 0 ∨ k < uV n f a 0) → (⟨.ret, [.tup [Cur n f a 9, Str ByteArray.empty]], []⟩ : Ans) = ⟨.ret, [.tup [Cur n f (tA n f a 0 k) (tE n f a 0 k), Str (tS n f a 0 k)]], []⟩ := by
      intro h1
      have hE : tE n f a 0 k = 9 := by unfold tE; rw [if_neg (by rw [h]; decide), if_pos h1]
      have hT : tA n f a 0 k = a := by unfold tA; rw [if_neg (by rw [hE]; decide)]
      have hS : tS n f a 0 k = ByteArray.empty := by unfold tS; rw [if_neg (by rw [hE]; decide)]
      rw [hE, hT, hS]
    refine ⟨fun h1 => ⟨fun _ => nine (.inl (by simpa using h1)), fun h2 => by simp at h2⟩, fun h1 => ?_⟩
    have h1 : ¬ k < 0 := by simpa using h1
    have hw : IntKind.wrap .u64 k = k := by rw [wz64]; omega
    rw [hw]
    refine ⟨fun h2 => ⟨fun _ => nine (.inr (by simpa using h2)), fun h2 => by simp at h2⟩, fun h2 => ?_⟩
    have h2 : ¬ k < uV n f a 0 := by simp at h2; omega
    have hwv : IntKind.wrap .i64 ((uV n f a 0 : Nat) : Int) = ((uV n f a 0 : Nat) : Int) := w64 (by omega)
    rw [hwv, h]
    have hrt : rt n (uA n f a 0) 0 = true := rt_iff.2 ⟨rfl, by omega, g3⟩
    have hkE : kE n (uA n f a 0) 0 (uV n f a 0) = if (n : Int) - uA n f a 0 < uV n f a 0 then 10 else 0 := by unfold kE; rw [if_pos ⟨hrt, by omega⟩]
    have htE : tE n f a 0 k = if (n : Int) - uA n f a 0 < uV n f a 0 then 10 else 0 := by unfold tE; rw [if_neg (by rw [h]; decide), if_neg (by omega)]
    refine ⟨cTake hf hn (by omega), fun h3 => ⟨fun _ => ?_, fun h4 => by simp at h4⟩, fun h3 => ⟨?_, ?_⟩⟩
    · have h3 : kE n (uA n f a 0) 0 (uV n f a 0) ≠ 0 := by simpa using h3
      have hE : tE n f a 0 k = kE n (uA n f a 0) 0 (uV n f a 0) := by rw [htE, hkE]
      have hT : tA n f a 0 k = a := by unfold tA; rw [if_neg (by rw [hE]; exact h3)]
      have hS : tS n f a 0 k = ByteArray.empty := by unfold tS; rw [if_neg (by rw [hE]; exact h3)]
      rw [hE, hT, hS]; rfl
    all_goals
      have h3 : kE n (uA n f a 0) 0 (uV n f a 0) = 0 := by simpa using h3
      have hL : kL n (uA n f a 0) 0 (uV n f a 0) = uV n f a 0 := by unfold kL; rw [if_pos h3]; omega
      have hle : ¬ (n : Int) - uA n f a 0 < uV n f a 0 := fun hx => by rw [hkE, if_pos hx] at h3; omega
    · rw [hL]
      exact BOk.ok (hf.part (by omega))
    · have hE : tE n f a 0 k = 0 := by rw [htE, if_neg hle]
      have hT : tA n f a 0 k = uA n f a 0 + uV n f a 0 := by unfold tA; rw [if_pos hE]
      have hS : tS n f a 0 k = textOf (uV n f a 0) (fun i => f (i + (uA n f a 0).toNat)) := by unfold tS; rw [if_pos hE]
      rw [hL, h3, hE, hT, hS]
end Wire
end Go.Fx
