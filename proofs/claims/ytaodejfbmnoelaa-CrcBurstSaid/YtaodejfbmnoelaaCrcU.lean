/- The sum of bytes: CrcTable answers true. -/
import Derived.Test.YtaodejfbmnoelaaCrcT
set_option maxRecDepth 100000
set_option maxHeartbeats 4000000
set_option linter.unusedVariables false
set_option linter.unusedSimpArgs false
namespace Go.Fx
open Go.Proofs
namespace Crc
attribute [local irreducible] QOk
def SC : Qry → Option Sa := spec [(41, sT), (46, sTab), (50, sStp)] []
theorem stp50_t (n : Int)  : fol CK Try.prog S0 (An.d (An.b (An.d An.e) (An.d An.e))) (T.evQ CK Try.prog (.call 50 [U32 n] []) .done) = Sc.br (Int.tmod n (2 : Int) == (1 : Int)) (Sc.done (Ans.mk Ex.ret [AV.c (CV.p (PV.v (Value.int IntKind.u32 (IntKind.wrap IntKind.u32 (↑(BitVec.toNat (BitVec.ofInt (IntKind.bits IntKind.u32) (IntKind.wrap IntKind.u32 (Int.tdiv n (2 : Int))) ^^^ BitVec.ofInt (IntKind.bits IntKind.u32) (3988292384 : Int))) : Int)))))] [])) (Sc.done (Ans.mk Ex.ret [AV.c (CV.p (PV.v (Value.int IntKind.u32 (IntKind.wrap IntKind.u32 (Int.tdiv n (2 : Int))))))] [])) := by kernel_rfl

theorem law12_t (k : Int)  : fol CK Try.prog SC (An.a (An.l (An.i (An.l (An.a (An.i (An.l (An.a (An.i (An.l (An.a (An.i (An.l (An.a (An.i (An.l (An.a (An.i (An.l (An.a (An.i (An.l (An.a (An.i (An.l (An.a (An.i (An.l (An.a (An.c An.e)))))))))))))))))))))))))))))) (T.evQ CK Try.prog (.call 12 [U8 k] []) .done) = Sc.ask (Qry.call (41 : Nat) [] []) (Ans.mk Ex.ret [AV.c (CV.p (PV.v (Value.bool true)))] []) (Sc.ask (Qry.call (50 : Nat) [AV.c (CV.p (PV.v (Value.int IntKind.u32 (IntKind.wrap IntKind.u32 k))))] []) (Ans.mk Ex.ret [AV.c (CV.p (PV.v (Value.int IntKind.u32 (stpI (IntKind.wrap IntKind.u32 k)))))] []) (Sc.ask (Qry.call (50 : Nat) [AV.c (CV.p (PV.v (Value.int IntKind.u32 (stpI (IntKind.wrap IntKind.u32 k)))))] []) (Ans.mk Ex.ret [AV.c (CV.p (PV.v (Value.int IntKind.u32 (stpI (stpI (IntKind.wrap IntKind.u32 k))))))] []) (Sc.ask (Qry.call (50 : Nat) [AV.c (CV.p (PV.v (Value.int IntKind.u32 (stpI (stpI (IntKind.wrap IntKind.u32 k))))))] []) (Ans.mk Ex.ret [AV.c (CV.p (PV.v (Value.int IntKind.u32 (stpI (stpI (stpI (IntKind.wrap IntKind.u32 k)))))))] []) (Sc.ask (Qry.call (50 : Nat) [AV.c (CV.p (PV.v (Value.int IntKind.u32 (stpI (stpI (stpI (IntKind.wrap IntKind.u32 k)))))))] []) (Ans.mk Ex.ret [AV.c (CV.p (PV.v (Value.int IntKind.u32 (stpI (stpI (stpI (stpI (IntKind.wrap IntKind.u32 k))))))))] []) (Sc.ask (Qry.call (50 : Nat) [AV.c (CV.p (PV.v (Value.int IntKind.u32 (stpI (stpI (stpI (stpI (IntKind.wrap IntKind.u32 k))))))))] []) (Ans.mk Ex.ret [AV.c (CV.p (PV.v (Value.int IntKind.u32 (stpI (stpI (stpI (stpI (stpI (IntKind.wrap IntKind.u32 k)))))))))] []) (Sc.ask (Qry.call (50 : Nat) [AV.c (CV.p (PV.v (Value.int IntKind.u32 (stpI (stpI (stpI (stpI (stpI (IntKind.wrap IntKind.u32 k)))))))))] []) (Ans.mk Ex.ret [AV.c (CV.p (PV.v (Value.int IntKind.u32 (stpI (stpI (stpI (stpI (stpI (stpI (IntKind.wrap IntKind.u32 k))))))))))] []) (Sc.ask (Qry.call (50 : Nat) [AV.c (CV.p (PV.v (Value.int IntKind.u32 (stpI (stpI (stpI (stpI (stpI (stpI (IntKind.wrap IntKind.u32 k))))))))))] []) (Ans.mk Ex.ret [AV.c (CV.p (PV.v (Value.int IntKind.u32 (stpI (stpI (stpI (stpI (stpI (stpI (stpI (IntKind.wrap IntKind.u32 k)))))))))))] []) (Sc.ask (Qry.call (50 : Nat) [AV.c (CV.p (PV.v (Value.int IntKind.u32 (stpI (stpI (stpI (stpI (stpI (stpI (stpI (IntKind.wrap IntKind.u32 k)))))))))))] []) (Ans.mk Ex.ret [AV.c (CV.p (PV.v (Value.int IntKind.u32 (stpI (stpI (stpI (stpI (stpI (stpI (stpI (stpI (IntKind.wrap IntKind.u32 k))))))))))))] []) (Sc.ask (Qry.call (46 : Nat) [] []) (Ans.mk Ex.ret [TabV] []) (Sc.chk ((0 : Int) ≤ k ∧ k < (256 : Int) ∧ Int.toNat k < (256 : Nat)) (Sc.done (Ans.mk Ex.ret [AV.c (CV.p (PV.v (Value.bool (List.getD tabI (Int.toNat k) (0 : Int) == stpI (stpI (stpI (stpI (stpI (stpI (stpI (stpI (IntKind.wrap IntKind.u32 k))))))))))))] [])))))))))))) := by kernel_rfl
theorem tAwake : fol CK Try.prog (spec [(46, sTab)] []) (An.a (An.d (An.d (An.i (An.i (An.l (An.l (An.d (An.d (An.i (An.i (An.l (An.d (An.d (An.d (An.d (An.i (An.l (An.d (An.d (An.d (An.d (An.i (An.l (An.d (An.d (An.d (An.d (An.i (An.l (An.d (An.d (An.d (An.d (An.i (An.l (An.d (An.d (An.d (An.d (An.i (An.l (An.d (An.d (An.d (An.d (An.i (An.l (An.d (An.d (An.d (An.d (An.i (An.l (An.d (An.d (An.d (An.d (An.i (An.l (An.d (An.d (An.d (An.d (An.i (An.l (An.i (An.d (An.d (An.d (An.d (An.d (An.i (An.l (An.d (An.d (An.i (An.i (An.l (An.d (An.d (An.d (An.d (An.i (An.l (An.d (An.d (An.d (An.d (An.i (An.l (An.d (An.d (An.d (An.d (An.i (An.l (An.d (An.d (An.d (An.d (An.i (An.l (An.d (An.d (An.d (An.d (An.i (An.l (An.d (An.d (An.d (An.d (An.i (An.l (An.d (An.d (An.d (An.d (An.i (An.l (An.d (An.d (An.d (An.d (An.i (An.l (An.d (An.d (An.d (An.d (An.i (An.l (An.i (An.d (An.d (An.d (An.d (An.i (An.l (An.i (An.l (An.d (An.d (An.l (An.i (An.l (An.d (An.d (An.l (An.i (An.l (An.d (An.d (An.l (An.i (An.l (An.d (An.d (An.l (An.i (An.l (An.l (An.d (An.i (An.l (An.l (An.d (An.d (An.i (An.i (An.l (An.d (An.d (An.d (An.d (An.i (An.l (An.d (An.d (An.d (An.d (An.i (An.l (An.d (An.d (An.d (An.d (An.i (An.l (An.d (An.d (An.d (An.d (An.i (An.l (An.d (An.d (An.d (An.d (An.i (An.l (An.d (An.d (An.d (An.d (An.i (An.l (An.d (An.d (An.d (An.d (An.i (An.l (An.d (An.d (An.d (An.d (An.i (An.l (An.d (An.d (An.d (An.d (An.i (An.l (An.l (An.l (An.l (An.l (An.l (An.l (An.d (An.l (An.d (An.l (An.l (An.l (An.l (An.d (An.l (An.l (An.l (An.l (An.l An.e))))))))))))))))))))))))))))))))))))))))))))))))))))))))))))))))))))))))))))))))))))))))))))))))))))))))))))))))))))))))))))))))))))))))))))))))))))))))))))))))))))))))))))))))))))))))))))))))))))))))))))))))))))))))))))))))))))))))))))))))))))) (T.evQ CK Try.prog (.call 41 [] []) .done) = .ask (.call 46 [] []) ⟨.ret, [TabV], []⟩ (.done ⟨.ret, [B true], []⟩) := by kernel_rfl
theorem c41 : QOk Try.prog CK (.call 41 [] []) ⟨.ret, [B true], []⟩ := tree_i hP tAwake ⟨c46, rfl⟩
theorem u32w {n : Int} (h : 0 ≤ n ∧ n ≤ 4294967295) : IntKind.wrap .u32 n = n := by
  unfold IntKind.wrap
  simp [IntKind.bits, IntKind.signed]
  omega
theorem ofInt32 (a : Nat) (ha : a < 4294967296) : (BitVec.ofInt 32 (a : Int)).toNat = a := by
  rw [BitVec.toNat_ofInt]; omega
theorem c50 (m : Nat) (h : m < 4294967296) : QOk Try.prog CK (.call 50 [U32 m] []) ⟨.ret, [U32 (stpI m)], []⟩ := by
  refine tree_i hP (stp50_t m) ?_
  have e1 : Int.tmod (m : Int) 2 = ((m % 2 : Nat) : Int) := by
    rw [Int.tmod_eq_emod_of_nonneg (by omega)]; omega
  have e2 : Int.tdiv (m : Int) 2 = ((m / 2 : Nat) : Int) := by
    rw [Int.tdiv_eq_ediv_of_nonneg (by omega)]; omega
  have e3 : IntKind.wrap .u32 ((m / 2 : Nat) : Int) = ((m / 2 : Nat) : Int) := u32w (by omega)
  simp only [Sc.Ok, e1, e2, e3]
  refine ⟨fun h1 => ?_, fun h1 => ?_⟩
  · have h1 : m % 2 = 1 := by simp at h1; omega
    refine ar ?_
    have e4 : (BitVec.toNat (BitVec.ofInt (IntKind.bits IntKind.u32) ((m / 2 : Nat) : Int) ^^^ BitVec.ofInt (IntKind.bits IntKind.u32) (3988292384 : Int))) = Nat.xor (m / 2) 3988292384 := by
      have b1 := ofInt32 (m / 2) (by omega)
      have b2 := ofInt32 3988292384 (by decide)
      show (BitVec.ofInt 32 ((m / 2 : Nat) : Int) ^^^ BitVec.ofInt 32 (3988292384 : Int)).toNat = _
      rw [BitVec.toNat_xor, b1]
      exact congrArg (Nat.xor (m / 2)) b2
    have e5 := stp_lt h
    unfold stp at e5
    rw [if_pos h1] at e5
    rw [e4, u32w (by omega)]
    have e6 : stpI m = (Nat.xor (m / 2) 3988292384 : Nat) := by unfold stpI stp; rw [Int.toNat_natCast, if_pos h1]; rfl
    rw [e6]
  · have h1 : ¬ m % 2 = 1 := by simp at h1; omega
    refine ar ?_
    have e6 : stpI m = (m / 2 : Nat) := by unfold stpI stp; rw [Int.toNat_natCast, if_neg h1]; rfl
    rw [e6]
theorem stpI_nat (m : Nat) : stpI m = (stp m : Nat) := by unfold stpI; rw [Int.toNat_natCast]; rfl
theorem tabAll : (List.range 256).all (fun j => List.getD tabI j 0 == stpI (stpI (stpI (stpI (stpI (stpI (stpI (stpI (Int.ofNat j))))))))) = true := by kernel_rfl
theorem law12 (k : Int) (hk : 0 ≤ k ∧ k ≤ 255) : CallIn Try.prog 12 [U8 k] [] ⟨.ret, [B true], []⟩ := by
  obtain ⟨m, rfl⟩ : ∃ m : Nat, k = m := ⟨k.toNat, by omega⟩
  refine treeIn_i hP (law12_t m) ?_
  have hw : IntKind.wrap .u32 (m : Int) = m := u32w (by omega)
  have h0 : m < 4294967296 := by omega
  have h1 := stp_lt h0
  have h2 := stp_lt h1
  have h3 := stp_lt h2
  have h4 := stp_lt h3
  have h5 := stp_lt h4
  have h6 := stp_lt h5
  have h7 := stp_lt h6
  have q0 := c50 _ h0
  have q1 := c50 _ h1
  have q2 := c50 _ h2
  have q3 := c50 _ h3
  have q4 := c50 _ h4
  have q5 := c50 _ h5
  have q6 := c50 _ h6
  have q7 := c50 _ h7
  have ha := List.all_eq_true.1 tabAll m (by simp; omega)
  simp only [Sc.Ok, hw, stpI_nat] at q0 q1 q2 q3 q4 q5 q6 q7 ⊢
  repeat' first | exact c41 | exact c46 | exact q0 | exact q1 | exact q2 | exact q3 | exact q4 | exact q5 | exact q6 | exact q7 | apply And.intro | intro _
  all_goals first
    | omega
    | (refine ar (congrArg B ?_)
       simp only [Int.ofNat_eq_natCast, stpI_nat, Int.toNat_natCast] at ha ⊢
       exact ha)
end Crc
end Go.Fx
