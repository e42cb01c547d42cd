/- Frames: what stands at a place. -/
import Derived.Test.YtokdkmlpfkeeaaaFrameW
set_option maxRecDepth 100000
set_option maxHeartbeats 4000000
set_option linter.unusedVariables false
set_option linter.unusedSimpArgs false
namespace Go.Fx
open Go.Proofs
namespace Crc
attribute [local irreducible] QOk
theorem cNext {n : Nat} {a : Int} {f : Nat → List PV} (hf : BOk n f) (hn : mid n) : QOk Try.prog CK (.call 47 [Sl n f, I a] []) ⟨.ret, [.tup [I (nxt n f a).w, I (nxt n f a).k, Sl (nxt n f a).p (Bs (nxt n f a).g), I (nxt n f a).s]], []⟩ := by
  refine QOk.arg (args := [Sl n (Bs (byN f)), I a]) ?_ (.cons (ALe.sl hf) (.cons (ALe.refl _) .nil))
  rw [← nxt_congr]
  obtain ⟨b, hb⟩ : ∃ b, b = byN f := ⟨_, rfl⟩
  rw [← hb]
  have hbl : ∀ i, b i < 256 := fun i => by rw [hb]; exact byN_lt _ _
  have eb : byN (Bs b) = b := funext fun i => byN_Bs _ _ (hbl i)
  clear hb hf
  refine tree_w hP (nextT_t n b a) ?_
  by_cases h0 : a < 0 ∨ (n : Int) < a
  · have e : nxt n (Bs b) a = nx0 3 := by unfold nxt; rw [if_pos h0]
    simp only [Sc.Ok]
    refine ⟨fun _ => w0 e, fun h1 => ⟨fun _ => w0 e, fun h2 => ?_⟩⟩
    simp at h1 h2; omega
  obtain ⟨p, rfl⟩ : ∃ p : Nat, a = p := ⟨a.toNat, by omega⟩
  have hB : ∀ m, BOk m (fun i => Bs b (i + p)) := fun m => BOk.bs (l := fun i => b (i + p)) m (fun i _ => hbl _)
  have es := orShift (hbl p) (hbl (1 + p))
  have hm : nxm (Bs b) p = 256 * b p + b (1 + p) := by unfold nxm; rw [eb, Nat.add_comm 1 p]
  obtain ⟨m, hm'⟩ : ∃ m, m = 256 * b p + b (1 + p) := ⟨_, rfl⟩
  have hml : m < 65536 := by have := hbl p; have := hbl (1 + p); omega
  have hw : IntKind.wrap .i64 ((m : Int) + 7) = ((m + 7 : Nat) : Int) := by rw [w64 (by omega)]; omega
  have hk : IntKind.wrap .i64 ((b (2 + p) : Nat) : Int) = ((b (2 + p) : Nat) : Int) := w64 (by have := hbl (2 + p); omega)
  have t2 : Int.toNat 2 = 2 := rfl
  have t3 : Int.toNat 3 = 3 := rfl
  have e7 : m + 7 - 4 = m + 3 := by omega
  have q := pOpen (hB (m + 7)) (by unfold big; omega)
  unfold openS at q
  rw [e7] at q
  have e8 : decide (m + 7 < 4) = false := decide_eq_false (by omega)
  rw [← hm'] at es hm
  have hS : same 4 4 (fourF (sealN (tbN (tbC stp8)) (m + 3) (fun i => Bs b (i + p)))) (fun i => Bs b (i + (m + 3) + p)) = same 4 4 (fourF (plainN (m + 3) (byN (fun i => Bs b (i + p))))) (fun i => Bs b (i + (m + 3) + p)) := by
    rw [show sealN (tbN (tbC stp8)) (m + 3) (fun i => Bs b (i + p)) = plainN (m + 3) (byN (fun i => Bs b (i + p))) from sumP (byN_lt _)]
  have hgood : good m (fun i => Bs b (i + p)) = (same 4 4 (fourF (sealN (tbN (tbC stp8)) (m + 3) (fun i => Bs b (i + p)))) (fun i => Bs b (i + (m + 3) + p)) && decide (1 ≤ b (2 + p) ∧ b (2 + p) ≤ 3)) := by
    rw [hS]
    unfold good
    rw [show byN (fun i => Bs b (i + p)) 2 = b (2 + p) from byN_Bs (fun i => b (i + p)) 2 (hbl _)]
  have bp2 : byN (Bs b) (p + 2) = b (2 + p) := by rw [eb, Nat.add_comm]
  simp only [Sc.Ok, Int.toNat_natCast, Int.toNat_zero, Int.toNat_one, t2, t3, Nat.zero_add, Nat.add_zero, Nat.sub_zero, es, hw, hk, e7]
  have hnx : nxt n (Bs b) (p : Int) = if n - p = 0 then nx0 1 else if n - p < 7 then nx0 2 else if 200 < m then nx0 3 else if n - p < m + 7 then nx0 2 else
      if good m (fun i => Bs b (i + p)) = true then ⟨0, byN (Bs b) (p + 2), m + 7, m, fun i => byN (Bs b) (i + (p + 3))⟩ else nx0 3 := by
    unfold nxt
    rw [if_neg h0, Int.toNat_natCast, hm]
  refine ⟨fun h => ?_, fun _ => ⟨fun h => ?_, fun _ => ⟨by omega, fun h1 => ?_, fun h1 => ⟨fun h2 => ?_, fun h2 => ⟨?_, ?_, fun h3 => ?_, fun h3 => ⟨fun h4 => ?_, fun h4 => ⟨cTable, ?_, q, fun h => ?_, fun _ => ⟨fun h5 => ⟨?_, fun h6 => ?_, fun h6 => ⟨?_, fun h7 => ?_, fun h7 => ⟨?_, ?_, ?_⟩⟩⟩, fun h5 => ?_⟩⟩⟩⟩⟩⟩⟩⟩
  · simp at h; omega
  · simp at h; omega
  · have h1 : n - p = 0 := by simp at h1; omega
    exact w0 (by rw [hnx, if_pos h1])
  · have h1 : ¬ n - p = 0 := by simp at h1; omega
    have h2 : n - p < 7 := by simp at h2; omega
    exact w0 (by rw [hnx, if_neg h1, if_pos h2])
  · simp at h2; omega
  · simp at h2; omega
  · have h1 : ¬ n - p = 0 := by simp at h1; omega
    have h2 : ¬ n - p < 7 := by simp at h2; omega
    have h3 : 200 < m := by simp at h3; omega
    exact w0 (by rw [hnx, if_neg h1, if_neg h2, if_pos h3])
  · have h1 : ¬ n - p = 0 := by simp at h1; omega
    have h2 : ¬ n - p < 7 := by simp at h2; omega
    have h3 : ¬ 200 < m := by simp at h3; omega
    have h4 : n - p < m + 7 := by simp at h4; omega
    exact w0 (by rw [hnx, if_neg h1, if_neg h2, if_neg h3, if_pos h4])
  · simp at h4; omega
  · rw [e8] at h; simp at h
  all_goals
    have h1 : ¬ n - p = 0 := by simp at h1; omega
    have h2 : ¬ n - p < 7 := by simp at h2; omega
    have h3 : ¬ 200 < m := by simp at h3; omega
    have h4 : ¬ n - p < m + 7 := by simp at h4; omega
  · omega
  · have hg : good m (fun i => Bs b (i + p)) = false := by
      rw [hgood, Bool.and_eq_false_iff]
      right; rw [decide_eq_false_iff_not]; simp at h6; omega
    exact w0 (by rw [hnx, if_neg h1, if_neg h2, if_neg h3, if_neg h4, if_neg (by rw [hg]; simp)])
  · omega
  · have hg : good m (fun i => Bs b (i + p)) = false := by
      rw [hgood, Bool.and_eq_false_iff]
      right; rw [decide_eq_false_iff_not]; simp at h7; omega
    exact w0 (by rw [hnx, if_neg h1, if_neg h2, if_neg h3, if_neg h4, if_neg (by rw [hg]; simp)])
  · omega
  · omega
  · have hg : good m (fun i => Bs b (i + p)) = true := by
      rw [hgood, Bool.and_eq_true]
      refine ⟨h5, ?_⟩
      rw [decide_eq_true_iff]; simp at h6 h7; omega
    rw [hnx, if_neg h1, if_neg h2, if_neg h3, if_neg h4, if_pos hg]
    refine wNext rfl (by rw [bp2]) rfl (by simp) (fun i hi => ?_)
    show [PV.v (Value.int IntKind.u8 ((b (i + 3 + p) : Nat) : Int))] = [PV.v (Value.int IntKind.u8 ((byN (Bs b) (i + (p + 3)) : Nat) : Int))]
    rw [eb, show i + (p + 3) = i + 3 + p by omega]
  · have hg : good m (fun i => Bs b (i + p)) = false := by
      rw [hgood, Bool.and_eq_false_iff]
      left; exact h5
    exact w0 (by rw [hnx, if_neg h1, if_neg h2, if_neg h3, if_neg h4, if_neg (by rw [hg]; simp)])
theorem wRNext {w k s : Int} {p : Nat} {f : Nat → List PV} {x : Nx} (hw : w = x.w) (hk : k = x.k) (hs : s = x.s) (hp : p = x.p) (h : ∀ i, i < p → f i = Bs x.g i) : Weak ⟨.ret, [.agg [i64 w, i64 k, .p (.sl p f), i64 s]], []⟩ ⟨.ret, [.agg [i64 x.w, i64 x.k, .p (.sl x.p (Bs x.g)), i64 x.s]], []⟩ := by
  subst hw hk hs hp
  exact Weak.mkh (.cons (ALe.aggs (.cons (CLe.refl _) (.cons (CLe.refl _) (.cons (CLe.p (PLe.sl h)) (.cons (CLe.refl _) .nil))))) .nil) .nil
theorem wr0 {w : Nat} {x : Nx} (hx : x = nx0 w) : Weak ⟨.ret, [.agg [i64 (w : Int), i64 0, .p (.sl 0 (fun _ => [])), i64 0]], []⟩ ⟨.ret, [.agg [i64 x.w, i64 x.k, .p (.sl x.p (Bs x.g)), i64 x.s]], []⟩ := by
  subst hx
  exact wRNext rfl rfl rfl rfl (fun i hi => by omega)
theorem cRNext {n : Nat} {a : Int} {f : Nat → List PV} (hf : BOk n f) (hn : mid n) : QOk Try.prog CK (.call 48 [Sl n f, I a] []) ⟨.ret, [.agg [i64 (nxt n f a).w, i64 (nxt n f a).k, .p (.sl (nxt n f a).p (Bs (nxt n f a).g)), i64 (nxt n f a).s]], []⟩ := by
  refine QOk.arg (args := [Sl n (Bs (byN f)), I a]) ?_ (.cons (ALe.sl hf) (.cons (ALe.refl _) .nil))
  rw [← nxt_congr]
  obtain ⟨b, hb⟩ : ∃ b, b = byN f := ⟨_, rfl⟩
  rw [← hb]
  have hbl : ∀ i, b i < 256 := fun i => by rw [hb]; exact byN_lt _ _
  have eb : byN (Bs b) = b := funext fun i => byN_Bs _ _ (hbl i)
  clear hb hf
  refine tree_w hP (rnextT_t n b a) ?_
  by_cases h0 : a < 0 ∨ (n : Int) < a
  · have e : nxt n (Bs b) a = nx0 3 := by unfold nxt; rw [if_pos h0]
    simp only [Sc.Ok]
    refine ⟨fun _ => wr0 e, fun h1 => ⟨fun _ => wr0 e, fun h2 => ?_⟩⟩
    simp at h1 h2; omega
  obtain ⟨p, rfl⟩ : ∃ p : Nat, a = p := ⟨a.toNat, by omega⟩
  have hp : p ≤ n := by omega
  unfold mid at hn
  have hbs : ∀ i, IntKind.wrap .i64 ((b i : Nat) : Int) = ((b i : Nat) : Int) := fun i => w64 (by have := hbl i; omega)
  have g0 : IntKind.wrap .i64 ((n : Int) - p) = ((n - p : Nat) : Int) := by rw [w64 (by omega)]; omega
  have g1 : IntKind.wrap .i64 ((p : Int) + 1) = ((p + 1 : Nat) : Int) := by rw [w64 (by omega)]; omega
  have g2 : IntKind.wrap .i64 ((p : Int) + 2) = ((p + 2 : Nat) : Int) := by rw [w64 (by omega)]; omega
  have g3 : IntKind.wrap .i64 ((p : Int) + 3) = ((p + 3 : Nat) : Int) := by rw [w64 (by omega)]; omega
  have g7 : IntKind.wrap .i64 ((p : Int) + 7) = ((p + 7 : Nat) : Int) := by rw [w64 (by omega)]; omega
  have l0 := hbl p
  have l1 := hbl (p + 1)
  have hm : nxm (Bs b) p = 256 * b p + b (p + 1) := by unfold nxm; rw [eb]
  obtain ⟨m, hm'⟩ : ∃ m, m = 256 * b p + b (p + 1) := ⟨_, rfl⟩
  have g5 : IntKind.wrap .i64 (256 * ((b p : Nat) : Int)) = ((256 * b p : Nat) : Int) := by rw [w64 (by omega)]; omega
  have g6 : IntKind.wrap .i64 (((256 * b p : Nat) : Int) + ((b (p + 1) : Nat) : Int)) = (m : Int) := by rw [w64 (by omega)]; omega
  have a7 : IntKind.wrap .i64 (7 + (m : Int)) = ((m + 7 : Nat) : Int) := by rw [w64 (by omega)]; omega
  have a3 : IntKind.wrap .i64 (((p + 3 : Nat) : Int) + (m : Int)) = ((p + 3 + m : Nat) : Int) := by rw [w64 (by omega)]; omega
  have a8 : IntKind.wrap .i64 (((p + 7 : Nat) : Int) + (m : Int)) = ((p + 7 + m : Nat) : Int) := by rw [w64 (by omega)]; omega
  have s3 : p + 3 + m - (p + 3) = m := by omega
  have s7 : p + 7 + m - p = m + 7 := by omega
  rw [← hm'] at hm
  have hB : ∀ m, BOk m (fun i => Bs b (i + p)) := fun m => BOk.bs (l := fun i => b (i + p)) m (fun i _ => hbl _)
  have hB3 : ∀ m, BOk m (fun i => Bs b (i + (p + 3))) := fun m => BOk.bs (l := fun i => b (i + (p + 3))) m (fun i _ => hbl _)
  have q := cRPut (k := ((b (p + 2) : Nat) : Int)) (hB3 m) (by unfold mid; omega)
  have hP' : BOk (m + 7) (Bs (ptB ((b (p + 2) : Nat) : Int) m (fun i => Bs b (i + (p + 3))))) := BOk.bs _ (fun i _ => ptB_lt _ _ _ i)
  have kk : kb ((b (p + 2) : Nat) : Int) = b (p + 2) := kb_nat (hbl _)
  have eh : byN (fun i => Bs b (i + p)) = fun i => b (i + p) := funext fun i => byN_Bs (fun i => b (i + p)) i (hbl _)
  have eh3 : byN (fun i => Bs b (i + (p + 3))) = fun i => b (i + (p + 3)) := funext fun i => byN_Bs (fun i => b (i + (p + 3))) i (hbl _)
  have hfr := frame_iff (m := m) (k := b (p + 2)) (f := fun i => Bs b (i + (p + 3))) (h := fun i => Bs b (i + p)) fun i hi => by
    rw [byN_hd (hbl _), eh, eh3]
    match i with
    | 0 => rw [if_pos rfl]; show m / 256 % 256 = b (0 + p); rw [Nat.zero_add]; omega
    | 1 => rw [if_neg (by omega), if_pos rfl]; show m % 256 = b (1 + p); rw [Nat.add_comm 1 p]; omega
    | 2 => rw [if_neg (by omega), if_neg (by omega), if_pos rfl]; show b (p + 2) = b (2 + p); rw [Nat.add_comm 2 p]
    | i + 3 => rw [if_neg (by omega), if_neg (by omega), if_neg (by omega)]; show b (i + 3 - 3 + (p + 3)) = b (i + 3 + p); rw [show i + 3 - 3 + (p + 3) = i + 3 + p by omega]
  have htext : ((textOf (m + 7) (Bs (ptB ((b (p + 2) : Nat) : Int) m (fun i => Bs b (i + (p + 3)))))).toList == (textOf (m + 7) (fun i => Bs b (i + p))).toList) = true ↔ ∀ i, i < 4 → byN (fourF (plainN (m + 3) (byN (fun i => Bs b (i + p))))) i = byN (fun i => Bs b (i + p)) (i + (m + 3)) := by
    rw [toList_text hP' (hB _), decide_eq_true_iff, ← hfr]
    have : ∀ i, byN (Bs (ptB ((b (p + 2) : Nat) : Int) m (fun i => Bs b (i + (p + 3))))) i = byN (putF (b (p + 2)) m (fun i => Bs b (i + (p + 3)))) i := fun i => by
      rw [byN_Bs _ _ (ptB_lt _ _ _ i)]; unfold ptB; rw [kk]
    simp only [this]
    exact ⟨fun h => h.2, fun h => ⟨trivial, h⟩⟩
  have bp2 : byN (Bs b) (p + 2) = b (p + 2) := by rw [eb]
  have bp2' : byN (fun i => Bs b (i + p)) 2 = b (p + 2) := by rw [eh, Nat.add_comm p 2]
  have hnx : nxt n (Bs b) (p : Int) = if n - p = 0 then nx0 1 else if n - p < 7 then nx0 2 else if 200 < m then nx0 3 else if n - p < m + 7 then nx0 2 else
      if good m (fun i => Bs b (i + p)) = true then ⟨0, byN (Bs b) (p + 2), m + 7, m, fun i => byN (Bs b) (i + (p + 3))⟩ else nx0 3 := by
    unfold nxt
    rw [if_neg h0, Int.toNat_natCast, hm]
  simp only [Sc.Ok, hbs, g0, g1, g2, g3, g7, g5, Int.toNat_natCast, g6, a7, a3, a8, s3, s7]
  refine ⟨fun h => ?_, fun _ => ⟨fun h => ?_, fun _ => ⟨fun h1 => ?_, fun h1 => ⟨fun h2 => ?_, fun h2 => ⟨?_, ?_, fun h3 => ?_, fun h3 => ⟨fun h4 => ?_, fun h4 => ⟨?_, ?_, fun h6 => ?_, fun h6 => ⟨fun h7 => ?_, fun h7 => ⟨q, hP'.ok, ?_, (hB _).ok, fun h5 => ?_, fun h5 => ?_⟩⟩⟩⟩⟩⟩⟩⟩⟩
  · simp at h; omega
  · simp at h; omega
  · have h1 : n - p = 0 := by simp at h1; omega
    exact wr0 (by rw [hnx, if_pos h1])
  · have h1 : ¬ n - p = 0 := by simp at h1; omega
    have h2 : n - p < 7 := by simp at h2; omega
    exact wr0 (by rw [hnx, if_neg h1, if_pos h2])
  · simp at h2; omega
  · simp at h2; omega
  · have h1 : ¬ n - p = 0 := by simp at h1; omega
    have h2 : ¬ n - p < 7 := by simp at h2; omega
    have h3 : 200 < m := by simp at h3; omega
    exact wr0 (by rw [hnx, if_neg h1, if_neg h2, if_pos h3])
  · have h1 : ¬ n - p = 0 := by simp at h1; omega
    have h2 : ¬ n - p < 7 := by simp at h2; omega
    have h3 : ¬ 200 < m := by simp at h3; omega
    have h4 : n - p < m + 7 := by simp at h4; omega
    exact wr0 (by rw [hnx, if_neg h1, if_neg h2, if_neg h3, if_pos h4])
  all_goals
    have h1 : ¬ n - p = 0 := by simp at h1; omega
    have h2 : ¬ n - p < 7 := by simp at h2; omega
    have h3 : ¬ 200 < m := by simp at h3; omega
    have h4 : ¬ n - p < m + 7 := by simp at h4; omega
  · omega
  · omega
  · have hg : ¬ good m (fun i => Bs b (i + p)) = true := by
      rw [good_iff, bp2']; simp at h6; omega
    exact wr0 (by rw [hnx, if_neg h1, if_neg h2, if_neg h3, if_neg h4, if_neg hg])
  · have hg : ¬ good m (fun i => Bs b (i + p)) = true := by
      rw [good_iff, bp2']; simp at h7; omega
    exact wr0 (by rw [hnx, if_neg h1, if_neg h2, if_neg h3, if_neg h4, if_neg hg])
  · omega
  · have hg : ¬ good m (fun i => Bs b (i + p)) = true := by
      rw [good_iff, ← htext]
      rw [Bool.not_eq_true'] at h5
      rw [h5]; simp
    exact wr0 (by rw [hnx, if_neg h1, if_neg h2, if_neg h3, if_neg h4, if_neg hg])
  · have hg : good m (fun i => Bs b (i + p)) = true := by
      rw [good_iff, ← htext, bp2']
      rw [Bool.not_eq_false'] at h5
      refine ⟨h5, ?_⟩
      simp at h6 h7; omega
    rw [hnx, if_neg h1, if_neg h2, if_neg h3, if_neg h4, if_pos hg]
    refine wRNext rfl (by rw [bp2]) rfl (by simp) (fun i hi => ?_)
    show [PV.v (Value.int IntKind.u8 ((b (i + (p + 3)) : Nat) : Int))] = [PV.v (Value.int IntKind.u8 ((byN (Bs b) (i + (p + 3)) : Nat) : Int))]
    rw [eb]
end Crc
end Go.Fx
