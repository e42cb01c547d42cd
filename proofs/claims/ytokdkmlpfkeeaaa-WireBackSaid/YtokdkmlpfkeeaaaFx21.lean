/- Calls and loops are what the small interpreter answers. -/
import Derived.Test.YtokdkmlpfkeeaaaFx20
set_option linter.unusedVariables false
set_option linter.unusedSimpArgs false
namespace Go.Fx
open Go.RowKit

section
variable {P : Program} {S : Nat → Prop} {w0 w w' : World} {M0 M M' : Mem} {φ φ' : Phi} {h : Hp} {α : Type}

theorem loadAt_as {t : TypeId} {a' u : Value} (hr : (Instr.loadAt t a').run P w = .ok u w) : (do loadVar t (← asAddr a') : Sem Value).run P w = .ok u w := by
  cases a' with
  | pointer x =>
    cases x with
    | none => simp [Instr.loadAt, Instr.sureAddr] at hr
    | some y => exact hr
  | _ => simp [Instr.loadAt, Instr.sureAddr] at hr

def resOf (tmps : Array Value) : ResultVar → Sem Value
  | .tmp t => pure (tmps.getD t undef)
  | .cell a t => do loadVar t (← asAddr (tmps.getD a undef))

theorem resAV_sound {t : Tm} {N : Nat} {a : Act} {x : ResultVar} {k : AV → Option α} {r : α} (hR : Rel P S w0 M0 M φ h w) (hT : TRel M φ N t a) (hk : resAV P t h x k = some r) :
    ∃ v u, k v = some r ∧ (resOf a.tmps x).run P w = .ok u w ∧ RepA M φ u v := by
  cases x with
  | tmp j => exact ⟨t j, _, hk, rfl, hT.val j⟩
  | cell j ty =>
    obtain ⟨v, u, h1, h2, h3⟩ := loadAV_sound hR (show loadAV P h ty (t j) k = some r from hk) (hT.val j)
    exact ⟨v, u, h1, loadAt_as h2, h3⟩

theorem resL_sound {t : Tm} {N : Nat} {a : Act} (hR : Rel P S w0 M0 M φ h w) (hT : TRel M φ N t a) : ∀ (l : List ResultVar) {k : List AV → Option α} {r : α}, resL P t h l k = some r →
    ∃ vs us, k vs = some r ∧ (l.mapM (resOf a.tmps)).run P w = .ok us w ∧ RepL M φ us vs
  | [], k, r, hk => ⟨[], [], hk, rfl, RepL.nil⟩
  | x :: l, k, r, hk => by
    obtain ⟨v, u, h1, h2, h3⟩ := resAV_sound hR hT (show resAV P t h x _ = some r from hk)
    obtain ⟨vs, us, g1, g2, g3⟩ := resL_sound hR hT l h1
    refine ⟨v :: vs, u :: us, g1, ?_, RepL.cons h3 g3⟩
    simp only [List.mapM_cons, Sem.run_bind, h2, g2, Result.andThen_ok, Sem.run_pure]

theorem results_sound {t : Tm} {N : Nat} {a : Act} {fn : Func} {k : List AV → Option α} {r : α} (hR : Rel P S w0 M0 M φ h w) (hT : TRel M φ N t a) (hk : resL P t h fn.results.toList k = some r) :
    ∃ vs v, k vs = some r ∧ (results fn a.tmps).run P w = .ok v w ∧ RepA M φ v (oneOr vs) := by
  obtain ⟨vs, us, h1, h2, h3⟩ := resL_sound hR hT _ hk
  have hm : (fn.results.mapM (resOf a.tmps)).run P w = .ok us.toArray w := by
    rw [Array.mapM_eq_mapM_toList]
    simp [h2]
  have hres : results fn a.tmps = (do let vs ← fn.results.mapM (resOf a.tmps); pure (if h : vs.size = 1 then vs[0] else .tuple vs)) := by
    unfold results
    congr 1
  refine ⟨vs, if h : us.toArray.size = 1 then us.toArray[0] else .tuple us.toArray, h1, ?_, ?_⟩
  · rw [hres]
    simp only [Sem.run_bind, hm, Result.andThen_ok, Sem.run_pure]
  · cases vs with
    | nil => rw [h3.nil_inv]; exact RepL.nil.tup
    | cons x xs =>
      obtain ⟨u, us', rfl, hu, hus⟩ := h3.uncons
      cases xs with
      | nil => rw [hus.nil_inv]; simpa [oneOr] using hu
      | cons y ys =>
        obtain ⟨u2, us2, rfl, _, _⟩ := hus.uncons
        rw [dif_neg (by simp)]
        exact h3.tup

theorem Local.single {m : Nat} {x : AV} {us : List AV} {hl : Hp} {ns : List Nat} (L : Local m [x] h us hl ns) {v : Value} (hx : RepA M φ v x) : ∃ y, us = [y] ∧ RepA M (phiOf φ ns) v y := by
  have h1 := L.repL (RepL.cons hx RepL.nil)
  have hl := h1.1
  cases us with
  | nil => simp at hl
  | cons y ys =>
    cases ys with
    | nil => obtain ⟨v', vs', e, hv, _⟩ := h1.uncons; simp at e; exact ⟨y, rfl, by rw [e.1]; exact hv⟩
    | cons z zs => simp at hl

theorem callIn_sound {C : Cfg} {O : Orc α} (hP : progOk P = true) (hO : Honest P C O) {f : FuncId} {args : List AV} {h : Hp} {k : Ans → Option α} {r : α} (hk : evQ C P O (.call f args h) k = some r) {target : Ans} (htar : ∀ a, k a = some r → CallLe P a target) :
    ∃ fn c, P.funcs[f]? = some fn ∧ fn.body = some c ∧ CallIn P f args h target := by
  unfold progOk at hP
  simp only [Bool.and_eq_true] at hP
  obtain ⟨⟨⟨hmix, hnames⟩, hcodes⟩, heqs⟩ := hP
  simp only [evQ] at hk
  split at hk
  · rename_i fn hf
    split at hk
    · rename_i c hb
      refine ⟨fn, c, hf, hb, fun vs w M φ hR hV => ?_⟩
      have hcode : codeOk fn.ntmps c = true := by
        have := List.all_eq_true.1 hcodes fn (by rw [Array.mem_toList_iff]; exact Array.mem_of_getElem? hf)
        rwa [hb] at this
      have hT : TRel M φ fn.ntmps (argsT args) { tmps := vs.toArray ++ Array.replicate (fn.ntmps - vs.toArray.size) undef, defers := [] } := by
        refine ⟨by simp; omega, fun j => ?_, rfl⟩
        have key : ∀ (args : List AV) (vs : List Value) (n : Nat), RepL M φ vs args → ∀ j, RepA M φ ((vs.toArray ++ Array.replicate n undef).getD j undef) (argsT args j) := by
          intro args
          induction args with
          | nil =>
            intro vs n hr j
            rw [hr.nil_inv]
            simp only [argsT, Array.getD_eq_getD_getElem?, List.nil_append]
            have : ((#[] ++ Array.replicate n undef : Array Value)[j]?).getD undef = undef := by
              cases hx : (#[] ++ Array.replicate n undef : Array Value)[j]? with
              | none => rfl
              | some y =>
                simp [Array.getElem?_replicate] at hx
                simp [hx.2]
            rw [this]
            exact .undef
          | cons x xs ih =>
            intro vs n hr j
            obtain ⟨v, vs', rfl, hv, hvs⟩ := hr.uncons
            cases j with
            | zero =>
              have e : ((v :: vs').toArray ++ Array.replicate n undef).getD 0 undef = v := by
                simp only [Array.getD_eq_getD_getElem?]
                rw [← Array.getElem?_toList]
                simp
              simp only [argsT]
              rw [e]; exact hv
            | succ j =>
              have := ih vs' n hvs j
              simp only [argsT]
              have e : ((v :: vs').toArray ++ Array.replicate n undef).getD (j + 1) undef = (vs'.toArray ++ Array.replicate n undef).getD j undef := by
                simp only [Array.getD_eq_getD_getElem?]
                congr 1
                rw [← Array.getElem?_toList, ← Array.getElem?_toList]
                simp
              rw [e]; exact this
        exact key args vs _ hV j
      refine calls_of_wp hf hb (wp_mono (evC_sound hO hmix hf hb c [] _ h _ hk rfl hcode (Blocks h φ) w M M M φ φ w _ (.refl _) (.refl _) hR hT (Nat.le_refl _)) fun e a' w' hq => ?_)
      obtain ⟨e1, t1, h1, M', φ', g1, g2, g3, g4, g5, g6, g7⟩ := hq
      have ret : (resL P t1 h1 fn.results.toList fun vs => match C.ownR f with
          | true => match localize h.length [oneOr vs] h1 with
            | some (vs, h2, _) => k ⟨.ret, vs, h2⟩
            | none => none
          | false => match localize h.length [frzA h1 (oneOr vs)] (applyD h1 (frzD h1 (oneOr vs))) with
            | some (vs, h2, _) => k ⟨.ret, vs, h2⟩
            | none => none) = some r → ∃ v, (results fn a'.tmps).run P w' = .ok v w' ∧ CallR P M φ h w target (.returned v) w' := by
        intro hk
        obtain ⟨vs, v, k1, k2, k3⟩ := results_sound g5 g6 hk
        refine ⟨v, k2, ?_⟩
        split at k1
        · split at k1
          · rename_i us h2 ns hloc
            have L := localize_spec hloc
            obtain ⟨y, rfl, hy⟩ := L.single k3
            exact htar _ k1 _ _ _ _ _ _ ⟨M', _, g3, g4.trans (first_upto L), L.rel g5, first_le L, hy⟩
          · cases k1
        · split at k1
          · rename_i us h2 ns hloc
            have L := localize_spec hloc
            obtain ⟨N, f1, f2, f3, f4⟩ := frzA_sound g5 k3
            obtain ⟨y, rfl, hy⟩ := L.single f4
            exact htar _ k1 _ _ _ _ _ _ ⟨N, _, g3.trans f1, g4.trans (first_upto L), L.rel f2, first_le L, hy⟩
          · cases k1
      cases e1 with
      | normal =>
        cases e <;> first | exact g2.elim | skip
        obtain ⟨v, k1, k2⟩ := ret g1
        exact ⟨g6.defers, v, k1, k2⟩
      | ret =>
        cases e <;> first | exact g2.elim | skip
        obtain ⟨v, k1, k2⟩ := ret g1
        exact ⟨g6.defers, v, k1, k2⟩
      | exit i => simp [endCall] at g1
      | pan x =>
        cases e <;> first | exact g2.elim | skip
        obtain ⟨v, rfl, hv⟩ := g2
        simp only [endCall] at g1
        split at g1
        · rename_i us h2 ns hloc
          have L := localize_spec hloc
          exact ⟨g6.defers, htar _ g1 _ _ _ _ _ _ ⟨M', _, g3, g4.trans (first_upto L), L.rel g5, first_le L, v, rfl, hv⟩⟩
        · cases g1
    · cases hk
  · cases hk

theorem codeOk_at {n : Nat} : ∀ (p : List Nat) (c : Code) {x : Code}, codeAt p c = some (.loop x) → codeOk n c = true → codeOk n x = true
  | [], c, x, h, hc => by simp [codeAt] at h; subst h; simpa [codeOk] using hc
  | i :: p, c, x, h, hc => by
    cases c with
    | seq a b =>
      simp only [codeOk, Bool.and_eq_true] at hc
      cases i with
      | zero => exact codeOk_at p a (by simpa only [codeAt] using h) hc.1
      | succ i => exact codeOk_at p b (by simpa only [codeAt] using h) hc.2
    | cond y a b =>
      simp only [codeOk, Bool.and_eq_true] at hc
      cases i with
      | zero => exact codeOk_at p a (by simpa only [codeAt] using h) hc.1
      | succ i => exact codeOk_at p b (by simpa only [codeAt] using h) hc.2
    | block id a => exact codeOk_at p a (by simpa only [codeAt] using h) (by simpa only [codeOk] using hc)
    | loop a => exact codeOk_at p a (by simpa only [codeAt] using h) (by simpa only [codeOk] using hc)
    | _ => simp [codeAt] at h

theorem loopIn_sound {C : Cfg} {O : Orc α} (hP : progOk P = true) (hO : Honest P C O) {f m : Nat} {p : List Nat} {vals : List AV} {h : Hp} {k : Ans → Option α} {r : α} (hk : evQ C P O (.loop f m p vals h) k = some r) {target : Ans} (htar : ∀ a, k a = some r → Weak a target) :
    LoopOk P C f m p vals h target := by
  unfold progOk at hP
  simp only [Bool.and_eq_true] at hP
  obtain ⟨⟨⟨hmix, hnames⟩, hcodes⟩, heqs⟩ := hP
  simp only [evQ] at hk
  split at hk
  · rename_i fn hf
    split at hk
    · rename_i c hb
      split at hk
      · rename_i x hx
        refine ⟨fn, c, .loop x, hf, hb, hx, fun S w0 M0 M φ w act hR hT hm => ?_⟩
        have hcode : codeOk fn.ntmps c = true := by
          have := List.all_eq_true.1 hcodes fn (by rw [Array.mem_toList_iff]; exact Array.mem_of_getElem? hf)
          rwa [hb] at this
        have ha : codeOk fn.ntmps x = true := codeOk_at p c hx hcode
        have hx0 : codeAt (p ++ [0]) c = some x := by rw [codeAt_append, hx]; rfl
        refine round_unfold (wp_mono (evC_sound hO hmix hf hb x (p ++ [0]) _ h _ hk hx0 ha S w0 M0 M M φ φ w act (.refl _) (.refl _) hR hT hm) fun e a' w' hq => ?_)
        obtain ⟨e1, t1, h1, M', φ', g1, g2, g3, g4, g5, g6, g7⟩ := hq
        have hV : RepL M' φ' ((C.keep f p).map fun j => a'.tmps.getD j undef) ((C.keep f p).map t1) := keep_rep g6 _
        cases e1 with
        | normal =>
          cases e <;> first | exact g2.elim | skip
          simp only [endRound] at g1
          split at g1
          · rename_i us h2 ns hloc
            have L := localize_spec hloc
            obtain ⟨ans, hok, hk'⟩ := hO _ _ _ g1
            have hwk := htar _ hk'
            obtain ⟨fn', c', x', hf', hb', hp', hround⟩ := hok
            rw [hf] at hf'; injection hf' with hf'; subst hf'
            rw [hb] at hb'; injection hb' with hb'; subst hb'
            rw [hx] at hp'; injection hp' with hp'; subst hp'
            refine RoundWp.mono (hround S w0 M0 M' _ w' a' (L.rel g5) (keep_trel _ _ g6.size g6.defers (L.repL hV)) (first_le L)) fun e2 a2 w2 hq2 => ?_
            obtain ⟨M2, φ2, k1, k2, k3, k4, k5, k6⟩ := LoopR.weak hwk hq2
            exact ⟨M2, φ2, g3.trans k1, (g4.trans (first_upto L)).trans k2, k3, k4, k5, k6⟩
          · cases g1
        | pan y =>
          cases e <;> first | exact g2.elim | skip
          simp only [endRound] at g1
          split at g1
          · rename_i us h2 ns hloc
            have L := localize_spec hloc
            refine LoopR.weak (htar _ g1) ⟨M', _, g3, g4.trans (first_upto L), L.rel g5, ⟨g6.size, fun j => ?_, g6.defers⟩, g2, first_le L⟩
            cases C.keep f p <;> exact .top
          · cases g1
        | exit i =>
          cases e <;> first | exact g2.elim | skip
          simp only [endRound] at g1
          split at g1
          · rename_i us h2 ns hloc
            have L := localize_spec hloc
            exact LoopR.weak (htar _ g1) ⟨M', _, g3, g4.trans (first_upto L), L.rel g5, keep_trel _ _ g6.size g6.defers (L.repL hV), g2, first_le L⟩
          · cases g1
        | ret =>
          cases e <;> first | exact g2.elim | skip
          simp only [endRound] at g1
          split at g1
          · rename_i us h2 ns hloc
            have L := localize_spec hloc
            exact LoopR.weak (htar _ g1) ⟨M', _, g3, g4.trans (first_upto L), L.rel g5, keep_trel _ _ g6.size g6.defers (L.repL hV), g2, first_le L⟩
          · cases g1
      · cases hk
    · cases hk
  · cases hk
end
end Go.Fx
