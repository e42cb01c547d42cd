/- One operation, a call or not, against the model. -/
import Derived.Test.YtokdkmlpfkeeaaaFx17
set_option linter.unusedVariables false
set_option linter.unusedSimpArgs false
namespace Go.Fx
open Go.RowKit

section
variable {P : Program} {S : Nat → Prop} {w0 w w' : World} {M0 M M' : Mem} {φ φ' : Phi} {h : Hp} {α : Type}

theorem methodOf_run {t : TypeId} {name : String} {f : FuncId} (hm : methodOf P t name = some f) (v : Value) (n : Nat) (w : World) : (method (n + 1) t v name).run P w = .ok (f, v) w := by
  unfold methodOf at hm
  split at hm
  · rename_i i fields hi hu
    split at hm
    · rename_i m hfind
      split at hm
      · rename_i f' hpath hfunc
        injection hm with hm; subst hm
        unfold method
        simp [typeInfo, hi, hfind, hpath, follow, hfunc, receiverAt, run_underlying hu, Place.get]
      · cases hm
    · cases hm
  · cases hm

theorem callee_run {o : Oper} {c : Call} {t : Tm} {N : Nat} {a : Act} {f : FuncId} {args : List AV} (ho : o.op = .call c) (hT : TRel M φ N t a) (hc : callee P t c = some (f, args)) :
    ∃ xs, RepL M φ xs args ∧ (execOp a.eval o).run P w = (callFunc f xs.toArray).run P w := by
  have hargs : RepL M φ (c.args.toList.map a.eval) (c.args.toList.map (ev t)) := RepL.map _ _ _ (fun x => hT.ev x)
  have harr : (c.args.toList.map a.eval).toArray = c.args.map a.eval := Array.ext' (by rw [Array.toList_map])
  unfold callee at hc
  split at hc
  · rename_i g hcal
    split at hc
    · rename_i g' fs cs hg
      injection hc with hc; injection hc with e1 e2; subst e1; subst e2
      have hx := hT.ev g
      rw [hg] at hx
      generalize hx' : a.eval g = x' at hx
      cases hx with
      | c hx => cases hx with
        | p hx => cases hx with
          | v hs =>
            simp only [scalar, Bool.and_eq_true] at hs
            obtain ⟨h1, h2⟩ := hs
            have h1 : fs = #[] := by simpa using h1
            have h2 : cs = #[] := by simpa using h2
            subst h1; subst h2
            refine ⟨_, hargs, ?_⟩
            unfold execOp
            rw [ho, harr]
            simp [resolve, hcal, hx', Deferred.ofValue, invoke]
    · rename_i g' caps hg
      injection hc with hc; injection hc with e1 e2; subst e1; subst e2
      have hx := hT.ev g
      rw [hg] at hx
      generalize hx' : a.eval g = x' at hx
      cases hx with
      | c hx => cases hx with
        | fn hl hh =>
          rename_i us
          refine ⟨c.args.toList.map a.eval ++ us, hargs.append (RepCs.toL ⟨hl, hh⟩), ?_⟩
          unfold execOp
          rw [ho, show (c.args.toList.map a.eval ++ us).toArray = c.args.map a.eval ++ us.toArray by rw [← harr]; simp]
          simp [resolve, hcal, hx', Deferred.ofValue, invoke]
    · cases hc
  · rename_i g name hcal
    split at hc
    · rename_i ty cs hg
      split at hc
      · rename_i f' hf
        injection hc with hc; injection hc with e1 e2; subst e1; subst e2
        have hx := hT.ev g
        rw [hg] at hx
        generalize hx' : a.eval g = x' at hx
        cases hx with
        | c hx => cases hx with
          | p hx => cases hx with
            | ifa hl hh =>
              rename_i us
              refine ⟨.agg us.toArray :: c.args.toList.map a.eval, RepL.cons (.agg (RepPs.toC ⟨hl, hh⟩)) hargs, ?_⟩
              have e : ((Value.agg us.toArray) :: c.args.toList.map a.eval).toArray = #[.agg us.toArray] ++ c.args.map a.eval := by rw [← harr]; simp
              have e0 : (#[Value.iface ty (.agg us.toArray)] ++ c.args.map a.eval)[0]? = some (Value.iface ty (.agg us.toArray)) := by simp [Array.getElem?_append]
              have e1 : (#[Value.iface ty (.agg us.toArray)] ++ c.args.map a.eval).extract 1 (#[Value.iface ty (.agg us.toArray)] ++ c.args.map a.eval).size = c.args.map a.eval := by
                apply Array.ext'
                simp
                exact List.take_of_length_le (by simp)
              have hd : P.types.size + Made.depth = (P.types.size + 99) + 1 := rfl
              unfold execOp
              rw [ho, e]
              simp only [resolve, hcal, hx', Sem.run_bind, Sem.run_pure, Result.andThen_ok, invoke, e0, e1, callMethod, run_program, hd, methodOf_run hf]
      · cases hc
    · cases hc
  · cases hc

/-- An operation's value and changes, wherever the objects lie. -/
def OpDoes (P : Program) (h : Hp) (t : Tm) (o : Oper) (x : AV) (d : Dl) : Prop :=
  ∀ (S : Nat → Prop) (w0 : World) (M0 M : Mem) (φ : Phi) (w : World) (N : Nat) (a : Act), Rel P S w0 M0 M φ h w → TRel M φ N t a →
    ∀ (next : Act → World → Prop) (Q : Exit → Act → World → Prop), (∀ v' w', Leaves P S w0 M0 M φ h d v' x w' → next (a.put o.dst v') w') → o.wp P a w next Q
def OpPans (P : Program) (h : Hp) (t : Tm) (o : Oper) (y : PV) (d : Dl) : Prop :=
  ∀ (S : Nat → Prop) (w0 : World) (M0 M : Mem) (φ : Phi) (w : World) (N : Nat) (a : Act), Rel P S w0 M0 M φ h w → TRel M φ N t a →
    ∀ (next : Act → World → Prop) (Q : Exit → Act → World → Prop), (∀ v' w' M' φ', M.le M' → φ.upto h.length φ' → Rel P S w0 M0 M' φ' (applyD h d) w' → RepP M' v' y → Q (.panic [{ v := v', recovered := false }]) a w') → o.wp P a w next Q

theorem xop_op {o : Oper} {t : Tm} {k : KV α} {kp : PV → Option α} {r : α} (hk : xop P h h.length o t k kp = some r) :
    (∃ x d, k x d = some r ∧ OpDoes P h t o x d) ∨ (∃ y, kp y = some r ∧ OpPans P h t o y []) := by
  rcases xop_nat hk with ⟨x, d, h1, h2⟩ | ⟨y, h1, h2⟩
  · refine .inl ⟨x, d, h1, fun S w0 M0 M φ w N a hR hT next Q hn => ?_⟩
    rcases xop_sound hR hT (h2 (AV × Dl) (fun v d => some (v, d)) (fun _ => none)) with ⟨v, d', v', w', e, hdid, hL⟩ | ⟨_, _, e, _⟩
    · injection e with e; injection e with e1 e2; subst e1; subst e2
      unfold Oper.wp
      rcases hdid with e | ⟨e, rfl⟩
      · rw [e, Oper.upon_value]; exact hn v' w' hL
      · rw [e, Oper.upon_skip]; exact hn _ w' hL
    · cases e
  · refine .inr ⟨y, h1, fun S w0 M0 M φ w N a hR hT next Q hn => ?_⟩
    rcases xop_sound hR hT (h2 PV (fun _ _ => none) some) with ⟨_, _, _, _, e, _, _⟩ | ⟨x, v', e, hrun, hrep⟩
    · cases e
    · injection e with e; subst e
      unfold Oper.wp
      rw [hrun, Oper.upon_panic]
      exact hn v' w M φ (.refl _) (.refl _) (by simpa only [applyD] using hR) hrep

theorem evOp_op {C : Cfg} {O : Orc α} (hO : Honest P C O) {o : Oper} {t : Tm} {k : KV α} {kp : PV → Dl → Option α} {r : α} (hk : evOp C P O o t h k kp = some r) :
    (∃ x d, k x d = some r ∧ OpDoes P h t o x d) ∨ (∃ y d, kp y d = some r ∧ OpPans P h t o y d) := by
  have plain : xop P h h.length o t k (fun x => kp x []) = some r → (∃ x d, k x d = some r ∧ OpDoes P h t o x d) ∨ (∃ y d, kp y d = some r ∧ OpPans P h t o y d) := fun hk => by
    rcases xop_op hk with h1 | ⟨y, h1, h2⟩
    · exact .inl h1
    · exact .inr ⟨y, [], h1, h2⟩
  unfold evOp at hk
  split at hk
  · rename_i c ho
    split at hk
    · exact plain hk
    · split at hk
      · rename_i f args hcal
        obtain ⟨x, d, h1, h2⟩ := doCall_sound hO hk
        cases x with
        | inl x =>
          refine .inl ⟨x, d, h1, fun S w0 M0 M φ w N a hR hT next Q hn => ?_⟩
          obtain ⟨xs, hxs, hrun⟩ := callee_run (w := w) ho hT hcal
          unfold Oper.wp
          rw [hrun]
          rcases h2 S w0 M0 M φ w xs hR hxs with ⟨e1, e2⟩ | ⟨v, w', e1, M', φ', g1, g2, g3, g4⟩
          · rw [e1, Oper.upon_enter]
            refine e2.mono fun e w' hL => ?_
            obtain ⟨M', φ', g1, g2, g3, g4⟩ := hL
            cases e with
            | returned v => exact hn v w' ⟨M', φ', g1, g2, g3, g4⟩
            | panicked ch => exact g4.elim
            | outgrown => exact g4.elim
          · rw [e1, Oper.upon_value]
            exact hn v w' ⟨M', φ', g1, g2, g3, g4⟩
        | inr y =>
          refine .inr ⟨y, d, h1, fun S w0 M0 M φ w N a hR hT next Q hn => ?_⟩
          obtain ⟨xs, hxs, hrun⟩ := callee_run (w := w) ho hT hcal
          unfold Oper.wp
          rw [hrun]
          rcases h2 S w0 M0 M φ w xs hR hxs with ⟨e1, e2⟩ | ⟨v, w', e1, M', φ', g1, g2, g3, g4⟩
          · rw [e1, Oper.upon_enter]
            refine e2.mono fun e w' hL => ?_
            obtain ⟨M', φ', g1, g2, g3, g4⟩ := hL
            cases e with
            | returned v => exact g4.elim
            | panicked ch =>
              obtain ⟨v, rfl, g5⟩ := g4
              exact hn v w' M' φ' g1 g2 g3 g5
            | outgrown => exact g4.elim
          · exact g4.elim
      · cases hk
  · exact plain hk

/-! ### What is worked out first is the same -/
theorem frcV_eq (x : Value) (k : Value → Option α) : frcV x k = k x := by cases x <;> rfl
theorem frcN_eq (n : Nat) (k : Nat → Option α) : frcN n k = k n := by cases n <;> rfl
theorem frcC_eq (x : CV) (k : CV → Option α) : frcC x k = k x := by
  cases x with
  | p x => cases x with
    | v x => simp only [frcC]; exact frcV_eq x _
    | _ => rfl
  | _ => first | rfl | (simp only [frcC, frcN_eq])
theorem frcCs_eq : ∀ (x : List CV) (k : List CV → Option α), frcCs x k = k x
  | [], k => rfl
  | x :: l, k => by simp only [frcCs, frcC_eq]; exact frcCs_eq l _
mutual
theorem frcA_eq : ∀ (x : AV) (k : AV → Option α), frcA x k = k x
  | .c x, k => by simp only [frcA, frcC_eq]
  | .agg cs, k => by simp only [frcA, frcCs_eq]
  | .tup vs, k => by simp only [frcA]; exact frcL_eq vs _
  | .top, k => by simp only [frcA]
theorem frcL_eq : ∀ (x : List AV) (k : List AV → Option α), frcA.frcL x k = k x
  | [], k => by simp only [frcA.frcL]
  | x :: l, k => by simp only [frcA.frcL]; rw [frcA_eq]; exact frcL_eq l _
end
theorem frcO_eq (x : Ob) (k : Ob → Option α) : frcO x k = k x := by cases x <;> simp only [frcO, frcCs_eq]
theorem frcH_eq : ∀ (x : Hp) (k : Hp → Option α), frcH x k = k x
  | [], k => rfl
  | x :: l, k => by simp only [frcH, frcO_eq]; exact frcH_eq l _

/-! ### Operations in order -/
theorem guardOf_sound {ops : Array Oper} {t : Tm} {o : Oper} {x y : Option α} {r : α} {N : Nat} {a : Act} (hT : TRel M φ N t a) (hk : guardOf ops t o x y = some r) :
    (Region.wanted o (yielded ops a.tmps) = true ∧ x = some r) ∨ (Region.wanted o (yielded ops a.tmps) = false ∧ y = some r) := by
  unfold guardOf at hk
  unfold Region.wanted
  split at hk
  · rename_i hg; rw [hg]; exact .inl ⟨rfl, hk⟩
  · rename_i j want hg
    rw [hg]
    simp only
    unfold yielded
    split at hk
    · rename_i hj; rw [hj]; exact .inr ⟨rfl, hk⟩
    · rename_i o' hj
      rw [hj]
      split at hk
      · rename_i hd; simp only [Option.bind_some, hd]; exact .inr ⟨rfl, hk⟩
      · rename_i d hd
        simp only [Option.bind_some, hd]
        have hv := hT.val d
        split at hk
        · rename_i q hq
          rw [hq] at hv
          have hb := hv.bool
          have hsz : d < a.tmps.size := by
            rcases Nat.lt_or_ge d a.tmps.size with h1 | h1
            · exact h1
            · rw [Array.getD_eq_getD_getElem?, Array.getElem?_eq_none h1] at hb
              simp [undef] at hb
          have hg' : a.tmps[d]? = some (.bool q) := by
            rw [Array.getD_eq_getD_getElem?, Array.getElem?_eq_getElem hsz] at hb
            rw [Array.getElem?_eq_getElem hsz]
            simpa using hb
          rw [hg']
          cases want <;> cases q <;> simp only [br] at hk <;> first | exact .inl ⟨rfl, hk⟩ | exact .inr ⟨rfl, hk⟩
        · rename_i vs hq
          rw [hq] at hv
          refine .inr ⟨?_, hk⟩
          cases hx : a.tmps[d]? with
          | none => rfl
          | some z =>
            rw [Array.getD_eq_getD_getElem?, hx] at hv
            simp only [Option.getD_some] at hv
            cases hv with
            | tup => rfl
        · cases hk

theorem settle_out {d : Nat} {t : Tm} {k : Tm → Option α} {r : α} (h : settle d t k = some r) : k t = some r := by
  unfold settle at h
  split at h
  · rename_i q hq
    have e : upd t d (.c (.p (.v (.bool q)))) = t := by
      funext j
      rw [upd_eq]
      by_cases hj : j = d
      · rw [if_pos hj, hj, hq]
      · rw [if_neg hj]
    cases q with
    | true => simp only [br] at h; rwa [e] at h
    | false => simp only [br] at h; rwa [e] at h
  · exact h
theorem settleG_out {ops : Array Oper} {o : Oper} {t : Tm} {k : Tm → Option α} {r : α} (h : settleG ops o t k = some r) : k t = some r := by
  unfold settleG at h
  split at h
  · exact h
  · split at h
    · exact h
    · split at h
      · exact h
      · exact settle_out h
theorem settleO_out {c : Operand} {t : Tm} {k : Tm → Option α} {r : α} (h : settleO c t k = some r) : k t = some r := by
  unfold settleO at h
  split at h
  · exact settle_out h
  · exact h
theorem putK_eq (t : Tm) (d : Option Nat) (v : AV) (k : Tm → Option α) : putK t d v k = k (upd? t d v) := by cases d <;> rfl

/-- What holds behind a part of the code. -/
def Post (P : Program) (S : Nat → Prop) (w0 : World) (M0 M : Mem) (φ : Phi) (N m : Nat) (K : KT α) (r : α) : Exit → Act → World → Prop := fun e a' w' =>
  ∃ e1 t1 h1 M' φ', K e1 t1 h1 = some r ∧ ExR M' e1 e ∧ M.le M' ∧ φ.eqTo m φ' ∧ Rel P S w0 M0 M' φ' h1 w' ∧ TRel M' φ' N t1 a' ∧ m ≤ h1.length

theorem Phi.upto.trans {n m : Nat} {φ φ' φ'' : Phi} (h1 : φ.upto n φ') (h2 : φ'.upto m φ'') (hm : m ≤ n) : φ.upto m φ'' := ⟨h1.1.trans h2.1, fun l hl => (h2.2 l hl).trans (h1.2 l (by omega))⟩
theorem Phi.upto.less {n m : Nat} {φ φ' : Phi} (h1 : φ.upto n φ') (hm : m ≤ n) : φ.upto m φ' := ⟨h1.1, fun l hl => h1.2 l (by omega)⟩

theorem TRel.put? {N : Nat} {t : Tm} {a : Act} (h : TRel M φ N t a) {d : Option Nat} (hd : ∀ j, d = some j → j < N) {v : Value} {x : AV} (hv : RepA M φ v x) : TRel M φ N (upd? t d x) (a.put d v) := by
  cases d with
  | none => exact h
  | some j => exact h.put (hd j rfl) hv

theorem both_inv {x y : Option α} {r : α} (h : both x y = some r) : x = some r ∧ y = some r := by
  unfold both at h
  split at h
  · rename_i e; exact ⟨h, by rw [← e]; exact h⟩
  · cases h
theorem nilK_inv {n : Nat} {q : Bool} {k : Bool → Option α} {r : α} (h : nilK n q k = some r) : k (!q) = some r ∧ (n = 0 → k q = some r) := by
  unfold nilK at h
  by_cases hn : n = 0
  · simp only [hn, decide_true, br] at h
    obtain ⟨h1, h2⟩ := both_inv h
    exact ⟨h2, fun _ => h1⟩
  · simp only [hn, decide_false, br] at h
    exact ⟨h, fun h0 => absurd h0 hn⟩
theorem nilT_inv {t : Tm} {o : Oper} {n : Nat} {q : Bool} (h : nilT P t o = some (n, q)) : ∃ op ty x y pos e f, o.op = .binOp op ty x y pos ∧ ((op = .eql ∧ q = true) ∨ (op = .neq ∧ q = false)) ∧ P.underlying ty = some (.slice e) ∧ ev t x = .c (.p (.sl n f)) ∧ ev t y = .c .nils := by
  unfold nilT at h
  split at h
  · rename_i ty x y pos ho
    split at h
    · rename_i e n' f hu hx hy
      injection h with h; injection h with h1 h2; subst h1; subst h2
      exact ⟨_, _, _, _, _, _, _, ho, .inl ⟨rfl, rfl⟩, hu, hx, hy⟩
    · cases h
  · rename_i ty x y pos ho
    split at h
    · rename_i e n' f hu hx hy
      injection h with h; injection h with h1 h2; subst h1; subst h2
      exact ⟨_, _, _, _, _, _, _, ho, .inr ⟨rfl, rfl⟩, hu, hx, hy⟩
    · cases h
  · cases h
theorem nilT_run {t : Tm} {o : Oper} {n : Nat} {q : Bool} (h : nilT P t o = some (n, q)) {N : Nat} {a : Act} (hT : TRel M φ N t a) : ∃ b : Bool, (execOp a.eval o).run P w = .ok (.value (.bool b)) w ∧ (b = q → n = 0) := by
  obtain ⟨op, ty, x, y, pos, e, f, ho, hq, hu, hx, hy⟩ := nilT_inv h
  have h1 := hT.ev x
  have h2 := hT.ev y
  rw [hx] at h1
  rw [hy] at h2
  generalize hx' : a.eval x = x' at h1
  generalize hy' : a.eval y = y' at h2
  cases h2 with
  | c h2 => cases h2 with
    | nils =>
      cases h1 with
      | c h1 => cases h1 with
        | p h1 => cases h1 with
          | sl ad cap b o' sz c hn ha hl hM hc =>
            have key : (Op.equal ty (.slice ad n cap) (.slice none 0 0)).run P w = .ok ad.isNone w := by
              have gen : ∀ d : Nat, (Op.equalIn (d + 1) ty (.slice ad n cap) (.slice none 0 0)).run P w = .ok ad.isNone w := fun d => by
                cases ad <;> simp [Op.equalIn, run_underlying hu]
              exact gen 9999
            rcases hq with ⟨rfl, rfl⟩ | ⟨rfl, rfl⟩
            · refine ⟨ad.isNone, ?_, fun hb => ?_⟩
              · unfold execOp
                rw [ho]
                simp [hx', hy', eqGuard, binOp, key]
              · by_cases h0 : n = 0
                · exact h0
                · rw [ha (by omega)] at hb; simp at hb
            · refine ⟨!ad.isNone, ?_, fun hb => ?_⟩
              · unfold execOp
                rw [ho]
                simp [hx', hy', eqGuard, binOp, key]
              · by_cases h0 : n = 0
                · exact h0
                · rw [ha (by omega)] at hb; simp at hb

theorem evOps_sound {C : Cfg} {O : Orc α} (hO : Honest P C O) {ops : Array Oper} {N m : Nat} {K : KT α} {r : α} : ∀ (l : List Oper) (t : Tm) (h : Hp), evOps C P O ops l t h K = some r → (∀ o ∈ l, ∀ j, o.dst = some j → j < N) →
    ∀ (S : Nat → Prop) (w0 : World) (M0 Mi M : Mem) (φi φ : Phi) (w : World) (a : Act), Mi.le M → φi.eqTo m φ → Rel P S w0 M0 M φ h w → TRel M φ N t a → m ≤ h.length → wpList P ops (Post P S w0 M0 Mi φi N m K r) l a w
  | [], t, h, hk, hd, S, w0, M0, Mi, M, φi, φ, w, a, hMi, hφi, hR, hT, hm => ⟨.normal, t, h, M, φ, hk, trivial, hMi, hφi, hR, hT, hm⟩
  | o :: l, t, h, hk, hd, S, w0, M0, Mi, M, φi, φ, w, a, hMi, hφi, hR, hT, hm => by
    rw [evOps_cons] at hk
    replace hk := settleG_out hk
    simp only [putK_eq] at hk
    unfold wpList
    have hdo : ∀ j, o.dst = some j → j < N := hd o List.mem_cons_self
    have hdl : ∀ o ∈ l, ∀ j, o.dst = some j → j < N := fun o' ho' => hd o' (List.mem_cons_of_mem _ ho')
    rcases guardOf_sound hT hk with ⟨hw, hk⟩ | ⟨hw, hk⟩
    · rw [if_pos hw]
      refine .inl ?_
      split at hk
      · rename_i n q hnil
        obtain ⟨b, hrun, hb⟩ := nilT_run (w := w) hnil hT
        obtain ⟨k1, k2⟩ := nilK_inv hk
        have hkb : evOps C P O ops l (upd? t o.dst (.c (.p (.v (.bool b))))) h K = some r := by
          by_cases e : b = q
          · rw [e]; exact k2 (hb e)
          · have : b = !q := by cases b <;> cases q <;> simp_all
            rw [this]; exact k1
        unfold Oper.wp
        rw [hrun, Oper.upon_value]
        exact evOps_sound hO l _ h hkb hdl S w0 M0 Mi M φi φ w _ hMi hφi hR (hT.put? hdo (.c (.p (.v rfl)))) hm
      rcases evOp_op hO hk with ⟨x, d, h1, h2⟩ | ⟨y, d, h1, h2⟩
      · rw [frcA_eq, frcH_eq] at h1
        refine h2 S w0 M0 M φ w N a hR hT _ _ fun v' w' hL => ?_
        obtain ⟨M', φ', g1, g2, g3, g4⟩ := hL
        exact evOps_sound hO l _ _ h1 hdl S w0 M0 Mi M' φi φ' w' _ (hMi.trans g1) (hφi.trans (g2.eqTo hm)) g3 ((hT.mono g1 g2.1).put? hdo g4) (Nat.le_trans hm (applyD_length d h))
      · rw [frcH_eq] at h1
        refine h2 S w0 M0 M φ w N a hR hT _ _ fun v' w' M' φ' g1 g2 g3 g4 => ?_
        exact ⟨.pan y, t, applyD h d, M', φ', h1, ⟨v', rfl, g4⟩, hMi.trans g1, hφi.trans (g2.eqTo hm), g3, hT.mono g1 g2.1, Nat.le_trans hm (applyD_length d h)⟩
    · rw [if_neg (by rw [hw]; simp)]
      exact evOps_sound hO l _ _ hk hdl S w0 M0 Mi M φi φ w _ hMi hφi hR (hT.put? hdo .undef) hm
end
end Go.Fx
