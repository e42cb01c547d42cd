/- The tree's meaning is the small interpreter: code, calls and loops. -/
import Derived.Test.YtokdkmlpfkeeaaaFxT1
set_option linter.unusedVariables false
set_option linter.unusedSimpArgs false
namespace Go.Fx

/-- More is found where more goes well. -/
def Mono {α : Type} (O : Orc α) (r : α) : Prop := ∀ q k k', (∀ a, k a = some r → k' a = some r) → O q k = some r → O q k' = some r

section
variable {α : Type} {O : Orc α} {r : α} {K : Ans → Option α} {P : Program} {h : Hp} {C : Cfg}

theorem run_bif {q : Bool} {x y : Tr} : Tr.run O K (bif q then x else y) = br q (Tr.run O K x) (Tr.run O K y) := by cases q <;> rfl

theorem frcV_t (x : Value) (k : Value → Tr) : T.frcV x k = k x := by cases x <;> rfl
theorem frcN_t (n : Nat) (k : Nat → Tr) : T.frcN n k = k n := by cases n <;> rfl
theorem frcC_t (x : CV) (k : CV → Tr) : T.frcC x k = k x := by
  cases x with
  | p y => cases y with
    | v x => simp only [T.frcC]; exact frcV_t x _
    | _ => rfl
  | _ => first | rfl | (simp only [T.frcC, frcN_t])
theorem frcCs_t : ∀ (x : List CV) (k : List CV → Tr), T.frcCs x k = k x
  | [], k => rfl
  | x :: l, k => by simp only [T.frcCs, frcC_t]; exact frcCs_t l _
mutual
theorem frcA_t : ∀ (x : AV) (k : AV → Tr), T.frcA x k = k x
  | .c x, k => by simp only [T.frcA, frcC_t]
  | .agg cs, k => by simp only [T.frcA, frcCs_t]
  | .tup vs, k => by simp only [T.frcA]; exact frcL_t vs _
  | .top, k => rfl
theorem frcL_t : ∀ (x : List AV) (k : List AV → Tr), T.frcA.frcL x k = k x
  | [], k => rfl
  | x :: l, k => by simp only [T.frcA.frcL]; rw [frcA_t]; exact frcL_t l _
end
theorem frcO_t (x : Ob) (k : Ob → Tr) : T.frcO x k = k x := by cases x <;> simp only [T.frcO, frcCs_t]
theorem frcH_t : ∀ (x : Hp) (k : Hp → Tr), T.frcH x k = k x
  | [], k => rfl
  | x :: l, k => by simp only [T.frcH, frcO_t]; exact frcH_t l _

theorem frcD_t (h : Hp) (d : Dl) (k : Hp → Tr) : T.frcD h d k = k (applyD h d) := by
  cases d with
  | nil => rfl
  | cons q r => exact frcH_t _ k
theorem settle_t {d : Nat} {t : Tm} {k : Tm → Tr} : Tr.run O K (T.settle d t k) = settle d t fun t => Tr.run O K (k t) := by
  unfold T.settle settle
  split
  · rename_i q hq
    simp only [hq]
    exact run_br
  · rename_i hne
    split
    · rename_i q hq; exact absurd hq (hne q)
    · rfl
theorem settleG_t {ops : Array Oper} {o : Oper} {t : Tm} {k : Tm → Tr} : Tr.run O K (T.settleG ops o t k) = settleG ops o t fun t => Tr.run O K (k t) := by
  unfold T.settleG settleG
  cases o.guard with
  | none => rfl
  | some g =>
    obtain ⟨j, w⟩ := g
    simp only
    cases ops[j]? with
    | none => rfl
    | some o' =>
      simp only
      cases o'.dst with
      | none => rfl
      | some d => exact settle_t
theorem settleO_t {c : Operand} {t : Tm} {k : Tm → Tr} : Tr.run O K (T.settleO c t k) = settleO c t fun t => Tr.run O K (k t) := by
  cases c with
  | tmp d => exact settle_t
  | _ => rfl
theorem putK_t {t : Tm} {d : Option Nat} {v : AV} {k : Tm → Tr} : Tr.run O K (T.putK t d v k) = putK t d v fun t => Tr.run O K (k t) := by
  cases d <;> rfl
theorem guardOf_t {ops : Array Oper} {t : Tm} {o : Oper} {x y : Tr} : Tr.run O K (T.guardOf ops t o x y) = guardOf ops t o (Tr.run O K x) (Tr.run O K y) := by
  unfold T.guardOf guardOf
  cases o.guard with
  | none => rfl
  | some g =>
    obtain ⟨j, w⟩ := g
    simp only
    cases ops[j]? with
    | none => rfl
    | some o' =>
      simp only
      cases o'.dst with
      | none => rfl
      | some d =>
        simp only
        split
        · rename_i q hq
          simp only [hq]
          cases w
          · exact run_bif
          · exact run_bif
        · rename_i vs hq
          simp only [hq]
        · rename_i h1 h2
          split
          · rename_i q hq; exact absurd hq (h1 q)
          · rename_i q hq; exact absurd hq (h2 q)
          · rfl

/-- What follows finds at least what the tree's does. -/
def Le (O : Orc α) (K : Ans → Option α) (r : α) (x : Tr) (y : Option α) : Prop := Tr.run O K x = some r → y = some r
theorem le_fail {y : Option α} : Le O K r .fail y := fun h => by cases h
theorem br_le {q : Bool} {x y : Option α} {x' y' : Option α} (h1 : x = some r → x' = some r) (h2 : y = some r → y' = some r) : br q x y = some r → br q x' y' = some r := by
  cases q
  · exact h2
  · exact h1
theorem guardOf_le {ops : Array Oper} {t : Tm} {o : Oper} {x y x' y' : Option α} (h1 : x = some r → x' = some r) (h2 : y = some r → y' = some r) : guardOf ops t o x y = some r → guardOf ops t o x' y' = some r := by
  unfold guardOf
  cases o.guard with
  | none => exact h1
  | some g =>
    obtain ⟨j, w⟩ := g
    simp only
    cases ops[j]? with
    | none => exact h2
    | some o' =>
      simp only
      cases o'.dst with
      | none => exact h2
      | some d =>
        simp only
        split
        · cases w
          · exact br_le h2 h1
          · exact br_le h1 h2
        · exact h2
        · exact fun h => h
theorem settle_le {d : Nat} {t : Tm} {k k' : Tm → Option α} (hk : ∀ t, k t = some r → k' t = some r) : settle d t k = some r → settle d t k' = some r := by
  unfold settle
  split
  · exact br_le (hk _) (hk _)
  · exact hk _
theorem settleG_le {ops : Array Oper} {o : Oper} {t : Tm} {k k' : Tm → Option α} (hk : ∀ t, k t = some r → k' t = some r) : settleG ops o t k = some r → settleG ops o t k' = some r := by
  unfold settleG
  cases o.guard with
  | none => exact hk _
  | some g =>
    obtain ⟨j, w⟩ := g
    simp only
    cases ops[j]? with
    | none => exact hk _
    | some o' =>
      simp only
      cases o'.dst with
      | none => exact hk _
      | some d => exact settle_le hk
theorem settleO_le {c : Operand} {t : Tm} {k k' : Tm → Option α} (hk : ∀ t, k t = some r → k' t = some r) : settleO c t k = some r → settleO c t k' = some r := by
  cases c with
  | tmp d => exact settle_le hk
  | _ => exact hk _
theorem putK_le {t : Tm} {d : Option Nat} {v : AV} {k k' : Tm → Option α} (hk : ∀ t, k t = some r → k' t = some r) : putK t d v k = some r → putK t d v k' = some r := by
  cases d
  · exact hk _
  · exact hk _

theorem afterCall_le {own : Bool} {args : List AV} {ns : List Nat} {k : T.KVt} {kp : PV → Dl → Tr} {k' : KV α} {kp' : PV → Dl → Option α} (hk : ∀ v d, Le O K r (k v d) (k' v d)) (hp : ∀ v d, Le O K r (kp v d) (kp' v d)) (a : Ans) :
    Tr.run O K (T.afterCall own args h ns k kp a) = some r → afterCall own args h ns k' kp' a = some r := by
  unfold T.afterCall afterCall
  split
  · rename_i h1 h2
    simp only [h1, h2]
    exact hk _ _
  · rename_i h1 h2
    simp only [h1, h2]
    exact hp _ _
  · intro h; cases h
theorem doCall_le (hO : Mono O r) {f : FuncId} {args : List AV} {k : T.KVt} {kp : PV → Dl → Tr} {k' : KV α} {kp' : PV → Dl → Option α} (hk : ∀ v d, Le O K r (k v d) (k' v d)) (hp : ∀ v d, Le O K r (kp v d) (kp' v d)) :
    Tr.run O K (T.doCall C f args h k kp) = some r → doCall C O f args h k' kp' = some r := by
  unfold T.doCall doCall
  cases C.ownA f with
  | true =>
    simp only
    split
    · rename_i hl; simp only [hl]; rw [frcL_t]; exact hO _ _ _ (afterCall_le hk hp)
    · intro h; cases h
  | false =>
    simp only
    split
    · rename_i hl; simp only [hl]; rw [frcL_t]; exact hO _ _ _ (afterCall_le hk hp)
    · intro h; cases h
theorem evOp_le (hO : Mono O r) {o : Oper} {t : Tm} {k : T.KVt} {kp : PV → Dl → Tr} {k' : KV α} {kp' : PV → Dl → Option α} (hk : ∀ v d, Le O K r (k v d) (k' v d)) (hp : ∀ v d, Le O K r (kp v d) (kp' v d)) :
    Tr.run O K (T.evOp C P o t h k kp) = some r → evOp C P O o t h k' kp' = some r := by
  have hx : Tr.run O K (T.xop P h h.length o t k fun x => kp x []) = some r → xop P h h.length o t k' (fun x => kp' x []) = some r := by
    intro hh
    rcases xop_natT hh with ⟨v, d, h1, h2⟩ | ⟨y, h1, h2⟩
    · rw [h2]; exact hk _ _ h1
    · rw [h2]; exact hp _ _ h1
  unfold T.evOp evOp
  split
  · rename_i c hc
    simp only [hc]
    split
    · rename_i hb; simp only [hb]; exact hx
    · rename_i hb
      split
      · rename_i hcal
        split
        · rename_i hb2; exact absurd hb2 (hb _)
        · simp only [hcal]; exact doCall_le hO hk hp
      · intro h; cases h
  · rename_i hne
    split
    · rename_i c hc; exact absurd hc (hne c)
    · exact hx

theorem nilK_t {n : Nat} {q : Bool} {k : Bool → Tr} : Tr.run O K (T.nilK n q k) = nilK n q fun b => Tr.run O K (k b) := by
  unfold T.nilK nilK
  rw [run_br, run_both]
theorem nilK_le {n : Nat} {q : Bool} {k k' : Bool → Option α} (hk : ∀ b, k b = some r → k' b = some r) : nilK n q k = some r → nilK n q k' = some r := by
  unfold nilK
  refine br_le (fun h => ?_) (hk _)
  unfold both at h ⊢
  split at h
  · rename_i e
    have h1 := hk _ h
    have h2 := hk _ (e ▸ h)
    rw [if_pos (h1.trans h2.symm)]
    exact h1
  · cases h
theorem evOps_le (hO : Mono O r) {ops : Array Oper} : ∀ (l : List Oper) (t : Tm) (h : Hp) (k : T.KTt) (k' : KT α), (∀ e t h, Le O K r (k e t h) (k' e t h)) →
    Tr.run O K (T.evOps C P ops l t h k) = some r → evOps C P O ops l t h k' = some r
  | [], t, h, k, k', hk => by
    rw [T.evOps_nil, evOps_nil]; exact hk _ _ _
  | o :: l, t, h, k, k', hk => by
    rw [T.evOps_cons, evOps_cons, settleG_t]
    refine settleG_le fun t => ?_
    rw [guardOf_t]
    refine guardOf_le ?_ ?_
    · split
      · rename_i hn
        simp only [hn]
        rw [nilK_t]
        refine nilK_le fun b => ?_
        rw [putK_t]
        exact putK_le fun t => evOps_le hO l t _ k k' hk
      rename_i hn
      simp only [hn]
      refine evOp_le hO (fun v d => ?_) (fun x d => ?_)
      · unfold Le
        rw [frcA_t, frcD_t, frcA_eq, frcH_eq, putK_t]
        exact putK_le fun t => evOps_le hO l t _ k k' hk
      · unfold Le
        rw [frcD_t, frcH_eq]
        exact hk _ _ _
    · rw [putK_t]
      exact putK_le fun t => evOps_le hO l t _ k k' hk
theorem evDraw_le (hO : Mono O r) {ops : Array Oper} {bs : List Nat} : ∀ (l : List Oper) (rec : List (Nat × Nat)) (t : Tm) (h : Hp) (k : T.KTt) (k' : KT α), (∀ e t h, Le O K r (k e t h) (k' e t h)) →
    Tr.run O K (T.evDraw C P ops bs l rec t h k) = some r → evDraw C P O ops bs l rec t h k' = some r
  | [], rec, t, h, k, k', hk => by
    rw [T.evDraw_nil, evDraw_nil]; exact hk _ _ _
  | o :: l, rec, t, h, k, k', hk => by
    rw [T.evDraw_cons, evDraw_cons, settleG_t]
    refine settleG_le fun t => ?_
    rw [guardOf_t]
    refine guardOf_le ?_ ?_
    · split
      · rename_i hr
        simp only [hr]
        refine evOp_le hO (fun v d => ?_) (fun x d => le_fail)
        unfold Le
        rw [frcA_t, frcD_t, frcA_eq, frcH_eq]
        split
        · rename_i hd
          simp only [hd]
          rw [putK_t]
          exact putK_le fun t => evDraw_le hO l _ t _ k k' hk
        · exact le_fail
      · exact le_fail
    · rw [putK_t]
      exact putK_le fun t => evDraw_le hO l _ t _ k k' hk
theorem evC_le (hO : Mono O r) {f m : Nat} : ∀ (c : Code) (p : List Nat) (t : Tm) (h : Hp) (k : T.KTt) (k' : KT α), (∀ e t h, Le O K r (k e t h) (k' e t h)) →
    Tr.run O K (T.evC C P f m p c t h k) = some r → evC C P O f m p c t h k' = some r
  | .skip, p, t, h, k, k', hk => by
    rw [T.evC_skip, evC_skip]; exact hk _ _ _
  | .region id ops draw, p, t, h, k, k', hk => by
    rw [T.evC_region, evC_region]
    cases draw with
    | false => exact evOps_le hO _ _ _ _ _ hk
    | true =>
      simp only
      cases drawOk ops with
      | false => exact le_fail
      | true =>
        simp only
        cases C.pre f p with
        | nil => exact evDraw_le hO _ _ _ _ _ _ hk
        | cons a l => simp only; rw [frcH_t, frcH_eq]; exact evDraw_le hO _ _ _ _ _ _ hk
  | .seq a b, p, t, h, k, k', hk => by
    rw [T.evC_seq, evC_seq]
    refine evC_le hO a _ _ _ _ _ fun e t h => ?_
    cases e with
    | normal => exact evC_le hO b _ _ _ _ _ hk
    | _ => exact hk _ _ _
  | .cond c a b, p, t, h, k, k', hk => by
    rw [T.evC_cond, evC_cond, settleO_t]
    refine settleO_le fun t => ?_
    split
    · rename_i hq
      simp only [hq]
      rw [run_bif]
      exact br_le (evC_le hO a _ _ _ _ _ hk) (evC_le hO b _ _ _ _ _ hk)
    · exact le_fail
  | .block id a, p, t, h, k, k', hk => by
    rw [T.evC_block, evC_block]
    refine evC_le hO a _ _ _ _ _ fun e t h => ?_
    cases e with
    | exit i =>
      simp only [Le]
      split
      · exact hk _ _ _
      · exact hk _ _ _
    | _ => exact hk _ _ _
  | .loop a, p, t, h, k, k', hk => by
    rw [T.evC_loop, evC_loop]
    split
    · rename_i hl
      simp only [hl]
      exact hO _ _ _ fun a => hk _ _ _
    · exact le_fail
  | .exit id, p, t, h, k, k', hk => by
    rw [T.evC_exit, evC_exit]; exact hk _ _ _
  | .ret, p, t, h, k, k', hk => by
    rw [T.evC_ret, evC_ret]; exact hk _ _ _
  | .rangeFunc g ps a b, p, t, h, k, k', hk => by
    rw [T.evC_rangeFunc, evC_rangeFunc]
    split
    · rename_i hl
      simp only [hl]
      exact hO _ _ _ fun a => hk _ _ _
    · exact le_fail
  | .scope .., p, t, h, k, k', hk => le_fail
  | .label .., p, t, h, k, k', hk => le_fail
  | .goto .., p, t, h, k, k', hk => le_fail
  | .refuse .., p, t, h, k, k', hk => le_fail
theorem resL_le {t : Tm} : ∀ (l : List ResultVar) (k : List AV → Tr) (k' : List AV → Option α), (∀ vs, Le O K r (k vs) (k' vs)) → Tr.run O K (T.resL P t h l k) = some r → resL P t h l k' = some r
  | [], k, k', hk => hk _
  | x :: l, k, k', hk => by
    unfold T.resL resL
    cases x with
    | tmp j => exact resL_le l _ _ fun vs => hk _
    | cell j ty =>
      intro hh
      obtain ⟨v, h1, h2⟩ := loadAV_natT (show Tr.run O K (T.loadAV P h ty (t j) fun v => T.resL P t h l fun vs => k (v :: vs)) = some r from hh)
      exact (h2 α (fun v => resL P t h l fun vs => k' (v :: vs))).trans <| resL_le l _ _ (fun vs => hk _) h1
theorem locM {β : Type} {m : Nat} {vs : List AV} {k : List AV → Hp → Tr} {k' : List AV → Hp → Option α} (hk : ∀ vs h, Le O K r (k vs h) (k' vs h)) :
    Le O K r (match localize m vs h with | some (vs, h2, _) => k vs h2 | none => .fail) (match localize m vs h with | some (vs, h2, _) => k' vs h2 | none => none) := by
  cases localize m vs h with
  | none => exact le_fail
  | some x => obtain ⟨a, b, c⟩ := x; exact hk _ _
theorem endCall_le {f m : Nat} {fn : Func} {k : Ans → Tr} {k' : Ans → Option α} (hk : ∀ a, Le O K r (k a) (k' a)) (e : Ex) (t : Tm) (h : Hp) : Le O K r (T.endCall C P f m fn k e t h) (endCall C P f m fn k' e t h) := by
  have key : Le O K r (T.resL P t h fn.results.toList fun vs => match C.ownR f with
    | true => match localize m [oneOr vs] h with
      | some (vs, h2, _) => k ⟨.ret, vs, h2⟩
      | none => .fail
    | false => match localize m [frzA h (oneOr vs)] (applyD h (frzD h (oneOr vs))) with
      | some (vs, h2, _) => k ⟨.ret, vs, h2⟩
      | none => .fail) (resL P t h fn.results.toList fun vs => match C.ownR f with
    | true => match localize m [oneOr vs] h with
      | some (vs, h2, _) => k' ⟨.ret, vs, h2⟩
      | none => none
    | false => match localize m [frzA h (oneOr vs)] (applyD h (frzD h (oneOr vs))) with
      | some (vs, h2, _) => k' ⟨.ret, vs, h2⟩
      | none => none) := by
    refine resL_le _ _ _ fun vs => ?_
    cases C.ownR f with
    | true =>
      simp only
      cases localize m [oneOr vs] h with
      | none => exact le_fail
      | some x => obtain ⟨a, b, c⟩ := x; exact hk _
    | false =>
      simp only
      cases localize m [frzA h (oneOr vs)] (applyD h (frzD h (oneOr vs))) with
      | none => exact le_fail
      | some x => obtain ⟨a, b, c⟩ := x; exact hk _
  cases e with
  | pan x =>
    simp only [T.endCall, endCall]
    cases localize m [] h with
    | none => exact le_fail
    | some x => obtain ⟨a, b, c⟩ := x; exact hk _
  | exit i => exact le_fail
  | normal => exact key
  | ret => exact key
theorem endRound_le (hO : Mono O r) {f m : Nat} {p : List Nat} {k : Ans → Tr} {k' : Ans → Option α} (hk : ∀ a, Le O K r (k a) (k' a)) (e : Ex) (t : Tm) (h : Hp) : Le O K r (T.endRound C f m p k e t h) (endRound C O f m p k' e t h) := by
  cases e with
  | normal =>
    simp only [T.endRound, endRound]
    cases localize m ((C.keep f p).map t) h with
    | none => exact le_fail
    | some x => obtain ⟨a, b, c⟩ := x; exact hO _ _ _ fun a => hk a
  | pan x =>
    simp only [T.endRound, endRound]
    cases localize m [] h with
    | none => exact le_fail
    | some x => obtain ⟨a, b, c⟩ := x; exact hk _
  | exit i =>
    simp only [T.endRound, endRound]
    cases localize m ((C.keep f p).map t) h with
    | none => exact le_fail
    | some x => obtain ⟨a, b, c⟩ := x; exact hk _
  | ret =>
    simp only [T.endRound, endRound]
    cases localize m ((C.keep f p).map t) h with
    | none => exact le_fail
    | some x => obtain ⟨a, b, c⟩ := x; exact hk _
theorem evQ_le (hO : Mono O r) {q : Qry} {k : Ans → Tr} {k' : Ans → Option α} (hk : ∀ a, Le O K r (k a) (k' a)) : Tr.run O K (T.evQ C P q k) = some r → evQ C P O q k' = some r := by
  cases q with
  | call f args h =>
    unfold T.evQ evQ
    simp only
    cases P.funcs[f]? with
    | none => exact le_fail
    | some fn =>
      simp only
      cases fn.body with
      | none => exact le_fail
      | some c => exact evC_le hO _ _ _ _ _ _ fun e t h => endCall_le hk e t h
  | loop f m p vals h =>
    unfold T.evQ evQ
    simp only
    cases P.funcs[f]? with
    | none => exact le_fail
    | some fn =>
      simp only
      cases fn.body with
      | none => exact le_fail
      | some c =>
        simp only
        split
        · rename_i hc
          simp only [hc]
          exact evC_le hO _ _ _ _ _ _ fun e t h => endRound_le hO hk e t h
        · exact le_fail
end
end Go.Fx
