/- The small interpreter's operations against the model's: places, parts, numbers, texts. -/
import Derived.Test.YtokdkmlpfkeeaaaFx7
import Derived.Test.YtokdkmlpfkeeaaaFxE
import Derived.Laws.BytesString
set_option linter.unusedVariables false
set_option linter.unusedSimpArgs false
namespace Go.Fx
open Go.RowKit Go.Lib

section
variable {P : Program} {S : Nat → Prop} {w0 w w' : World} {M0 M M' : Mem} {φ φ' : Phi} {h : Hp} {α : Type}

theorem indexAddrAV_sound {t : TypeId} {x i : AV} {k : KV α} {r : α} (hR : Rel P S w0 M0 M φ h w) (hk : indexAddrAV P h t x i k = some r) {x' i' : Value} (hx : RepA M φ x' x) (hi : RepA M φ i' i) :
    ∃ v d v' w', k v d = some r ∧ (Instr.indexAt t x' i').run P w = .ok v' w' ∧ Leaves P S w0 M0 M φ h d v' v w' := by
  unfold indexAddrAV at hk
  split at hk
  · rename_i n e l off q hu hq
    obtain ⟨ki, rfl⟩ := intOf_rep hq hi
    split at hk
    · rename_i sz hsz
      obtain ⟨hb, hk⟩ := chk_inv hk
      cases hx with
      | c hx => cases hx with
        | ptr hφ =>
          refine ⟨_, _, .pointer (some ⟨_, off + q.toNat * sz, none⟩), w, hk, ?_, Leaves.same hR (.c (.ptr hφ))⟩
          simp [Instr.indexAt, asIntOf, run_underlying hu, Instr.sureAddr, hb, szOf_run hsz, add_at]
    · cases hk
  · rename_i e n f q hu hq
    obtain ⟨ki, rfl⟩ := intOf_rep hq hi
    split at hk
    · rename_i sz hsz
      obtain ⟨hb, hk2⟩ := chk_inv hk
      clear hk
      split at hk2
      · rename_i hlen
        cases hx with
        | c hx => cases hx with
          | p hx => cases hx with
            | sl a cap b o sz' c hn ha hl hM hc =>
              have hlt : q.toNat < n := by omega
              have hs : sz' = sz := by rw [← hlen]; exact (hl _ hlt).symm
              subst hs
              have hA := ha (by omega)
              refine ⟨_, _, .pointer (some ⟨b, o + q.toNat * sz', none⟩), w, hk2, ?_, Leaves.same hR (.c (.ip (c q.toNat) (fun j hj => ?_) (fun j x hx => hc _ j x hlt hx)))⟩
              · rw [hA]
                simp [Instr.indexAt, asIntOf, run_underlying hu, hb, szOf_run hsz, add_at]
              · rw [Nat.add_assoc]; exact hM _ j hlt (by rw [hlen] at hj; exact hj)
      · cases hk2
    · cases hk
  · rename_i e l q hu hq
    obtain ⟨ki, rfl⟩ := intOf_rep hq hi
    split at hk
    · rename_i sz e' n f lv hsz hl
      split at hk
      · rename_i he
        subst he
        obtain ⟨hb, hk⟩ := chk_inv hk
        cases hx with
        | c hx => cases hx with
          | os hφ h1 =>
            cases hR.obj l _ hl with
            | row v sz' cells hφ' hsz' h0 ho hl' hr hlive hfr =>
              rw [hφ] at hφ'; injection hφ' with hφ'; injection hφ' with e1 e2; subst e1; subst e2
              rw [hsz] at hsz'; injection hsz' with hsz'; subst hsz'
              rcases ho.2 with ⟨rfl, rfl⟩ | ⟨g, cap, cur, rfl, _⟩
              · simp at hb; omega
              · refine ⟨_, _, .pointer (some ⟨g, q.toNat * sz + 0, none⟩), w, hk, ?_, Leaves.same hR (.c (.ep hφ))⟩
                simp [Instr.indexAt, asIntOf, run_underlying hu, hb, szOf_run hsz, add_at]
      · cases hk
    · rename_i sz xs hsz hl
      split at hk
      · rename_i y ys
        split at hk
        · rename_i hys
          obtain ⟨hb, hk⟩ := chk_inv hk
          cases hx with
          | c hx => cases hx with
            | os hφ h1 =>
              cases hR.obj l _ hl with
              | rrow b sz' vs e2 hφ' hh hlen hl' hr hlive =>
                rw [hφ] at hφ'; injection hφ' with hφ'; injection hφ' with e1 e3; subst e1; subst e3
                have hs := hl' 0 y rfl
                rw [hys] at hs
                subst hs
                refine ⟨_, _, .pointer (some ⟨b, q.toNat * sz + 0, none⟩), w, hk, ?_, Leaves.same hR (.c (.ep hφ))⟩
                simp only [List.length_cons] at hb
                have hb2 : ¬ ((ys.length : Int) + 1 ≤ q) := by omega
                simp [Instr.indexAt, asIntOf, run_underlying hu, hb, hb2, szOf_run hsz, add_at]
        · cases hk
      · cases hk
    · cases hk
  · rename_i e l off sz n q hu hq
    obtain ⟨ki, rfl⟩ := intOf_rep hq hi
    split at hk
    · rename_i sz' hsz
      obtain ⟨hb, hk⟩ := chk_inv hk
      split at hk
      · rename_i he
        subst he
        cases hx with
        | c hx => cases hx with
          | bs hφ hn =>
            refine ⟨_, _, .pointer (some ⟨_, off + q.toNat * sz', none⟩), w, hk, ?_, Leaves.same hR (.c (.ptr hφ))⟩
            simp [Instr.indexAt, asIntOf, run_underlying hu, hb, szOf_run hsz, add_at]
      · cases hk
    · cases hk
  · cases hk

/-- A part of a value. -/
theorem mkV_part {t : TypeId} {cs : List CV} {k : AV → Option α} {r : α} {off n : Nat} (hk : mkV P t (seg cs off n) k = some r) (hn : szOf P t = some n) {vs : List Value} (hr : RepCs M φ vs cs) (hfit : off + n ≤ cs.length) :
    ∃ v u, k v = some r ∧ (part t vs.toArray off).run P w = .ok u w ∧ RepA M φ u v := by
  unfold mkV at hk
  have hfit' : off + n ≤ vs.length := by rw [hr.1]; exact hfit
  split at hk
  · rename_i n' ha hn'
    rw [hn] at hn'; injection hn' with hn'; subst hn'
    split at hk
    · rename_i hl
      refine ⟨_, .agg (seg vs off n).toArray, hk, ?_, .agg (seg_rep hr off n)⟩
      have e1 : vs.toArray.extract off (off + n) = (seg vs off n).toArray := by
        unfold seg
        simp [List.extract_eq_take_drop]
      simp [part, aggTy_run ha, szOf_run hn, e1]
      rfl
    · cases hk
  · rename_i ha hn'
    rw [hn] at hn'; injection hn' with hn'; subst hn'
    split at hk
    · rename_i x hx
      have hx0 : (seg cs off 1)[0]? = some x := by rw [hx]; rfl
      have hcx := seg_get cs off 1 0 x hx0
      rw [Nat.add_zero] at hcx
      have hlt : off < vs.length := by omega
      refine ⟨_, vs[off], hk, ?_, .c (hr.2 off _ x (List.getElem?_eq_getElem hlt) hcx)⟩
      simp [part, aggTy_run ha, hlt]
    · cases hk
  · cases hk

theorem ba_get (s : ByteArray) (i : Nat) (hi : i < s.size) : s[i]? = some (s.data.getD i 0) := by
  have h' : i < s.data.size := hi
  have e : s[i]? = some s[i] := by simp [hi]
  rw [e, Array.getD_eq_getD_getElem?, Array.getElem?_eq_getElem h']
  rfl

theorem indexAV_sound {t : TypeId} {x i : AV} {k : KV α} {r : α} (hR : Rel P S w0 M0 M φ h w) (hk : indexAV P t x i k = some r) {x' i' : Value} (hx : RepA M φ x' x) (hi : RepA M φ i' i) :
    ∃ v d v' w', k v d = some r ∧ (Instr.index t x' i').run P w = .ok v' w' ∧ Leaves P S w0 M0 M φ h d v' v w' := by
  unfold indexAV at hk
  split at hk
  · rename_i n e cs q hu hq
    obtain ⟨ki, rfl⟩ := intOf_rep hq hi
    split at hk
    · rename_i kd l hbig
      split at hk
      · rename_i hsz
        obtain ⟨⟨h0, h1, h2⟩, hk⟩ := chk_inv hk
        obtain ⟨hlen, hmk⟩ := bigInts_mkV hbig hsz h2 (k := fun v => k v [])
        have hk' : mkV P e (seg cs (q.toNat * 1) 1) (fun v => k v []) = some r := by rw [hmk]; exact hk
        cases hx with
        | agg hx =>
          obtain ⟨v, u, hv, hrun, hrep⟩ := mkV_part (w := w) hk' hsz hx (by omega)
          refine ⟨v, [], u, w, hv, ?_, Leaves.same hR hrep⟩
          simp [Instr.index, asIntOf, run_underlying hu, h0, h1, szOf_run hsz] at hrun ⊢
          simp [hrun]
      · cases hk
    split at hk
    · rename_i sz hsz
      obtain ⟨⟨h0, h1, h2⟩, hk⟩ := chk_inv hk
      cases hx with
      | agg hx =>
        obtain ⟨v, u, hv, hrun, hrep⟩ := mkV_part (w := w) hk hsz hx h2
        refine ⟨v, [], u, w, hv, ?_, Leaves.same hR hrep⟩
        simp [Instr.index, asIntOf, run_underlying hu, h0, h1, szOf_run hsz, hrun]
    · cases hk
  · rename_i s q hu hq
    obtain ⟨ki, rfl⟩ := intOf_rep hq hi
    obtain ⟨⟨h0, h1⟩, hk⟩ := chk_inv hk
    cases hx with
    | c hx => cases hx with
      | p hx => cases hx with
        | v _ =>
          refine ⟨_, _, .int .u8 (byteAt s q.toNat), w, hk, ?_, Leaves.same hR (.c (.p (.v rfl)))⟩
          have hlt : q.toNat < s.size := by omega
          simp [Instr.index, asIntOf, run_underlying hu, h0, ba_get s _ hlt, byteAt]
  · cases hk

theorem fieldOff_inv {s : TypeId} {f o : Nat} {ty : TypeId} (hf : fieldOff P s f = some (o, ty)) : ∃ fields d n, P.underlying s = some (.struct fields) ∧ fields[f]? = some d ∧ d.offset = o ∧ d.type = ty ∧ szOf P ty = some n ∧ n ≠ 0 := by
  unfold fieldOff at hf
  split at hf
  · rename_i fields hu
    split at hf
    · rename_i d hd
      split at hf
      · cases hf
      · rename_i n hne hn
        injection hf with hf
        injection hf with h1 h2
        subst h1; subst h2
        exact ⟨fields, d, n, hu, hd, rfl, rfl, hn, fun e => hne (by rw [e])⟩
      · cases hf
    · cases hf
  · cases hf

theorem fieldAddrAV_sound {s : TypeId} {x : AV} {f : Nat} {k : KV α} {r : α} (hR : Rel P S w0 M0 M φ h w) (hk : fieldAddrAV P s x f k = some r) {x' : Value} (hx : RepA M φ x' x) :
    ∃ v d v' w', k v d = some r ∧ (Instr.fieldAt s x' f).run P w = .ok v' w' ∧ Leaves P S w0 M0 M φ h d v' v w' := by
  have key : ∀ (o : Nat) (ty : TypeId), fieldOff P s f = some (o, ty) → ∀ b q : Nat, (Instr.fieldAt s (.pointer (some ⟨b, q, none⟩)) f).run P w = .ok (.pointer (some ⟨b, q + o, none⟩)) w := by
    intro o ty hf b q
    obtain ⟨fields, d, n, hu, hd, h1, h2, hn, hn0⟩ := fieldOff_inv hf
    subst h1; subst h2
    simp [Instr.fieldAt, run_underlying hu, hd, Instr.sureAddr, fieldPlace, szOf_run hn, hn0, add_at]
  unfold fieldAddrAV at hk
  split at hk
  · rename_i o ty l off hf
    cases hx with
    | c hx => cases hx with
      | ptr hφ => exact ⟨_, _, _, w, hk, key o ty hf _ _, Leaves.same hR (.c (.ptr hφ))⟩
  · rename_i o ty l i off hf
    cases hx with
    | c hx => cases hx with
      | ep hφ =>
        refine ⟨_, _, _, w, hk, key o ty hf _ _, Leaves.same hR (.c ?_)⟩
        rw [Nat.add_assoc]
        exact .ep hφ
  · rename_i o ty cs hf
    cases hx with
    | c hx => cases hx with
      | ip c hM hc =>
        refine ⟨_, _, _, w, hk, key o ty hf _ _, Leaves.same hR (.c (.ip (fun j => c (o + j)) (fun j hj => ?_) (fun j x hx => ?_)))⟩
        · rw [Nat.add_assoc]; exact hM _ (by simp at hj; omega)
        · rw [List.getElem?_drop] at hx; exact hc _ x hx
  · cases hk

theorem fieldAV_sound {s : TypeId} {x : AV} {f : Nat} {k : KV α} {r : α} (hR : Rel P S w0 M0 M φ h w) (hk : fieldAV P s x f k = some r) {x' : Value} (hx : RepA M φ x' x) :
    ∃ v d v' w', k v d = some r ∧ (Instr.field s x' f).run P w = .ok v' w' ∧ Leaves P S w0 M0 M φ h d v' v w' := by
  unfold fieldAV at hk
  split at hk
  · rename_i o ty cs hf
    obtain ⟨fields, d, n', hu, hd, h1, h2, hn', hn0⟩ := fieldOff_inv hf
    subst h1; subst h2
    split at hk
    · rename_i n hn
      split at hk
      · rename_i hfit
        cases hx with
        | agg hx =>
          obtain ⟨v, u, hv, hrun, hrep⟩ := mkV_part (w := w) hk hn hx hfit
          refine ⟨v, [], u, w, hv, ?_, Leaves.same hR hrep⟩
          simp [Instr.field, run_underlying hu, hd, asAgg, hrun]
      · cases hk
    · cases hk
  · cases hk

theorem sca_sound {res : Option Value} {k : KV α} {r : α} (hR : Rel P S w0 M0 M φ h w) (hk : sca res k = some r) {s : Sem Value} (hs : ∀ u, res = some u → s.run P w = .ok u w) :
    ∃ v d v' w', k v d = some r ∧ s.run P w = .ok v' w' ∧ Leaves P S w0 M0 M φ h d v' v w' := by
  unfold sca at hk
  split at hk
  · rename_i u
    split at hk
    · rename_i hsc
      exact ⟨_, _, u, w, hk, hs u rfl, Leaves.same hR (.c (.p (.v hsc)))⟩
    · cases hk
  · cases hk
theorem pure1_sound {f : Value → Sem Value} {x : AV} {k : KV α} {r : α} (hR : Rel P S w0 M0 M φ h w) (hk : pure1 P f x k = some r) {x' : Value} (hx : RepA M φ x' x) :
    ∃ v d v' w', k v d = some r ∧ (f x').run P w = .ok v' w' ∧ Leaves P S w0 M0 M φ h d v' v w' := by
  unfold pure1 at hk
  split at hk
  · rename_i a ha
    have := conc_rep hx ha
    subst this
    exact sca_sound hR hk (fun u hu => pureOf_run _ hu w)
  · cases hk
theorem pure2_sound {f : Value → Value → Sem Value} {x y : AV} {k : KV α} {r : α} (hR : Rel P S w0 M0 M φ h w) (hk : pure2 P f x y k = some r) {x' y' : Value} (hx : RepA M φ x' x) (hy : RepA M φ y' y) :
    ∃ v d v' w', k v d = some r ∧ (f x' y').run P w = .ok v' w' ∧ Leaves P S w0 M0 M φ h d v' v w' := by
  unfold pure2 at hk
  split at hk
  · rename_i a b ha hb
    have h1 := conc_rep hx ha
    have h2 := conc_rep hy hb
    subst h1; subst h2
    exact sca_sound hR hk (fun u hu => pureOf_run _ hu w)
  · cases hk

theorem int_rep {k : IntKind} {n : Int} {x' : Value} (hx : RepA M φ x' (.c (.p (.v (.int k n))))) : x' = .int k n := by
  cases hx with
  | c hx => cases hx with
    | p hx => cases hx with
      | v _ => rfl
theorem sval_rep {v : Value} {x' : Value} (hx : RepA M φ x' (.c (.p (.v v)))) : x' = v := by
  cases hx with
  | c hx => cases hx with
    | p hx => cases hx with
      | v _ => rfl

theorem intOp_sound {op : BinOp} {t : IntKind} {a b : Int} {k : KV α} {r : α} (hR : Rel P S w0 M0 M φ h w) (hk : intOp op t a b k = some r) (ty : TypeId) (xo yo : Operand) :
    ∃ v d v' w', k v d = some r ∧ (do eqGuard op ty xo yo (.int t a) (.int t b); binOp op ty (.int t a) (.int t b) : Sem Value).run P w = .ok v' w' ∧ Leaves P S w0 M0 M φ h d v' v w' := by
  cases op <;> simp only [intOp] at hk <;> first
    | (cases hk; done)
    | (refine ⟨_, _, _, w, hk, ?_, Leaves.same hR (.c (.p (.v rfl)))⟩; simp [eqGuard, binOp, Op.intArith, Op.intCmp, Op.intBits]; done)
    | (obtain ⟨hb, hk⟩ := chk_inv hk; refine ⟨_, _, _, w, hk, ?_, Leaves.same hR (.c (.p (.v rfl)))⟩; simp [eqGuard, binOp, Op.intDiv, hb])

theorem eqAgg_inv {ty : TypeId} {xs ys : List CV} {q : Bool} (h : eqAgg P ty xs ys = some q) : ∃ l m, scals xs = some l ∧ scals ys = some m ∧ eqPlain P 12 ty = true ∧ eqV P 12 ty (.agg l.toArray) (.agg m.toArray) = some q := by
  unfold eqAgg at h
  split at h
  · rename_i l m hl hm
    split at h
    · rename_i hp; exact ⟨l, m, hl, hm, hp, h⟩
    · cases h
  · cases h
theorem eqPlain_guard {ty : TypeId} {xs ys : Array Value} {q : Bool} (hok : okEq P = true) (hp : eqPlain P 12 ty = true) (hv : eqV P 12 ty (.agg xs) (.agg ys) = some q) : P.eqGuardType P.depth ty = false := by
  have hlt : ty < P.types.size := by
    refine eqPlain_lt 12 hp ?_
    unfold eqV at hv
    split at hv
    · rename_i h1 _; cases h1
    · rename_i h1 _; cases h1
    · rename_i h1 _; cases h1
    · rename_i hu _ _; exact ⟨_, hu, rfl⟩
    · rename_i hu _ _; exact ⟨_, hu, rfl⟩
    · cases hv
  have := List.all_eq_true.1 hok ty (List.mem_range.2 hlt)
  rw [hp] at this
  simp only [Bool.not_true, Bool.false_or, Bool.and_eq_true, Bool.not_eq_true'] at this
  exact this.2

theorem binAV_sound {op : BinOp} {ty : TypeId} {xo yo : Operand} {x y : AV} {k : KV α} {r : α} (hR : Rel P S w0 M0 M φ h w) (hk : binAV P op ty xo yo x y k = some r) {x' y' : Value} (hx : RepA M φ x' x) (hy : RepA M φ y' y) :
    ∃ v d v' w', k v d = some r ∧ (do eqGuard op ty xo yo x' y'; binOp op ty x' y' : Sem Value).run P w = .ok v' w' ∧ Leaves P S w0 M0 M φ h d v' v w' := by
  unfold binAV at hk
  split at hk
  · obtain ⟨hb, hk⟩ := chk_inv hk
    rw [sval_rep hx, sval_rep hy]
    refine ⟨_, _, _, w, hk, ?_, Leaves.same hR (.c (.p (.v rfl)))⟩
    have hb' : ¬ (_ : Int) < 0 := Int.not_lt.2 hb
    simp [eqGuard, binOp, Op.shift, hb']
  · obtain ⟨hb, hk⟩ := chk_inv hk
    rw [sval_rep hx, sval_rep hy]
    refine ⟨_, _, _, w, hk, ?_, Leaves.same hR (.c (.p (.v rfl)))⟩
    have hb' : ¬ (_ : Int) < 0 := Int.not_lt.2 hb
    simp [eqGuard, binOp, Op.shift, hb']
  · rename_i t a u b h1 h2
    split at hk
    · rename_i htu
      subst htu
      rw [sval_rep hx, sval_rep hy]
      exact intOp_sound hR hk ty xo yo
    · cases hk
  · rename_i xs ys
    split at hk
    · rename_i q hq
      obtain ⟨l, m, hl, hm, hp, hv⟩ := eqAgg_inv hq
      have h1 := conc_rep hx (u := .agg l.toArray) (by simp [conc, hl])
      have h2 := conc_rep hy (u := .agg m.toArray) (by simp [conc, hm])
      subst h1; subst h2
      refine ⟨_, _, .bool q, w, hk, ?_, Leaves.same hR (.c (.p (.v rfl)))⟩
      have hg : P.eqGuardType P.depth ty = false := eqPlain_guard hR.eqs hp hv
      have hrun : (Op.equal ty (.agg l.toArray) (.agg m.toArray)).run P w = .ok q w := eqV_run hR.eqs 12 ty _ _ q (Nat.le_refl _) hp hv 10000 w (by omega)
      simp only [Sem.run_bind, run_eqGuard_agg w .eql ty xo yo _ _ hg, Result.andThen_ok, binOp, hrun, Sem.run_pure]
    · cases hk
  · rename_i xs ys
    split at hk
    · rename_i q hq
      obtain ⟨l, m, hl, hm, hp, hv⟩ := eqAgg_inv hq
      have h1 := conc_rep hx (u := .agg l.toArray) (by simp [conc, hl])
      have h2 := conc_rep hy (u := .agg m.toArray) (by simp [conc, hm])
      subst h1; subst h2
      refine ⟨_, _, .bool (!q), w, hk, ?_, Leaves.same hR (.c (.p (.v rfl)))⟩
      have hg : P.eqGuardType P.depth ty = false := eqPlain_guard hR.eqs hp hv
      have hrun : (Op.equal ty (.agg l.toArray) (.agg m.toArray)).run P w = .ok q w := eqV_run hR.eqs 12 ty _ _ q (Nat.le_refl _) hp hv 10000 w (by omega)
      simp only [Sem.run_bind, run_eqGuard_agg w .neq ty xo yo _ _ hg, Result.andThen_ok, binOp, hrun, Sem.run_pure]
    · cases hk
  · exact pure2_sound hR hk hx hy
end
end Go.Fx
