/- Code, calls and loops, against the model. -/
import Derived.Test.YtokdkmlpfkeeaaaFx19c
set_option linter.unusedVariables false
set_option linter.unusedSimpArgs false
namespace Go.Fx
open Go.RowKit

def codeOk (n : Nat) : Code → Bool
  | .region _ ops _ => ops.toList.all fun o => match o.dst with | some d => Nat.blt d n | none => true
  | .seq a b => codeOk n a && codeOk n b
  | .cond _ a b => codeOk n a && codeOk n b
  | .block _ a => codeOk n a
  | .loop a => codeOk n a
  | _ => true
def codesOk (P : Program) : Bool := P.funcs.toList.all fun fn => match fn.body with | some c => codeOk fn.ntmps c | none => true
/-- What is asked of the program. -/
def progOk (P : Program) : Bool := P.follows .mixedOrders && namesOk P && codesOk P && okEq P

theorem codeAt_append : ∀ (p q : List Nat) (c : Code), codeAt (p ++ q) c = (codeAt p c).bind (codeAt q)
  | [], q, c => rfl
  | i :: p, q, c => by
    cases c with
    | seq a b => cases i <;> simp only [List.cons_append, codeAt] <;> exact codeAt_append p q _
    | cond x a b => cases i <;> simp only [List.cons_append, codeAt] <;> exact codeAt_append p q _
    | block id a => simp only [List.cons_append, codeAt]; exact codeAt_append p q _
    | loop a => simp only [List.cons_append, codeAt]; exact codeAt_append p q _
    | _ => simp [codeAt]

section
variable {P : Program} {S : Nat → Prop} {w0 w w' : World} {M0 M M' : Mem} {φ φ' : Phi} {h : Hp} {α : Type}

theorem dst_ok {n : Nat} {ops : Array Oper} (h : (ops.toList.all fun o => match o.dst with | some d => Nat.blt d n | none => true) = true) : ∀ o ∈ ops.toList, ∀ j, o.dst = some j → j < n := by
  intro o ho j hj
  have := List.all_eq_true.1 h o ho
  rw [hj] at this
  simpa [Nat.blt_eq] using this

theorem keep_rep {N : Nat} {a : Act} {t : Tm} (hT : TRel M φ N t a) (ks : List Nat) : RepL M φ (ks.map fun j => a.tmps.getD j undef) (ks.map t) := RepL.map _ _ _ (fun j => hT.val j)

/-- Only what is kept. -/
theorem keep_trel {N : Nat} {a : Act} : ∀ (ks : List Nat) (vs : List AV), N ≤ a.tmps.size → a.defers = [] → RepL M φ (ks.map fun j => a.tmps.getD j undef) vs → TRel M φ N (fromKeep ks vs) a
  | [], vs, h1, h2, _ => ⟨h1, fun j => .top, h2⟩
  | k :: ks, [], h1, h2, hr => ⟨h1, fun j => .top, h2⟩
  | k :: ks, v :: vs, h1, h2, hr => by
    obtain ⟨u, us, e, hu, hus⟩ := hr.uncons
    simp only [List.map_cons, List.cons.injEq] at e
    obtain ⟨e1, e2⟩ := e
    have ih := keep_trel ks vs h1 h2 (by rw [e2]; exact hus)
    refine ⟨h1, fun j => ?_, h2⟩
    show RepA M φ _ (if j = k then v else fromKeep ks vs j)
    by_cases hj : j = k
    · rw [if_pos hj, hj, e1]; exact hu
    · rw [if_neg hj]; exact ih.val j

theorem first_le {m : Nat} {vs us : List AV} {hl : Hp} {ns : List Nat} (L : Local m vs h us hl ns) : m ≤ hl.length := by
  obtain ⟨t, ht⟩ := L.first
  rw [L.len, ht, List.length_append, List.length_range]; omega
theorem first_upto {m : Nat} {vs us : List AV} {hl : Hp} {ns : List Nat} (L : Local m vs h us hl ns) : φ.eqTo m (phiOf φ ns) := by
  obtain ⟨t, ht⟩ := L.first
  intro l hl
  have : ns[l]? = some l := by rw [ht, List.getElem?_append_left (by rw [List.length_range]; exact hl)]; simp [hl]
  simp only [phiOf, this, Option.bind_some]

theorem region_top {id : Nat} {ops : Array Oper} {Q : Exit → Act → World → Prop} {a : Act} (h : wpList P ops Q ops.toList a w) : (Code.region id ops false).wp P Q a w := wp_region_list h

theorem evC_sound {C : Cfg} {O : Orc α} (hO : Honest P C O) (hmix : P.follows .mixedOrders = true) {f m : Nat} {fn : Func} {c0 : Code} (hf : P.funcs[f]? = some fn) (hb : fn.body = some c0) {r : α} : ∀ (c : Code) (p : List Nat) (t : Tm) (h : Hp) (K : KT α), evC C P O f m p c t h K = some r →
    codeAt p c0 = some c → codeOk fn.ntmps c = true →
    ∀ (S : Nat → Prop) (w0 : World) (M0 Mi M : Mem) (φi φ : Phi) (w : World) (a : Act), Mi.le M → φi.eqTo m φ → Rel P S w0 M0 M φ h w → TRel M φ fn.ntmps t a → m ≤ h.length →
      c.wp P (Post P S w0 M0 Mi φi fn.ntmps m K r) a w := by
  intro c
  induction c with
  | skip =>
    intro p t h K hk hp hc S w0 M0 Mi M φi φ w a hMi hφi hR hT hm
    rw [evC_skip] at hk
    exact wp_skip ⟨.normal, t, h, M, φ, hk, trivial, hMi, hφi, hR, hT, hm⟩
  | region id ops draw =>
    intro p t h K hk hp hc S w0 M0 Mi M φi φ w a hMi hφi hR hT hm
    simp only [codeOk] at hc
    cases draw with
    | false =>
      rw [evC_region] at hk
      exact region_top (evOps_sound hO ops.toList t h hk (dst_ok hc) S w0 M0 Mi M φi φ w a hMi hφi hR hT hm)
    | true =>
      rw [evC_region] at hk
      simp only at hk
      split at hk
      · rename_i hok
        generalize C.pre f p = ts at hk
        cases ts with
        | nil => exact evDraw_sound hO hmix hok hk (dst_ok hc) hMi hφi hR hT hm
        | cons t0 ts0 =>
          simp only at hk
          generalize t0 :: ts0 = ts at hk
          rw [frcH_eq] at hk
          have hrep : RepL M φ (ts.map fun j => a.tmps.getD j undef) (ts.map t) := RepL.map _ _ _ (fun j => hT.val j)
          obtain ⟨N, g1, g2, g3, g4⟩ := frzL_sound hR hrep
          have hT' : TRel N φ fn.ntmps (frzT h ts t) a := by
            have : ∀ (ts : List Nat), RepL N φ (ts.map fun j => a.tmps.getD j undef) (frzL h (ts.map t)) → TRel N φ fn.ntmps (frzT h ts t) a := by
              intro ts
              induction ts with
              | nil => intro _; exact hT.mono g1 (.refl _)
              | cons j ts ih =>
                intro hr
                simp only [List.map_cons, frzL] at hr
                obtain ⟨u, us, e, hu, hus⟩ := hr.uncons
                simp only [List.cons.injEq] at e
                have ih' := ih (by rw [e.2]; exact hus)
                refine ⟨ih'.size, fun i => ?_, ih'.defers⟩
                simp only [frzT, upd_eq]
                by_cases hi : i = j
                · rw [if_pos hi, hi, e.1]; exact hu
                · rw [if_neg hi]; exact ih'.val i
            exact this ts g4
          exact evDraw_sound hO hmix hok hk (dst_ok hc) (hMi.trans g1) hφi g2 hT' (by rw [g3]; exact hm)
      · cases hk
  | seq x y ihx ihy =>
    intro p t h K hk hp hc S w0 M0 Mi M φi φ w a hMi hφi hR hT hm
    rw [evC_seq] at hk
    simp only [codeOk, Bool.and_eq_true] at hc
    have p0 : codeAt (p ++ [0]) c0 = some x := by rw [codeAt_append, hp]; rfl
    have p1 : codeAt (p ++ [1]) c0 = some y := by rw [codeAt_append, hp]; rfl
    refine wp_seq (wp_mono (ihx _ t h _ hk p0 hc.1 S w0 M0 Mi M φi φ w a hMi hφi hR hT hm) fun e a' w' hq => ?_)
    obtain ⟨e1, t1, h1, M', φ', g1, g2, g3, g4, g5, g6, g7⟩ := hq
    cases e1 with
    | normal =>
      cases e with
      | normal => exact ihy _ t1 h1 K g1 p1 hc.2 S w0 M0 Mi M' φi φ' w' a' g3 g4 g5 g6 g7
      | _ => exact g2.elim
    | exit i => cases e <;> first | exact g2.elim | exact ⟨.exit i, t1, h1, M', φ', g1, g2, g3, g4, g5, g6, g7⟩
    | ret => cases e <;> first | exact g2.elim | exact ⟨.ret, t1, h1, M', φ', g1, g2, g3, g4, g5, g6, g7⟩
    | pan v => cases e <;> first | exact g2.elim | exact ⟨.pan v, t1, h1, M', φ', g1, g2, g3, g4, g5, g6, g7⟩
  | cond c x y ihx ihy =>
    intro p t h K hk hp hc S w0 M0 Mi M φi φ w a hMi hφi hR hT hm
    rw [evC_cond] at hk
    simp only [codeOk, Bool.and_eq_true] at hc
    have p0 : codeAt (p ++ [0]) c0 = some x := by rw [codeAt_append, hp]; rfl
    have p1 : codeAt (p ++ [1]) c0 = some y := by rw [codeAt_append, hp]; rfl
    replace hk := settleO_out hk
    split at hk
    · rename_i q hq
      have hv := hT.ev c
      rw [hq] at hv
      have hb' := hv.bool
      cases q with
      | true => exact wp_cond_true hb' (ihx _ t h K hk p0 hc.1 S w0 M0 Mi M φi φ w a hMi hφi hR hT hm)
      | false => exact wp_cond_false hb' (ihy _ t h K hk p1 hc.2 S w0 M0 Mi M φi φ w a hMi hφi hR hT hm)
    · cases hk
  | block id x ihx =>
    intro p t h K hk hp hc S w0 M0 Mi M φi φ w a hMi hφi hR hT hm
    rw [evC_block] at hk
    simp only [codeOk] at hc
    have p0 : codeAt (p ++ [0]) c0 = some x := by rw [codeAt_append, hp]; rfl
    refine wp_block (wp_mono (ihx _ t h _ hk p0 hc S w0 M0 Mi M φi φ w a hMi hφi hR hT hm) fun e a' w' hq => ?_)
    obtain ⟨e1, t1, h1, M', φ', g1, g2, g3, g4, g5, g6, g7⟩ := hq
    cases e1 with
    | exit i =>
      cases e with
      | exit j =>
        obtain rfl : i = j := g2
        show if i = id then _ else _
        by_cases hi : i = id
        · rw [if_pos hi]
          simp only [hi, if_true] at g1
          exact ⟨.normal, t1, h1, M', φ', g1, trivial, g3, g4, g5, g6, g7⟩
        · rw [if_neg hi]
          simp only [hi, if_false] at g1
          exact ⟨.exit i, t1, h1, M', φ', g1, rfl, g3, g4, g5, g6, g7⟩
      | _ => exact g2.elim
    | normal => cases e <;> first | exact g2.elim | exact ⟨.normal, t1, h1, M', φ', g1, g2, g3, g4, g5, g6, g7⟩
    | ret => cases e <;> first | exact g2.elim | exact ⟨.ret, t1, h1, M', φ', g1, g2, g3, g4, g5, g6, g7⟩
    | pan v => cases e <;> first | exact g2.elim | exact ⟨.pan v, t1, h1, M', φ', g1, g2, g3, g4, g5, g6, g7⟩
  | loop x ihx =>
    intro p t h K hk hp hc S w0 M0 Mi M φi φ w a hMi hφi hR hT hm
    rw [evC_loop] at hk
    split at hk
    · rename_i vs h' ns hloc
      obtain ⟨ans, hok, hk⟩ := hO _ _ _ hk
      obtain ⟨fn', c', x', hf', hb', hp', hround⟩ := hok
      rw [hf] at hf'; injection hf' with hf'; subst hf'
      rw [hb] at hb'; injection hb' with hb'; subst hb'
      rw [hp] at hp'; injection hp' with hp'; subst hp'
      have L := localize_spec hloc
      have hR' := L.rel hR
      have hT' := keep_trel (C.keep f p) vs hT.size hT.defers (L.repL (keep_rep hT (C.keep f p)))
      refine wp_of_round (RoundWp.mono (hround S w0 M0 M _ w a hR' hT' (first_le L)) fun e a' w' hq => ?_)
      obtain ⟨M', φ', g1, g2, g3, g4, g5, g6⟩ := hq
      exact ⟨_, _, _, M', φ', hk, g5, hMi.trans g1, (hφi.trans (first_upto L)).trans g2, g3, g4, g6⟩
    · cases hk
  | rangeFunc g ps x y ihx ihy =>
    intro p t h K hk hp hc S w0 M0 Mi M φi φ w a hMi hφi hR hT hm
    rw [evC_rangeFunc] at hk
    split at hk
    · rename_i vs h' ns hloc
      obtain ⟨ans, hok, hk⟩ := hO _ _ _ hk
      obtain ⟨fn', c', x', hf', hb', hp', hround⟩ := hok
      rw [hf] at hf'; injection hf' with hf'; subst hf'
      rw [hb] at hb'; injection hb' with hb'; subst hb'
      rw [hp] at hp'; injection hp' with hp'; subst hp'
      have L := localize_spec hloc
      have hR' := L.rel hR
      have hT' := keep_trel (C.keep f p) vs hT.size hT.defers (L.repL (keep_rep hT (C.keep f p)))
      refine wp_mono (hround S w0 M0 M _ w a hR' hT' (first_le L)) fun e a' w' hq => ?_
      obtain ⟨M', φ', g1, g2, g3, g4, g5, g6⟩ := hq
      exact ⟨_, _, _, M', φ', hk, g5, hMi.trans g1, (hφi.trans (first_upto L)).trans g2, g3, g4, g6⟩
    · cases hk
  | exit id =>
    intro p t h K hk hp hc S w0 M0 Mi M φi φ w a hMi hφi hR hT hm
    rw [evC_exit] at hk
    exact wp_exit ⟨.exit id, t, h, M, φ, hk, rfl, hMi, hφi, hR, hT, hm⟩
  | ret =>
    intro p t h K hk hp hc S w0 M0 Mi M φi φ w a hMi hφi hR hT hm
    rw [evC_ret] at hk
    exact wp_ret ⟨.ret, t, h, M, φ, hk, trivial, hMi, hφi, hR, hT, hm⟩
  | _ =>
    intro p t h K hk
    cases hk
end
end Go.Fx
