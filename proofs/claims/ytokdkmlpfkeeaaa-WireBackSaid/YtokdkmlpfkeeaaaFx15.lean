/- A part of the objects goes on by itself; then it is joined with the rest. And slices become plain data, many at once. -/
import Derived.Test.YtokdkmlpfkeeaaaFx14
set_option linter.unusedVariables false
set_option linter.unusedSimpArgs false
namespace Go.Fx

section
variable {P : Program} {S : Nat → Prop} {w0 w w' : World} {M0 M M' : Mem} {φ φ' : Phi} {h : Hp} {α : Type}

theorem ObjAt.phi {l : Nat} {o : Ob} (ho : ObjAt P M φ w l o) (ha : o.alive = true) : ∃ x b, φ l = some x ∧ (∀ c, x.blk = some c → c < w.heap.size) ∧ (b : Nat) = 0 := by
  cases ho with
  | box b vs e hφ hh _ _ _ => exact ⟨_, 0, hφ, fun c hc => by simp [Loc.blk] at hc; subst hc; exact (Array.getElem?_eq_some_iff.1 hh).1, rfl⟩
  | row v sz cells hφ _ _ hown _ _ _ _ => exact ⟨_, 0, hφ, fun c hc => (hown.lt c hc).2, rfl⟩
  | rrow b sz vs e hφ hh _ _ _ _ => exact ⟨_, 0, hφ, fun c hc => by simp [Loc.blk, Value.ownBlock] at hc; subst hc; exact (Array.getElem?_eq_some_iff.1 hh).1, rfl⟩
  | iter r hφ hh _ => exact ⟨_, 0, hφ, fun c hc => by simp [Loc.blk] at hc; subst hc; exact (Array.getElem?_eq_some_iff.1 hh).1, rfl⟩
  | smap r hφ hh _ => exact ⟨_, 0, hφ, fun c hc => by simp [Loc.blk] at hc; subst hc; exact hh.lt, rfl⟩
  | dead => simp [Ob.alive] at ha

/-- A part of the objects (F) went on by itself from w to w'; by other names (s) it is joined with what wasn't touched. -/
theorem Rel.merge {F : Nat → Prop} {SF : Nat → Prop} {h' H : Hp} {φn : Phi} {s : Nat → Nat}
    (hR : Rel P S w0 M0 M φ h w) (hC : Rel P SF w M M' φ' h' w')
    (hSF : ∀ b, SF b → ∃ (l : Nat) (o : Ob) (x : Loc), F l ∧ h[l]? = some o ∧ o.alive = true ∧ φ l = some x ∧ x.blk = some b)
    (hinj : ∀ i j, i < h'.length → j < h'.length → s i = s j → i = j)
    (hH : ∀ (L : Nat) (o : Ob), H[L]? = some o → o.alive = true → (∃ (i : Nat) (o' : Ob), L = s i ∧ h'[i]? = some o' ∧ o = o'.ren s) ∨ (¬ F L ∧ h[L]? = some o))
    (hφ : φ.le φn) (hφ' : ∀ i x, φ' i = some x → φn (s i) = some x) (hdom : ∀ L x, φn L = some x → L < H.length) : Rel P S w0 M0 M' φn H w' := by
  -- an untouched object's block is touched by nobody
  have old : ∀ (L : Nat) (o : Ob) (x : Loc) (b : Nat), ¬ F L → h[L]? = some o → o.alive = true → φ L = some x → x.blk = some b → b < w.heap.size ∧ ¬ SF b := by
    intro L o x b hF hL ha hx hb
    refine ⟨hR.blk_lt hL ha hx hb, fun hS => ?_⟩
    obtain ⟨l, o2, x2, hFl, hl, ha2, hx2, hb2⟩ := hSF b hS
    have := hR.sep L l o o2 x x2 b hL hl ha ha2 hx hx2 hb hb2
    subst this
    exact hF hFl
  have phiN : ∀ (i : Nat) (o' : Ob) (x : Loc), h'[i]? = some o' → o'.alive = true → φn (s i) = some x → φ' i = some x := by
    intro i o' x hi ha hx
    obtain ⟨y, _, hy, _⟩ := (hC.obj i o' hi).phi ha
    rw [hφ' i y hy] at hx
    rw [hy]; exact hx
  have phiO : ∀ (L : Nat) (o : Ob) (x : Loc), h[L]? = some o → o.alive = true → φn L = some x → φ L = some x := by
    intro L o x hL ha hx
    obtain ⟨y, _, hy, _⟩ := (hR.obj L o hL).phi ha
    rw [hφ L y hy] at hx
    rw [hy]; exact hx
  have ownF : ∀ b, SF b → S b ∨ w0.heap.size ≤ b := by
    intro b hS
    obtain ⟨l, o2, x2, _, hl, ha2, hx2, hb2⟩ := hSF b hS
    exact hR.own l o2 x2 b hl ha2 hx2 hb2
  refine ⟨hR.mem.trans hC.mem, hC.agr, ?_, ?_, ?_, hdom, hC.os.trans hR.os, hC.tape.trans hR.tape, hC.output.trans hR.output, Nat.le_trans hR.size hC.size, ?_, ?_, hR.eqs⟩
  · intro L o hL
    by_cases ha : o.alive = true
    · rcases hH L o hL ha with ⟨i, o', rfl, hi, rfl⟩ | ⟨hF, hL'⟩
      · exact (hC.obj i o' hi).ren s (hφ' i) (fun k _ => hφ' k)
      · refine (hR.obj L o hL').keep hC.mem hφ (fun x b hx hb => ?_) (fun _ x b hx hb q hq => ?_)
        · obtain ⟨h1, h2⟩ := old L o x b hF hL' ha hx hb
          exact hC.old b h1 h2
        · obtain ⟨h1, h2⟩ := old L o x b hF hL' ha hx hb
          cases hn : M' b q with
          | none => rfl
          | some v =>
            rcases hC.new b q v hn with h3 | h3 | h3
            · rw [hq] at h3; cases h3
            · exact absurd h3 h2
            · omega
    · cases o <;> simp [Ob.alive] at ha
      exact .dead
  · intro L L' o o' x x' b hL hL' ha ha' hx hx' hb hb'
    have side : ∀ (i : Nat) (o1 : Ob) (x1 : Loc) (K : Nat) (o2 : Ob) (x2 : Loc), h'[i]? = some o1 → o1.alive = true → φ' i = some x1 → x1.blk = some b → ¬ F K → h[K]? = some o2 → o2.alive = true → φ K = some x2 → x2.blk = some b → False := by
      intro i o1 x1 K o2 x2 hi ha1 hx1 hb1 hF hK ha2 hx2 hb2
      obtain ⟨h1, h2⟩ := old K o2 x2 b hF hK ha2 hx2 hb2
      rcases hC.own i o1 x1 b hi ha1 hx1 hb1 with h3 | h3
      · exact h2 h3
      · omega
    rcases hH L o hL ha with ⟨i, o1, e1, hi, rfl⟩ | ⟨hF, hL1⟩
    · rw [Ob.alive_ren] at ha
      have p1 := phiN i o1 x hi ha (e1 ▸ hx)
      rcases hH L' o' hL' ha' with ⟨j, o2, e2, hj, rfl⟩ | ⟨hF', hL2⟩
      · rw [Ob.alive_ren] at ha'
        have p2 := phiN j o2 x' hj ha' (e2 ▸ hx')
        have := hC.sep i j o1 o2 x x' b hi hj ha ha' p1 p2 hb hb'
        rw [e1, e2, this]
      · exact (side i o1 x L' o' x' hi ha p1 hb hF' hL2 ha' (phiO L' o' x' hL2 ha' hx') hb').elim
    · have p1 := phiO L o x hL1 ha hx
      rcases hH L' o' hL' ha' with ⟨j, o2, e2, hj, rfl⟩ | ⟨hF', hL2⟩
      · rw [Ob.alive_ren] at ha'
        exact (side j o2 x' L o x hj ha' (phiN j o2 x' hj ha' (e2 ▸ hx')) hb' hF hL1 ha p1 hb).elim
      · exact hR.sep L L' o o' x x' b hL1 hL2 ha ha' p1 (phiO L' o' x' hL2 ha' hx') hb hb'
  · intro L o x b hL ha hx hb
    rcases hH L o hL ha with ⟨i, o1, e1, hi, rfl⟩ | ⟨hF, hL1⟩
    · rw [Ob.alive_ren] at ha
      rcases hC.own i o1 x b hi ha (phiN i o1 x hi ha (e1 ▸ hx)) hb with h3 | h3
      · exact ownF b h3
      · exact .inr (Nat.le_trans hR.size h3)
    · exact hR.own L o x b hL1 ha (phiO L o x hL1 ha hx) hb
  · intro b hb hS
    have h2 : ¬ SF b := fun h3 => by
      rcases ownF b h3 with h4 | h4
      · exact hS h4
      · omega
    rw [hC.old b (Nat.lt_of_lt_of_le hb hR.size) h2]
    exact hR.old b hb hS
  · intro b o v hv
    rcases hC.new b o v hv with h3 | h3 | h3
    · exact hR.new b o v h3
    · exact .inr (ownF b h3)
    · exact .inr (.inr (Nat.le_trans hR.size h3))

/-- The blocks of some objects. -/
def Blocks (h : Hp) (φ : Phi) : Nat → Prop := fun b => ∃ (l : Nat) (o : Ob) (x : Loc), h[l]? = some o ∧ o.alive = true ∧ φ l = some x ∧ x.blk = some b

/-- From here on anew. -/
theorem Rel.anew (hR : Rel P S w0 M0 M φ h w) : Rel P (Blocks h φ) w M M φ h w :=
  ⟨.refl _, hR.agr, hR.obj, hR.sep, fun l o x b ho ha hx hb => .inl ⟨l, o, x, ho, ha, hx, hb⟩, hR.dom, rfl, rfl, rfl, Nat.le_refl _, fun _ _ _ => rfl, fun b o v hv => .inl hv, hR.eqs⟩

/-! ### Changes -/
theorem applyD_append : ∀ (d e : Dl) (h : Hp), applyD h (d ++ e) = applyD (applyD h d) e
  | [], e, h => rfl
  | (l, o) :: d, e, h => by simp only [List.cons_append, applyD]; exact applyD_append d e _
theorem applyD_length : ∀ (d : Dl) (h : Hp), h.length ≤ (applyD h d).length
  | [], h => Nat.le_refl _
  | (l, o) :: d, h => by
    simp only [applyD]
    refine Nat.le_trans ?_ (applyD_length d _)
    split <;> simp
/-- What isn't told stays. -/
theorem applyD_other : ∀ (d : Dl) (h : Hp) (l : Nat), l < h.length → l ∉ d.map (·.1) → (applyD h d)[l]? = h[l]?
  | [], h, l, _, _ => rfl
  | (k, o) :: d, h, l, hl, hn => by
    simp only [List.map_cons, List.mem_cons, not_or] at hn
    simp only [applyD]
    rw [applyD_other d _ l (by split <;> simp <;> omega) hn.2]
    split
    · rw [List.getElem?_set_ne (Ne.symm hn.1)]
    · rw [List.getElem?_append_left hl]

/-! ### Slices as plain data -/
def Ob.frozen : Ob → Ob
  | .box cs _ => .box cs false
  | .row e n f _ => .row e n f false
  | o => o
/-- Some objects of h are frozen. -/
def FzH (h h1 : Hp) : Prop := h1.length = h.length ∧ ∀ (l : Nat), h1[l]? = h[l]? ∨ ∃ o, h[l]? = some o ∧ h1[l]? = some o.frozen
theorem FzH.refl (h : Hp) : FzH h h := ⟨rfl, fun _ => .inl rfl⟩

theorem FzH.elems {h h1 : Hp} (hz : FzH h h1) (s : CV) : Fx.elems h1 s = Fx.elems h s := by
  cases s with
  | os l =>
    simp only [Fx.elems]
    rcases hz.2 l with e | ⟨o, e1, e2⟩
    · rw [e]
    · rw [e1, e2]; cases o <;> rfl
  | bs l off sz n =>
    simp only [Fx.elems]
    rcases hz.2 l with e | ⟨o, e1, e2⟩
    · rw [e]
    · rw [e1, e2]; cases o <;> rfl
  | p x => cases x with
    | v y => cases y <;> rfl
    | _ => rfl
  | _ => rfl
theorem FzH.step {h h1 : Hp} (hz : FzH h h1) (s : CV) : applyD h1 (frozenBy h s) = applyD h1 (frozenBy h1 s) ∧ FzH h (applyD h1 (frozenBy h s)) := by
  have key : ∀ (l : Nat) (o : Ob), h[l]? = some o → FzH h (h1.set l o.frozen) := by
    intro l o ho
    have hl : l < h.length := (List.getElem?_eq_some_iff.1 ho).1
    refine ⟨by simp [hz.1], fun k => ?_⟩
    by_cases e : k = l
    · subst e; rw [List.getElem?_set_self (by rw [hz.1]; exact hl)]; exact .inr ⟨o, ho, rfl⟩
    · rw [List.getElem?_set_ne (Ne.symm e)]; exact hz.2 k
  have same : ∀ (l : Nat) (o : Ob), h1[l]? = some o → h1.set l o = h1 := by
    intro l o ho
    apply List.ext_getElem?
    intro k
    by_cases e : k = l
    · subst e; rw [List.getElem?_set_self (List.getElem?_eq_some_iff.1 ho).1, ho]
    · rw [List.getElem?_set_ne (Ne.symm e)]
  have lt : ∀ (l : Nat) (o : Ob), h[l]? = some o → l < h1.length := fun l o ho => by rw [hz.1]; exact (List.getElem?_eq_some_iff.1 ho).1
  cases s with
  | os l =>
    simp only [frozenBy]
    cases hh : h[l]? with
    | none =>
      rcases hz.2 l with e | ⟨o, e1, e2⟩
      · rw [e, hh]; exact ⟨rfl, hz⟩
      · rw [hh] at e1; cases e1
    | some o =>
      cases o with
      | row e n f q =>
        cases q with
        | true =>
          have hk := key l _ hh
          rcases hz.2 l with e1 | ⟨o, e1, e2⟩
          · rw [e1, hh]; exact ⟨rfl, by simp only [applyD, if_pos (lt l _ hh)]; exact hk⟩
          · rw [hh] at e1; injection e1 with e1; subst e1
            rw [e2]
            simp only [Ob.frozen, applyD, if_pos (lt l _ hh)]
            exact ⟨same l _ e2, hk⟩
        | false =>
          rcases hz.2 l with e1 | ⟨o, e1, e2⟩
          · rw [e1, hh]; exact ⟨rfl, hz⟩
          · rw [hh] at e1; injection e1 with e1; subst e1
            rw [e2]; exact ⟨rfl, hz⟩
      | _ =>
        rcases hz.2 l with e1 | ⟨o, e1, e2⟩
        · rw [e1, hh]; exact ⟨rfl, hz⟩
        · rw [hh] at e1; injection e1 with e1; subst e1
          rw [e2]; exact ⟨rfl, hz⟩
  | bs l off sz n =>
    simp only [frozenBy]
    cases hh : h[l]? with
    | none =>
      rcases hz.2 l with e | ⟨o, e1, e2⟩
      · rw [e, hh]; exact ⟨rfl, hz⟩
      · rw [hh] at e1; cases e1
    | some o =>
      cases o with
      | box cs q =>
        cases q with
        | true =>
          have hk := key l _ hh
          rcases hz.2 l with e1 | ⟨o, e1, e2⟩
          · rw [e1, hh]; exact ⟨rfl, by simp only [applyD, if_pos (lt l _ hh)]; exact hk⟩
          · rw [hh] at e1; injection e1 with e1; subst e1
            rw [e2]
            simp only [Ob.frozen, applyD, if_pos (lt l _ hh)]
            exact ⟨same l _ e2, hk⟩
        | false =>
          rcases hz.2 l with e1 | ⟨o, e1, e2⟩
          · rw [e1, hh]; exact ⟨rfl, hz⟩
          · rw [hh] at e1; injection e1 with e1; subst e1
            rw [e2]; exact ⟨rfl, hz⟩
      | _ =>
        rcases hz.2 l with e1 | ⟨o, e1, e2⟩
        · rw [e1, hh]; exact ⟨rfl, hz⟩
        · rw [hh] at e1; injection e1 with e1; subst e1
          rw [e2]; exact ⟨rfl, hz⟩
  | _ => exact ⟨rfl, by simpa [frozenBy, applyD] using hz⟩

theorem frzC_sound {h1 : Hp} (hz : FzH h h1) (hR : Rel P S w0 M0 M φ h1 w) {v : Value} {x : CV} (hv : RepC M φ v x) :
    ∃ N, M.le N ∧ Rel P S w0 M0 N φ (applyD h1 (frzC1 h x)) w ∧ FzH h (applyD h1 (frzC1 h x)) ∧ RepC N φ v (frzC h x) := by
  unfold frzC1 frzC
  split
  · rename_i hsl
    cases he : elems h x with
    | none => exact ⟨M, .refl _, hR, hz, hv⟩
    | some q =>
      obtain ⟨n, f⟩ := q
      have hstr : x.isStr = false := by cases x <;> first | rfl | simp [isSl] at hsl
      obtain ⟨N, h1', h2, h3⟩ := freeze_sound hR hstr ((hz.elems x).trans he) hv
      obtain ⟨e1, e2⟩ := hz.step x
      exact ⟨N, h1', by rw [e1]; exact h2, e2, .p h3⟩
  · exact ⟨M, .refl _, hR, hz, hv⟩

theorem frzCs_sound : ∀ {xs : List CV} {vs : List Value} {M : Mem} {h1 : Hp}, FzH h h1 → Rel P S w0 M0 M φ h1 w → RepCs M φ vs xs →
    ∃ N, M.le N ∧ Rel P S w0 M0 N φ (applyD h1 (frzDs h xs)) w ∧ FzH h (applyD h1 (frzDs h xs)) ∧ RepCs N φ vs (frzCs h xs)
  | [], vs, M, h1, hz, hR, hv => ⟨M, .refl _, hR, hz, hv⟩
  | x :: xs, vs, M, h1, hz, hR, hv => by
    obtain ⟨v, vs', rfl, hx, hxs⟩ := hv.uncons
    obtain ⟨N, a1, a2, a3, a4⟩ := frzC_sound hz hR hx
    obtain ⟨N2, b1, b2, b3, b4⟩ := frzCs_sound a3 a2 (hxs.mono a1 (.refl _))
    simp only [frzDs, frzCs, applyD_append]
    exact ⟨N2, a1.trans b1, b2, b3, RepCs.cons (a4.mono b1 (.refl _)) b4⟩

mutual
theorem frzA_sound' : ∀ (x : AV) {v : Value} {M : Mem} {h1 : Hp}, FzH h h1 → Rel P S w0 M0 M φ h1 w → RepA M φ v x →
    ∃ N, M.le N ∧ Rel P S w0 M0 N φ (applyD h1 (frzD h x)) w ∧ FzH h (applyD h1 (frzD h x)) ∧ RepA N φ v (frzA h x)
  | .c x, v, M, h1, hz, hR, hv => by
    cases hv with
    | c hv =>
      obtain ⟨N, a1, a2, a3, a4⟩ := frzC_sound hz hR hv
      exact ⟨N, a1, by simpa only [frzD] using a2, by simpa only [frzD] using a3, by simp only [frzA]; exact .c a4⟩
  | .agg cs, v, M, h1, hz, hR, hv => by
    cases hv with
    | agg hv =>
      obtain ⟨N, a1, a2, a3, a4⟩ := frzCs_sound hz hR hv
      exact ⟨N, a1, by simpa only [frzD] using a2, by simpa only [frzD] using a3, by simp only [frzA]; exact .agg a4⟩
  | .tup vs, v, M, h1, hz, hR, hv => by
    cases hv with
    | tup hl hh =>
      obtain ⟨N, a1, a2, a3, a4⟩ := frzL_sound' vs hz hR ⟨hl, hh⟩
      exact ⟨N, a1, by simpa only [frzD] using a2, by simpa only [frzD] using a3, by simp only [frzA]; exact a4.tup⟩
  | .top, v, M, h1, hz, hR, hv => ⟨M, .refl _, by simpa only [frzD, applyD] using hR, by simpa only [frzD, applyD] using hz, by simp only [frzA]; exact .top⟩
theorem frzL_sound' : ∀ (xs : List AV) {vs : List Value} {M : Mem} {h1 : Hp}, FzH h h1 → Rel P S w0 M0 M φ h1 w → RepL M φ vs xs →
    ∃ N, M.le N ∧ Rel P S w0 M0 N φ (applyD h1 (frzDL h xs)) w ∧ FzH h (applyD h1 (frzDL h xs)) ∧ RepL N φ vs (frzL h xs)
  | [], vs, M, h1, hz, hR, hv => ⟨M, .refl _, by simpa only [frzDL, applyD] using hR, by simpa only [frzDL, applyD] using hz, by simpa only [frzL] using hv⟩
  | x :: xs, vs, M, h1, hz, hR, hv => by
    obtain ⟨v, vs', rfl, hx, hxs⟩ := hv.uncons
    obtain ⟨N, a1, a2, a3, a4⟩ := frzA_sound' x hz hR hx
    obtain ⟨N2, b1, b2, b3, b4⟩ := frzL_sound' xs a3 a2 (hxs.mono a1 (.refl _))
    simp only [frzDL, frzL, applyD_append]
    exact ⟨N2, a1.trans b1, b2, b3, RepL.cons (a4.mono b1 (.refl _)) b4⟩
end
theorem frzA_sound {x : AV} {v : Value} (hR : Rel P S w0 M0 M φ h w) (hv : RepA M φ v x) : ∃ N, M.le N ∧ Rel P S w0 M0 N φ (applyD h (frzD h x)) w ∧ (applyD h (frzD h x)).length = h.length ∧ RepA N φ v (frzA h x) :=
  let ⟨N, a, b, c, d⟩ := frzA_sound' x (FzH.refl h) hR hv
  ⟨N, a, b, c.1, d⟩
theorem frzL_sound {xs : List AV} {vs : List Value} (hR : Rel P S w0 M0 M φ h w) (hv : RepL M φ vs xs) : ∃ N, M.le N ∧ Rel P S w0 M0 N φ (applyD h (frzDL h xs)) w ∧ (applyD h (frzDL h xs)).length = h.length ∧ RepL N φ vs (frzL h xs) :=
  let ⟨N, a, b, c, d⟩ := frzL_sound' xs (FzH.refl h) hR hv
  ⟨N, a, b, c.1, d⟩
end
end Go.Fx
