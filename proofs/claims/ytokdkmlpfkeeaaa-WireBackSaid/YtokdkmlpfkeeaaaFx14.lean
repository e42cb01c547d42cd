/- New names for objects: what is reached, and values and objects by other names. -/
import Derived.Test.YtokdkmlpfkeeaaaFx13
set_option linter.unusedVariables false
set_option linter.unusedSimpArgs false
namespace Go.Fx

section
variable {P : Program} {S : Nat → Prop} {w0 w w' : World} {M0 M M' : Mem} {φ φ' : Phi} {h : Hp} {α : Type}

theorem mem_refsL {l : Nat} : ∀ {cs : List CV}, l ∈ CV.refsL cs ↔ ∃ x ∈ cs, l ∈ x.refs
  | [] => by simp [CV.refsL]
  | x :: cs => by simp [CV.refsL, mem_refsL (cs := cs)]
theorem mem_refsLL {l : Nat} : ∀ {cs : List (List CV)}, l ∈ CV.refsLL cs ↔ ∃ x ∈ cs, l ∈ CV.refsL x
  | [] => by simp [CV.refsLL]
  | x :: cs => by simp [CV.refsLL, mem_refsLL (cs := cs)]
theorem mem_avRefsL {l : Nat} : ∀ {cs : List AV}, l ∈ AV.refsL cs ↔ ∃ x ∈ cs, l ∈ x.refs
  | [] => by simp [AV.refsL]
  | x :: cs => by simp [AV.refsL, mem_avRefsL (cs := cs)]
theorem renL_map (s : Nat → Nat) : ∀ cs : List CV, CV.renL s cs = cs.map (CV.ren s)
  | [] => rfl
  | x :: cs => by simp [CV.renL, renL_map s cs]
theorem avRenL_map (s : Nat → Nat) : ∀ cs : List AV, AV.renL s cs = cs.map (AV.ren s)
  | [] => rfl
  | x :: cs => by simp [AV.renL, avRenL_map s cs]

/-- A value by other names. -/
theorem RepC.ren (s : Nat → Nat) {x : Value} {y : CV} (h : RepC M φ x y) (hs : ∀ l ∈ y.refs, ∀ a, φ l = some a → φ' (s l) = some a) : RepC M φ' x (y.ren s) := by
  induction h with
  | p h => simp only [CV.ren]; exact .p h
  | nils => simp only [CV.ren]; exact .nils
  | ptr h => simp only [CV.ren]; exact .ptr (hs _ (by simp [CV.refs]) _ h)
  | it h => simp only [CV.ren]; exact .it (hs _ (by simp [CV.refs]) _ h)
  | mp h => simp only [CV.ren]; exact .mp (hs _ (by simp [CV.refs]) _ h)
  | ep h => simp only [CV.ren]; exact .ep (hs _ (by simp [CV.refs]) _ h)
  | os h h1 => simp only [CV.ren]; exact .os (hs _ (by simp [CV.refs]) _ h) h1
  | bs h hn => simp only [CV.ren]; exact .bs (hs _ (by simp [CV.refs]) _ h) hn
  | ip c hM hc => simp only [CV.ren]; exact .ip c hM hc
  | @fn f vs cs hl h ih =>
    simp only [CV.ren, renL_map]
    refine .fn (by simp [hl]) fun j v x hv hx => ?_
    rw [List.getElem?_map] at hx
    cases hc : cs[j]? with
    | none => rw [hc] at hx; simp at hx
    | some y =>
      rw [hc] at hx; simp at hx; subst hx
      exact ih j v y hv hc (fun l hl' => hs l (by simp only [CV.refs, mem_refsL]; exact ⟨y, List.mem_of_getElem? hc, hl'⟩))
theorem RepCs.ren (s : Nat → Nat) {x : List Value} {y : List CV} (h : RepCs M φ x y) (hs : ∀ l ∈ CV.refsL y, ∀ a, φ l = some a → φ' (s l) = some a) : RepCs M φ' x (CV.renL s y) := by
  refine ⟨by rw [renL_map]; simp [h.1], fun j v c hv hc => ?_⟩
  rw [renL_map, List.getElem?_map] at hc
  cases hy : y[j]? with
  | none => rw [hy] at hc; simp at hc
  | some z => rw [hy] at hc; simp at hc; subst hc; exact (h.2 j v z hv hy).ren s (fun l hl => hs l (mem_refsL.2 ⟨z, List.mem_of_getElem? hy, hl⟩))
theorem RepA.ren (s : Nat → Nat) {x : Value} {y : AV} (h : RepA M φ x y) (hs : ∀ l ∈ y.refs, ∀ a, φ l = some a → φ' (s l) = some a) : RepA M φ' x (y.ren s) := by
  induction h with
  | c h => simp only [AV.ren]; exact .c (h.ren s (by simpa [AV.refs] using hs))
  | agg h => simp only [AV.ren]; exact .agg (h.ren s (by simpa [AV.refs] using hs))
  | @tup vs cs hl h ih =>
    simp only [AV.ren, avRenL_map]
    refine .tup (by simp [hl]) fun j v x hv hx => ?_
    rw [List.getElem?_map] at hx
    cases hc : cs[j]? with
    | none => rw [hc] at hx; simp at hx
    | some y =>
      rw [hc] at hx; simp at hx; subst hx
      exact ih j v y hv hc (fun l hl' => hs l (by simp only [AV.refs, mem_avRefsL]; exact ⟨y, List.mem_of_getElem? hc, hl'⟩))
  | top => simp only [AV.ren]; exact .top
theorem RepL.ren (s : Nat → Nat) {x : List Value} {y : List AV} (h : RepL M φ x y) (hs : ∀ l ∈ AV.refsL y, ∀ a, φ l = some a → φ' (s l) = some a) : RepL M φ' x (AV.renL s y) := by
  refine ⟨by rw [avRenL_map]; simp [h.1], fun j v c hv hc => ?_⟩
  rw [avRenL_map, List.getElem?_map] at hc
  cases hy : y[j]? with
  | none => rw [hy] at hc; simp at hc
  | some z => rw [hy] at hc; simp at hc; subst hc; exact (h.2 j v z hv hy).ren s (fun l hl => hs l (mem_avRefsL.2 ⟨z, List.mem_of_getElem? hy, hl⟩))

/-- What names a value speaks of, if it is one. -/
theorem RepC.refs_dom {x : Value} {y : CV} (h : RepC M φ x y) : ∀ l ∈ y.refs, ∃ a, φ l = some a := by
  induction h with
  | p h => simp [CV.refs]
  | nils => simp [CV.refs]
  | ptr h => intro l hl; simp [CV.refs] at hl; subst hl; exact ⟨_, h⟩
  | it h => intro l hl; simp [CV.refs] at hl; subst hl; exact ⟨_, h⟩
  | mp h => intro l hl; simp [CV.refs] at hl; subst hl; exact ⟨_, h⟩
  | ep h => intro l hl; simp [CV.refs] at hl; subst hl; exact ⟨_, h⟩
  | os h h1 => intro l hl; simp [CV.refs] at hl; subst hl; exact ⟨_, h⟩
  | bs h hn => intro l hl; simp [CV.refs] at hl; subst hl; exact ⟨_, h⟩
  | ip c hM hc => simp [CV.refs]
  | @fn f vs cs hl h ih =>
    intro l hm
    simp only [CV.refs, mem_refsL] at hm
    obtain ⟨y, hy, hly⟩ := hm
    obtain ⟨j, hj⟩ := List.mem_iff_getElem?.1 hy
    have hlt := (List.getElem?_eq_some_iff.1 hj).1
    exact ih j vs[j] y (List.getElem?_eq_getElem (by omega)) hj l hly

/-- An object by other names. -/
theorem ObjAt.ren {l : Nat} {o : Ob} (s : Nat → Nat) (h : ObjAt P M φ w l o) (hl : ∀ a, φ l = some a → φ' (s l) = some a) (hs : ∀ k ∈ o.refs, ∀ a, φ k = some a → φ' (s k) = some a) : ObjAt P M φ' w (s l) (o.ren s) := by
  cases h with
  | box b vs e hφ hh hr hlive hfr => exact .box b vs e (hl _ hφ) hh (hr.ren s (by simpa [Ob.refs] using hs)) hlive hfr
  | row v sz cells hφ hsz h0 ho hl' hr hlive hfr => exact .row v sz cells (hl _ hφ) hsz h0 ho hl' hr hlive hfr
  | @rrow xs b sz vs e hφ hh hlen hl' hr hlive =>
    refine .rrow b sz vs e (by rw [List.length_map]; exact hl _ hφ) hh (by rw [List.length_map]; exact hlen) (fun i c hc => ?_) (fun i j u c x hc hu hx => ?_) hlive
    · rw [List.getElem?_map] at hc
      cases hx : xs[i]? with
      | none => rw [hx] at hc; simp at hc
      | some y => rw [hx] at hc; simp at hc; subst hc; rw [renL_map]; simp [hl' i y hx]
    · rw [List.getElem?_map] at hc
      cases hy : xs[i]? with
      | none => rw [hy] at hc; simp at hc
      | some y =>
        rw [hy] at hc; simp at hc; subst hc
        rw [renL_map, List.getElem?_map] at hx
        cases hz : y[j]? with
        | none => rw [hz] at hx; simp at hx
        | some z =>
          rw [hz] at hx; simp at hx; subst hx
          exact (hr i j u y z hy hu hz).ren s (fun k hk => hs k (by simp only [Ob.refs, mem_refsLL, mem_refsL]; exact ⟨y, List.mem_of_getElem? hy, z, List.mem_of_getElem? hz, hk⟩))
  | iter r hφ hh hlive => exact .iter r (hl _ hφ) hh hlive
  | smap r hφ hh hlive => exact .smap r (hl _ hφ) hh hlive
  | dead => exact .dead

theorem Ob.alive_ren (s : Nat → Nat) (o : Ob) : (o.ren s).alive = o.alive := by cases o <;> rfl

/-! ### What is reached -/
theorem reach_spec : ∀ (n : Nat) (todo seen ns : List Nat), reach h n todo seen = some ns → (∀ l ∈ seen, l < h.length) → seen.Nodup → (∀ l ∈ seen, ∀ o, h[l]? = some o → ∀ k ∈ o.refs, k ∈ seen ∨ k ∈ todo) →
    (∃ t, ns = seen ++ t) ∧ (∀ l ∈ todo, l ∈ ns) ∧ ns.Nodup ∧ (∀ l ∈ ns, l < h.length) ∧ ∀ l ∈ ns, ∀ o, h[l]? = some o → ∀ k ∈ o.refs, k ∈ ns
  | 0, _, _, _, hr, _, _, _ => by simp [reach] at hr
  | n + 1, [], seen, ns, hr, hlt, hnd, hcl => by
    simp [reach] at hr; subst hr
    exact ⟨⟨[], by simp⟩, by simp, hnd, hlt, fun l hl o ho k hk => by simpa using hcl l hl o ho k hk⟩
  | n + 1, l :: r, seen, ns, hr, hlt, hnd, hcl => by
    unfold reach at hr
    split at hr
    · rename_i hc
      have hc : l ∈ seen := by simpa using hc
      obtain ⟨⟨t, ht⟩, h2, h3, h4, h5⟩ := reach_spec n r seen ns hr hlt hnd (fun a ha o ho k hk => by
        rcases hcl a ha o ho k hk with h1 | h1
        · exact .inl h1
        · cases h1 with
          | head => exact .inl hc
          | tail _ h1 => exact .inr h1)
      refine ⟨⟨t, ht⟩, fun a ha => ?_, h3, h4, h5⟩
      cases ha with
      | head => rw [ht]; exact List.mem_append_left _ hc
      | tail _ h1 => exact h2 a h1
    · rename_i hc
      have hc : l ∉ seen := by simpa using hc
      split at hr
      · rename_i o ho
        have hl : l < h.length := (List.getElem?_eq_some_iff.1 ho).1
        obtain ⟨⟨t, ht⟩, h2, h3, h4, h5⟩ := reach_spec n (r ++ o.refs) (seen ++ [l]) ns hr (fun a ha => by
            rcases List.mem_append.1 ha with h1 | h1
            · exact hlt a h1
            · simp at h1; subst h1; exact hl) (by
            rw [List.nodup_append]
            refine ⟨hnd, by simp, fun a ha b hb e => ?_⟩
            simp at hb
            subst e; subst hb
            exact hc ha) (fun a ha o' ho' k hk => by
            rcases List.mem_append.1 ha with h1 | h1
            · rcases hcl a h1 o' ho' k hk with h2 | h2
              · exact .inl (List.mem_append_left _ h2)
              · cases h2 with
                | head => exact .inl (by simp)
                | tail _ h2 => exact .inr (List.mem_append_left _ h2)
            · simp at h1; subst h1
              rw [ho] at ho'; injection ho' with ho'; subst ho'
              exact .inr (List.mem_append_right _ hk))
        refine ⟨⟨l :: t, by rw [ht]; simp⟩, fun a ha => ?_, h3, h4, h5⟩
        cases ha with
        | head => rw [ht]; simp
        | tail _ h1 => exact h2 a (List.mem_append_left _ h1)
      · cases hr

/-- The first names stay. -/
theorem reach_first : ∀ (n k j : Nat) (rest ns : List Nat), reach h n (List.range' k j ++ rest) (List.range k) = some ns → ∃ t, ns = List.range (k + j) ++ t
  | 0, _, _, _, _, hr => by simp [reach] at hr
  | n + 1, k, 0, rest, ns, hr => by
    simp only [List.range'_zero, List.nil_append] at hr
    -- nothing more of these: the rest goes behind
    have gen : ∀ (n : Nat) (todo seen ns : List Nat), reach h n todo seen = some ns → ∃ t, ns = seen ++ t := by
      intro n
      induction n with
      | zero => intro todo seen ns hr; simp [reach] at hr
      | succ n ih =>
        intro todo seen ns hr
        cases todo with
        | nil => simp [reach] at hr; subst hr; exact ⟨[], by simp⟩
        | cons l r =>
          unfold reach at hr
          split at hr
          · exact ih _ _ _ hr
          · split at hr
            · obtain ⟨t, ht⟩ := ih _ _ _ hr
              exact ⟨l :: t, by rw [ht]; simp⟩
            · cases hr
    simpa using gen _ _ _ _ hr
  | n + 1, k, j + 1, rest, ns, hr => by
    rw [List.range'_succ, List.cons_append] at hr
    unfold reach at hr
    have hc : (List.range k).contains k = false := by
      rw [← Bool.not_eq_true]
      simp
    rw [hc] at hr
    simp only at hr
    split at hr
    · rw [List.append_assoc, ← List.range_succ] at hr
      obtain ⟨t, ht⟩ := reach_first n (k + 1) j _ ns hr
      exact ⟨t, by rw [ht, show k + 1 + j = k + (j + 1) by omega]⟩
    · cases hr

theorem getAll_spec : ∀ {ns : List Nat} {os : Hp}, getAll h ns = some os → os.length = ns.length ∧ ∀ (i l : Nat), ns[i]? = some l → ∃ o : Ob, h[l]? = some o ∧ os[i]? = some o
  | [], os, hg => by simp [getAll] at hg; subst hg; simp
  | l :: r, os, hg => by
    unfold getAll at hg
    split at hg
    · rename_i o os' ho hos
      injection hg with hg; subst hg
      obtain ⟨h1, h2⟩ := getAll_spec hos
      refine ⟨by simp [h1], fun i a ha => ?_⟩
      cases i with
      | zero => simp at ha; subst ha; exact ⟨o, ho, by simp⟩
      | succ i => simp at ha; obtain ⟨o', h3, h4⟩ := h2 i a ha; exact ⟨o', h3, by simpa using h4⟩
    · cases hg

/-- By new names: the facts. -/
structure Local (m : Nat) (vs : List AV) (h : Hp) (us : List AV) (hl : Hp) (ns : List Nat) : Prop where
  vals : us = AV.renL (ns.idxOf ·) vs
  len : hl.length = ns.length
  nodup : ns.Nodup
  lt : ∀ l ∈ ns, l < h.length
  refs : ∀ l ∈ AV.refsL vs, l ∈ ns
  closed : ∀ l ∈ ns, ∀ o : Ob, h[l]? = some o → ∀ k ∈ o.refs, k ∈ ns
  obj : ∀ (i l : Nat), ns[i]? = some l → ∃ o : Ob, h[l]? = some o ∧ hl[i]? = some (o.ren (ns.idxOf ·))
  first : ∃ t, ns = List.range m ++ t

theorem localize_spec {m : Nat} {vs us : List AV} {hl : Hp} {ns : List Nat} (hh : localize m vs h = some (us, hl, ns)) : Local m vs h us hl ns := by
  unfold localize at hh
  split at hh
  · rename_i ns' hr
    split at hh
    · rename_i os ho
      injection hh with hh
      injection hh with e1 e2
      injection e2 with e2 e3
      subst e1; subst e2; subst e3
      obtain ⟨_, h2, h3, h4, h5⟩ := reach_spec _ _ _ _ hr (by simp) (by simp) (by simp)
      obtain ⟨g1, g2⟩ := getAll_spec ho
      refine ⟨rfl, by simp [g1], h3, h4, fun l hl => h2 l (List.mem_append_right _ hl), h5, fun i l hil => ?_, ?_⟩
      · obtain ⟨o, ho1, ho2⟩ := g2 i l hil
        exact ⟨o, ho1, by rw [List.getElem?_map, ho2]; rfl⟩
      · have := reach_first 200 0 m (AV.refsL vs) ns' (by rw [← List.range_eq_range']; exact hr)
        simpa using this
    · cases hh
  · cases hh

/-- Where the objects lie by the new names. -/
def phiOf (φ : Phi) (ns : List Nat) : Phi := fun i => (ns[i]?).bind φ

theorem idx_phi {ns : List Nat} {l : Nat} (hl : l ∈ ns) {a : Loc} (ha : φ l = some a) : phiOf φ ns (ns.idxOf l) = some a := by
  unfold phiOf
  rw [List.getElem?_eq_getElem (List.idxOf_lt_length_of_mem hl)]
  simpa using ha

theorem Local.repL {m : Nat} {vs us : List AV} {hl : Hp} {ns : List Nat} (L : Local m vs h us hl ns) {xs : List Value} (hx : RepL M φ xs vs) : RepL M (phiOf φ ns) xs us := by
  rw [L.vals]
  exact hx.ren _ (fun l hl a ha => idx_phi (L.refs l hl) ha)

/-- The objects by their new names, in the same world. -/
theorem Local.rel {m : Nat} {vs us : List AV} {hl : Hp} {ns : List Nat} (L : Local m vs h us hl ns) (hR : Rel P S w0 M0 M φ h w) : Rel P S w0 M0 M (phiOf φ ns) hl w := by
  have get : ∀ (i : Nat) (o' : Ob), hl[i]? = some o' → ∃ (l : Nat) (o : Ob), ns[i]? = some l ∧ h[l]? = some o ∧ o' = o.ren (ns.idxOf ·) := by
    intro i o' hi
    have hlt : i < ns.length := by rw [← L.len]; exact (List.getElem?_eq_some_iff.1 hi).1
    obtain ⟨o, ho, ho2⟩ := L.obj i ns[i] (List.getElem?_eq_getElem hlt)
    rw [hi] at ho2; injection ho2 with ho2
    exact ⟨ns[i], o, List.getElem?_eq_getElem hlt, ho, ho2⟩
  have phi : ∀ (i l : Nat), ns[i]? = some l → phiOf φ ns i = φ l := fun i l hi => by simp [phiOf, hi]
  have idx : ∀ (i l : Nat), ns[i]? = some l → ns.idxOf l = i := fun i l hi => by
    obtain ⟨hlt, e⟩ := List.getElem?_eq_some_iff.1 hi
    subst e
    exact L.nodup.idxOf_getElem i hlt
  refine ⟨hR.mem, hR.agr, fun i o' hi => ?_, ?_, ?_, fun i x hx => ?_, hR.os, hR.tape, hR.output, hR.size, hR.old, hR.new, hR.eqs⟩
  · obtain ⟨l, o, hil, ho, rfl⟩ := get i o' hi
    have := (hR.obj l o ho).ren (φ' := phiOf φ ns) (ns.idxOf ·) (fun a ha => idx_phi (List.mem_of_getElem? hil) ha) (fun k hk a ha => idx_phi (L.closed l (List.mem_of_getElem? hil) o ho k hk) ha)
    rwa [idx i l hil] at this
  · intro i i' o o' x x' b hi hi' ha ha' hx hx' hb hb'
    obtain ⟨l, o1, hil, ho1, rfl⟩ := get i o hi
    obtain ⟨l', o1', hil', ho1', rfl⟩ := get i' o' hi'
    rw [Ob.alive_ren] at ha ha'
    rw [phi i l hil] at hx
    rw [phi i' l' hil'] at hx'
    have := hR.sep l l' o1 o1' x x' b ho1 ho1' ha ha' hx hx' hb hb'
    subst this
    rw [← idx i l hil, ← idx i' l hil']
  · intro i o x b hi ha hx hb
    obtain ⟨l, o1, hil, ho1, rfl⟩ := get i o hi
    rw [Ob.alive_ren] at ha
    rw [phi i l hil] at hx
    exact hR.own l o1 x b ho1 ha hx hb
  · unfold phiOf at hx
    cases hil : ns[i]? with
    | none => rw [hil] at hx; simp at hx
    | some l => rw [L.len]; exact (List.getElem?_eq_some_iff.1 hil).1
end
end Go.Fx
