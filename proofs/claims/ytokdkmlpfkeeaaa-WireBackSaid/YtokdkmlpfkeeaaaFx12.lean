/- The small interpreter's operations against the model's: builtins, interfaces, texts gone through; and any operation that is no call. -/
import Derived.Test.YtokdkmlpfkeeaaaFx11
import Derived.Laws.RangeString
set_option linter.unusedVariables false
set_option linter.unusedSimpArgs false
namespace Go.Fx
open Go.RowKit Go.Lib

section
variable {P : Program} {S : Nat → Prop} {w0 w w' : World} {M0 M M' : Mem} {φ φ' : Phi} {h : Hp} {α : Type}

/-- Lists of values, side by side. -/
def RepL (M : Mem) (φ : Phi) (vs : List Value) (cs : List AV) : Prop := vs.length = cs.length ∧ ∀ (j : Nat) (v : Value) (x : AV), vs[j]? = some v → cs[j]? = some x → RepA M φ v x
theorem RepL.mono {x : List Value} {y : List AV} (hm : M.le M') (hf : φ.le φ') (h : RepL M φ x y) : RepL M' φ' x y := ⟨h.1, fun j v c hv hc => (h.2 j v c hv hc).mono hm hf⟩
theorem RepL.nil : RepL M φ [] [] := ⟨rfl, by simp⟩
theorem RepL.cons {v : Value} {vs : List Value} {c : AV} {cs : List AV} (h : RepA M φ v c) (k : RepL M φ vs cs) : RepL M φ (v :: vs) (c :: cs) :=
  ⟨by simp [k.1], fun j v' x hv hx => by
    cases j with
    | zero => simp at hv hx; subst hv hx; exact h
    | succ j => simp at hv hx; exact k.2 j v' x hv hx⟩
theorem RepL.uncons {vs : List Value} {c : AV} {cs : List AV} (h : RepL M φ vs (c :: cs)) : ∃ v vs', vs = v :: vs' ∧ RepA M φ v c ∧ RepL M φ vs' cs := by
  obtain ⟨hl, hh⟩ := h
  cases vs with
  | nil => simp at hl
  | cons v vs => exact ⟨v, vs, rfl, hh 0 v c rfl rfl, by simpa using hl, fun j v' x hv hx => hh (j + 1) v' x hv hx⟩
theorem RepL.nil_inv {vs : List Value} (h : RepL M φ vs []) : vs = [] := by simpa using h.1
theorem RepL.append {a b : List Value} {c d : List AV} (h : RepL M φ a c) (k : RepL M φ b d) : RepL M φ (a ++ b) (c ++ d) :=
  ⟨by simp [h.1, k.1], fun j v x hv hx => by
    by_cases hj : j < a.length
    · rw [List.getElem?_append_left hj] at hv
      rw [List.getElem?_append_left (by rw [← h.1]; exact hj)] at hx
      exact h.2 j v x hv hx
    · rw [List.getElem?_append_right (by omega)] at hv
      rw [List.getElem?_append_right (by rw [← h.1]; omega), ← h.1] at hx
      exact k.2 _ v x hv hx⟩
theorem RepL.map {β : Type} (l : List β) (f : β → Value) (g : β → AV) (hh : ∀ x, RepA M φ (f x) (g x)) : RepL M φ (l.map f) (l.map g) :=
  ⟨by simp, fun j v x hv hx => by
    rw [List.getElem?_map] at hv hx
    cases hl : l[j]? with
    | none => rw [hl] at hv; simp at hv
    | some y => rw [hl] at hv hx; simp at hv hx; subst hv hx; exact hh y⟩
theorem RepCs.toL {vs : List Value} {cs : List CV} (h : RepCs M φ vs cs) : RepL M φ vs (cs.map AV.c) :=
  ⟨by simp [h.1], fun j v x hv hx => by
    rw [List.getElem?_map] at hx
    cases hl : cs[j]? with
    | none => rw [hl] at hx; simp at hx
    | some y => rw [hl] at hx; simp at hx; subst hx; exact .c (h.2 j v y hv hl)⟩
theorem RepL.tup {vs : List Value} {cs : List AV} (h : RepL M φ vs cs) : RepA M φ (.tuple vs.toArray) (.tup cs) := .tup h.1 h.2
theorem RepL.concs {l : List Value} {xs : List AV} {vs : List Value} (h : RepL M φ vs xs) (hc : Fx.concs xs = some l) : vs = l := concs_rep hc h.1 h.2

theorem builtinAV_sound {bi : Builtin} {ts : Array TypeId} {ty : TypeId} {args : List AV} {consts : Array Bool} {k : KV α} {r : α} (hR : Rel P S w0 M0 M φ h w)
    (hk : builtinAV P h h.length bi ts ty args k = some r) {vs : List Value} (hx : RepL M φ vs args) :
    ∃ v d v' w', k v d = some r ∧ (builtin bi ts ty consts vs.toArray).run P w = .ok (.value v') w' ∧ Leaves P S w0 M0 M φ h d v' v w' := by
  have lift : ∀ {s : Sem Value}, (∃ v d v' w', k v d = some r ∧ s.run P w = .ok v' w' ∧ Leaves P S w0 M0 M φ h d v' v w') →
      ∃ v d v' w', k v d = some r ∧ ((do pure (.value (← s)) : Sem Next).run P w = .ok (.value v') w') ∧ Leaves P S w0 M0 M φ h d v' v w' := by
    rintro s ⟨v, d, v', w', h1, h2, h3⟩
    exact ⟨v, d, v', w', h1, by simp [h2], h3⟩
  unfold builtinAV at hk
  split at hk
  · rename_i x
    obtain ⟨x', vs', rfl, hxx, hnil⟩ := hx.uncons
    rw [hnil.nil_inv]
    refine lift (s := Builtin.len_ ts ty #[x']) ?_
    split at hk
    · rename_i t ht
      split at hk
      case isFalse => cases hk
      rename_i hts1
      have hs : ts = #[t] := by
        have := hts1
        apply Array.ext
        · simpa using this
        · intro i h1 h2
          have : i = 0 := by omega
          subst this
          have := (Array.getElem?_eq_some_iff.1 ht).2
          simpa using this
      subst hs
      split at hk
      · rename_i s hu
        have e := sval_rep hxx
        subst e
        refine ⟨_, _, goInt s.size, w, hk, ?_, Leaves.same hR (.c (.p (.v rfl)))⟩
        simp [Builtin.len_, run_underlying hu]
      · rename_i e y hu
        split at hk
        · rename_i n hn
          cases hxx with
          | c hc => exact ⟨_, _, _, _, hk, lenOf_run hR hu hn hc, Leaves.same hR (.c (.p (.v rfl)))⟩
        · cases hk
      · rename_i y n e hu
        refine ⟨_, _, goInt n, w, hk, ?_, Leaves.same hR (.c (.p (.v rfl)))⟩
        simp only [Builtin.len_, List.getElem?_toArray, List.getElem?_cons_zero, Sem.run_bind, run_underlying hu, Result.andThen_ok]
        rfl
      · cases hk
    · cases hk
  · rename_i s x
    obtain ⟨s', vs', rfl, hss, hx⟩ := hx.uncons
    obtain ⟨x', vs', rfl, hxx, hnil⟩ := hx.uncons
    rw [hnil.nil_inv]
    split at hk
    · rename_i hts
      exact lift (s := Builtin.append_ ts ty #[s', x']) (appendAV_sound hR rfl hts hk hss hxx)
    · cases hk
  · rename_i s x
    obtain ⟨s', vs', rfl, hss, hx⟩ := hx.uncons
    obtain ⟨x', vs', rfl, hxx, hnil⟩ := hx.uncons
    rw [hnil.nil_inv]
    split at hk
    · rename_i hts
      exact lift (s := Builtin.copy_ ts ty #[s', x']) (copyAV_sound hR hts hk hss hxx)
    · cases hk
  · rename_i t x u y
    obtain ⟨s', vs', rfl, hss, hx⟩ := hx.uncons
    obtain ⟨x', vs', rfl, hxx, hnil⟩ := hx.uncons
    rw [hnil.nil_inv, int_rep hss, int_rep hxx]
    refine lift (s := Builtin.min_ ts ty #[.int t x, .int u y]) ⟨_, _, _, _, hk, ?_, Leaves.same hR (.c (.p (.v rfl)))⟩
    have : (if y < x then y else x) = min x y := by split <;> omega
    simp [Builtin.min_, Builtin.min2, this]
  · rename_i t x u y
    obtain ⟨s', vs', rfl, hss, hx⟩ := hx.uncons
    obtain ⟨x', vs', rfl, hxx, hnil⟩ := hx.uncons
    rw [hnil.nil_inv, int_rep hss, int_rep hxx]
    refine lift (s := Builtin.max_ ts ty #[.int t x, .int u y]) ⟨_, _, _, _, hk, ?_, Leaves.same hR (.c (.p (.v rfl)))⟩
    have h1 : (if x < y then y else x) = max x y := by split <;> omega
    have h2 : (if y > x then y else x) = max x y := by split <;> omega
    simp [Builtin.max_, Builtin.max2, h1, h2]
  · split at hk
    · rename_i l hl
      have := hx.concs hl
      subst this
      exact lift (sca_sound hR hk (fun u hu => pureOf_run _ hu w))
    · cases hk
  · split at hk
    · rename_i l hl
      have := hx.concs hl
      subst this
      exact lift (sca_sound hR hk (fun u hu => pureOf_run _ hu w))
    · cases hk
  · split at hk
    · rename_i l hl
      have := hx.concs hl
      subst this
      exact lift (sca_sound hR hk (fun u hu => pureOf_run _ hu w))
    · cases hk
  · cases hk

theorem zeroAV_sound {t : TypeId} {k : AV → Option α} {r : α} (hk : zeroAV P t k = some r) : ∃ z v, k v = some r ∧ (zeroValue t).run P w = .ok z w ∧ RepA M φ z v := by
  unfold zeroAV at hk
  split at hk
  · rename_i i hi
    split at hk
    · rename_i z hz
      exact ⟨z, _, hk, by simp [zeroValue, typeInfo, hi, hz], absV_rep z⟩
    · cases hk
  · cases hk

theorem assertAV_sound {x : AV} {xt ty : TypeId} {ok : Bool} {k : KV α} {r : α} (hR : Rel P S w0 M0 M φ h w) (hk : assertAV P x ty ok k = some r) {x' : Value} (hx : RepA M φ x' x) :
    ∃ v d v' w', k v d = some r ∧ (Instr.typeAssert x' xt ty ok).run P w = .ok v' w' ∧ Leaves P S w0 M0 M φ h d v' v w' := by
  unfold assertAV at hk
  split at hk
  · cases hk
  · rename_i u hni hu
    -- what isn't of this type
    have fails : ∀ {t : Option TypeId} {v : Value}, (if ok then zeroAV P ty fun z => k (.tup [z, .c (.p (.v (.bool false)))]) [] else none) = some r →
        (Instr.typeAssert v xt ty ok).run P w = (do if ok then pure (.tuple #[← zeroValue ty, .bool false]) else runtimePanic (.typeAssertion (some xt) t ty "") : Sem Value).run P w →
        ∃ v' d u' w', k v' d = some r ∧ (Instr.typeAssert v xt ty ok).run P w = .ok u' w' ∧ Leaves P S w0 M0 M φ h d u' v' w' := by
      intro t v hk' hrun
      cases ok with
      | false => simp at hk'
      | true =>
        simp only [if_true] at hk'
        obtain ⟨z, zv, hz, hzr, hzz⟩ := zeroAV_sound (M := M) (φ := φ) (w := w) hk'
        refine ⟨_, _, _, w, hz, by rw [hrun]; simp [hzr]; rfl, Leaves.same hR ?_⟩
        exact (RepL.cons hzz (RepL.cons (.c (.p (.v rfl))) RepL.nil)).tup
    have holds : ∀ {v : Value} {a : AV}, RepA M φ v a → k (if ok then .tup [a, .c (.p (.v (.bool true)))] else a) [] = some r →
        (Instr.typeAssert (.iface ty v) xt ty ok).run P w = .ok (if ok then .tuple #[v, .bool true] else v) w →
        ∃ v' d u' w', k v' d = some r ∧ (Instr.typeAssert (.iface ty v) xt ty ok).run P w = .ok u' w' ∧ Leaves P S w0 M0 M φ h d u' v' w' := by
      intro v a ha hk' hrun
      refine ⟨_, _, _, w, hk', hrun, Leaves.same hR ?_⟩
      cases ok with
      | false => exact ha
      | true => exact (RepL.cons ha (RepL.cons (.c (.p (.v rfl))) RepL.nil)).tup
    have hrun1 : ∀ v : Value, (Instr.typeAssert (.iface ty v) xt ty ok).run P w = .ok (if ok then .tuple #[v, .bool true] else v) w := by
      intro v
      unfold Instr.typeAssert
      simp only [Sem.run_bind, run_underlying hu, Result.andThen_ok]
      cases u <;> first | exact absurd hu (hni _) | simp
    have hrun2 : ∀ (t : TypeId) (v : Value), t ≠ ty → (Instr.typeAssert (.iface t v) xt ty ok).run P w = (do if ok then pure (.tuple #[← zeroValue ty, .bool false]) else runtimePanic (.typeAssertion (some xt) (some t) ty "") : Sem Value).run P w := by
      intro t v hne
      unfold Instr.typeAssert
      simp only [Sem.run_bind, run_underlying hu, Result.andThen_ok]
      cases u <;> first | exact absurd hu (hni _) | simp [hne]
    have hrun3 : (Instr.typeAssert .nilIface xt ty ok).run P w = (do if ok then pure (.tuple #[← zeroValue ty, .bool false]) else runtimePanic (.typeAssertion (some xt) none ty "") : Sem Value).run P w := by
      unfold Instr.typeAssert
      simp only [Sem.run_bind, run_underlying hu, Result.andThen_ok]
    split at hk
    · rename_i t y
      cases hx with
      | c hx => cases hx with
        | p hx => cases hx with
          | ifc hy =>
            split at hk
            · rename_i e; subst e
              exact holds (.c (.p hy)) hk (hrun1 _)
            · rename_i hne
              exact fails hk (hrun2 _ _ hne)
    · rename_i t cs
      cases hx with
      | c hx => cases hx with
        | p hx => cases hx with
          | ifa hl hy =>
            split at hk
            · rename_i e; subst e
              exact holds (.agg (RepPs.toC ⟨hl, hy⟩)) hk (hrun1 _)
            · rename_i hne
              exact fails hk (hrun2 _ _ hne)
    · have e := sval_rep hx
      subst e
      exact fails hk hrun3
    · cases hk
  · cases hk

theorem ifaceAV_sound {t : TypeId} {x : AV} {k : KV α} {r : α} (hR : Rel P S w0 M0 M φ h w) (hk : ifaceAV P t x k = some r) {x' : Value} (hx : RepA M φ x' x) :
    ∃ v d v' w', k v d = some r ∧ (Instr.makeInterface t x').run P w = .ok v' w' ∧ Leaves P S w0 M0 M φ h d v' v w' := by
  unfold ifaceAV at hk
  split at hk
  · cases hk
  · rename_i u hni hu
    have hrun : (Instr.makeInterface t x').run P w = .ok (.iface t x') w := by
      unfold Instr.makeInterface
      simp only [Sem.run_bind, run_underlying hu, Result.andThen_ok]
      cases u <;> first | exact absurd hu (hni _) | rfl
    split at hk
    · rename_i y
      cases hx with
      | c hx => cases hx with
        | p hx => exact ⟨_, _, _, w, hk, hrun, Leaves.same hR (.c (.p (.ifc hx)))⟩
    · rename_i cs
      split at hk
      · rename_i ps hps
        cases hx with
        | agg hx =>
          have := pures_rep hps hx
          exact ⟨_, _, _, w, hk, hrun, Leaves.same hR (.c (.p (.ifa this.1 this.2)))⟩
      · cases hk
    · cases hk
  · cases hk

theorem iter_new_sound {s : ByteArray} (hR : Rel P S w0 M0 M φ h w) : Leaves P S w0 M0 M φ h [(h.length, .iter s 0)] (.pointer (some ⟨w.heap.size, 0, none⟩)) (.c (.itp h.length)) (w.alloc (.stringIter s 0)) := by
  refine ⟨M, setPhi φ h.length (.iter w.heap.size), .refl _, setPhi_upto (dom_none hR), ?_, .c (.it (by simp [setPhi]))⟩
  simp only [applyD, Nat.lt_irrefl, if_false]
  refine hR.push (w' := w.alloc (.stringIter s 0)) none none (by simp) (fun _ => rfl) ?_ (by simp) (x := .iter w.heap.size) (fun b hb => by simp [Loc.blk] at hb; subst hb; exact .inl (Nat.le_refl _)) (fun b hb => by simp [Loc.blk] at hb; subst hb; unfold World.alloc; rw [Array.size_push]; omega) ?_
  · exact World.grownBy_alloc w _ none
  · refine (.iter w.heap.size (by simp [setPhi]) (by unfold World.alloc; exact Array.getElem?_push_size) (fun o => memNone hR (Nat.le_refl _) o))

theorem iterNext_sound {x : AV} {ty : TypeId} {k : KV α} {r : α} (hR : Rel P S w0 M0 M φ h w) (hk : iterNext h x k = some r) {x' : Value} (hx : RepA M φ x' x) :
    ∃ v d v' w', k v d = some r ∧ (Instr.next x' true ty).run P w = .ok v' w' ∧ Leaves P S w0 M0 M φ h d v' v w' := by
  unfold iterNext at hk
  split at hk
  · rename_i l
    split at hk
    · rename_i s pos hl
      cases hx with
      | c hx => cases hx with
        | it hφ =>
          rename_i b
          cases hR.obj l _ hl with
          | iter b' hφ' hh hlive =>
            rw [hφ] at hφ'; injection hφ' with hφ'; injection hφ' with e1; subst e1
            by_cases hp : pos < s.size
            · simp only [br, hp, decide_true] at hk
              have hbs : b < w.heap.size := (Array.getElem?_eq_some_iff.1 hh).1
              obtain ⟨W, hW⟩ : ∃ W : World, W = { w with heap := w.heap.setIfInBounds b (.stringIter s (pos + (Utf8.decode s pos).2)) } := ⟨_, rfl⟩
              refine ⟨_, _, .tuple #[.bool true, goInt pos, .int .i32 (Utf8.decode s pos).1], W, hk, ?_, M, φ, .refl _, .refl _, ?_, ?_⟩
              · rw [hW]
                simp [Instr.next, getObj, setObj, Sem.run, hh, hp]
              · have hlt : l < h.length := (List.getElem?_eq_some_iff.1 hl).1
                simp only [applyD, if_pos hlt]
                refine hR.setO hl rfl hφ rfl hlive ?_ (.iter b hφ ?_ hlive)
                · rw [hW]
                  exact ⟨rfl, rfl, rfl, by simp, fun k _ hk => by
                    have : b ≠ k := fun e => hk (by rw [e])
                    simp [Array.getElem?_setIfInBounds, this]⟩
                · rw [hW]; simp [hbs]
              · exact (RepL.cons (.c (.p (.v rfl))) (RepL.cons (.c (.p (.v rfl))) (RepL.cons (.c (.p (.v rfl))) RepL.nil))).tup
            · simp only [br, hp, decide_false] at hk
              refine ⟨_, _, .tuple #[.bool false], w, hk, ?_, Leaves.same hR (RepL.cons (.c (.p (.v rfl))) RepL.nil).tup⟩
              simp [Instr.next, getObj, Sem.run, hh, hp]
    · cases hk
  · cases hk

theorem strMap_inv {t : TypeId} (h : strMap P t = true) : ∃ k e, P.underlying t = some (.map k e) ∧ P.underlying k = some .string ∧ P.underlying e = some (.int .i64) ∧ ∀ w : World, (zeroValue e).run P w = .ok (.int .i64 0) w := by
  unfold strMap at h
  split at h
  · rename_i k e ht
    split at h
    · rename_i i hk he hi
      split at h
      · rename_i hz
        exact ⟨k, e, ht, hk, he, fun w => by simp [zeroValue, typeInfo, hi, hz]⟩
      · cases h
    · cases h
  · cases h
theorem mapMakeAV_sound {t : TypeId} {k : KV α} {r : α} (hR : Rel P S w0 M0 M φ h w) (hk : mapMakeAV P h.length t k = some r) :
    ∃ v d v' w', k v d = some r ∧ (Instr.makeMap t none).run P w = .ok v' w' ∧ Leaves P S w0 M0 M φ h d v' v w' := by
  unfold mapMakeAV at hk
  split at hk
  · rename_i hm
    obtain ⟨kt, et, ht, hkt, het, hz⟩ := strMap_inv hm
    refine ⟨_, _, .map (some w.heap.size), w.alloc (.map #[] 0), hk, rfl, M, setPhi φ h.length (.iter w.heap.size), .refl _, setPhi_upto (dom_none hR), ?_, .c (.mp (by simp [setPhi]))⟩
    simp only [applyD, Nat.lt_irrefl, if_false]
    refine hR.push (w' := w.alloc (.map #[] 0)) none none (by simp) (fun _ => rfl) ?_ (by simp) (x := .iter w.heap.size) (fun b hb => by simp [Loc.blk] at hb; subst hb; exact .inl (Nat.le_refl _)) (fun b hb => by simp [Loc.blk] at hb; subst hb; unfold World.alloc; rw [Array.size_push]; omega) ?_
    · exact World.grownBy_alloc w _ none
    · exact .smap w.heap.size (by simp [setPhi]) ⟨kt, et, .map [], ht, ⟨[], rfl⟩, hkt, het, World.ownsMap_made w P kt _, fun s => rfl⟩ (fun o => memNone hR (Nat.le_refl _) o)
  · cases hk
theorem mapLookAV_sound {t : TypeId} {x i : AV} {k : KV α} {r : α} (hR : Rel P S w0 M0 M φ h w) (hk : mapLookAV P h t x i k = some r) {x' i' : Value} (hx : RepA M φ x' x) (hi : RepA M φ i' i) :
    ∃ v d v' w', k v d = some r ∧ (Instr.lookup t x' i' false).run P w = .ok v' w' ∧ Leaves P S w0 M0 M φ h d v' v w' := by
  unfold mapLookAV at hk
  split at hk
  · rename_i l s hm
    obtain ⟨kt, et, ht, hkt, het, hz⟩ := strMap_inv hm
    split at hk
    · rename_i t' g n hl
      split at hk
      · rename_i htt
        subst htt
        obtain ⟨hs, hk⟩ := chk_inv hk
        cases hx with
        | c hx => cases hx with
          | mp hφ =>
            rename_i b
            rw [sval_rep hi]
            cases hR.obj l _ hl with
            | smap b' hφ' hh hlive =>
              rw [hφ] at hφ'; injection hφ' with hφ'; injection hφ' with e1; subst e1
              obtain ⟨k1, e1, D, ht1, hm1, hk1, he1, hown, hg⟩ := hh
              rw [ht] at ht1; injection ht1 with ht1; injection ht1 with a1 a2; subst a1 a2
              obtain ⟨c, hrun, hat, _⟩ := hown.lookup_int (Maps.string_keyed hkt) ht het (hz w) (Go.WideMaps.keyOf_string_mk hkt (s := s) hs)
              have hc : c = g s := by
                have := hat.symm.trans (hg s)
                simpa using this
              subst hc
              exact ⟨_, _, _, w, hk, hrun, Leaves.same hR (.c (.p (.v rfl)))⟩
      · cases hk
    · cases hk
  · cases hk
theorem mapPutAV_sound {t : TypeId} {x i v : AV} {k : KV α} {r : α} (hR : Rel P S w0 M0 M φ h w) (hk : mapPutAV P h t x i v k = some r) {x' i' y : Value} (hx : RepA M φ x' x) (hi : RepA M φ i' i) (hv : RepA M φ y v) :
    ∃ v d w', k v d = some r ∧ (Instr.mapUpdate t x' i' y).run P w = .ok () w' ∧ Leaves P S w0 M0 M φ h d undef v w' := by
  unfold mapPutAV at hk
  split at hk
  · rename_i l s n hm
    obtain ⟨kt, et, ht, hkt, het, hz⟩ := strMap_inv hm
    split at hk
    · rename_i t' g m hl
      split at hk
      · rename_i htt
        subst htt
        obtain ⟨⟨hs, hmm, hn⟩, hk⟩ := chk_inv hk
        cases hx with
        | c hx => cases hx with
          | mp hφ =>
            rename_i b
            rw [sval_rep hi, sval_rep hv]
            cases hR.obj l _ hl with
            | smap b' hφ' hh hlive =>
              rw [hφ] at hφ'; injection hφ' with hφ'; injection hφ' with e1; subst e1
              obtain ⟨k1, e1, D, ht1, hm1, hk1, he1, hown, hg⟩ := hh
              rw [ht] at ht1; injection ht1 with ht1; injection ht1 with a1 a2; subst a1 a2
              have hwf : (Lit.int .i64 n).wf = true := by simp only [Lit.wf, Bool.and_eq_true, decide_eq_true_eq]; exact hn
              obtain ⟨w', hrun, hown', hgrow⟩ := hown.update (Maps.string_keyed hkt) ht hmm (Go.WideMaps.keyOf_string_mk hkt (s := s) hs) (plainElem_int he1 hwf)
              refine ⟨_, _, w', hk, hrun, M, φ, .refl _, .refl _, ?_, .undef⟩
              have hlt : l < h.length := (List.getElem?_eq_some_iff.1 hl).1
              simp only [applyD, if_pos hlt]
              refine hR.setO hl rfl hφ rfl hlive hgrow (.smap b hφ ⟨kt, et, _, ht, ?_, hk1, he1, hown', fun s' => ?_⟩ hlive)
              · obtain ⟨es, rfl⟩ := hm1
                exact ⟨_, rfl⟩
              · unfold putS
                by_cases e : s' = s
                · subst e
                  rw [Maps.atKey_put_same hm1 (show WideAt.IsKeyLit (.string s'.data.toList) from trivial)]
                  have : (s' == s') = true := by cases s' with | mk a => show (a == a) = true; simp
                  rw [this]
                · have hne : (Lit.string s'.data.toList) ≠ .string s.data.toList := fun h => e (by
                    injection h with h
                    cases s'; cases s
                    simp at h; rw [h])
                  rw [Maps.atKey_put_other hne, hg s']
                  have : (s' == s) = false := by
                    cases hb : s' == s with
                    | false => rfl
                    | true =>
                      exfalso; apply e
                      cases s' with | mk a => cases s with | mk c =>
                        have hb : (a == c) = true := hb
                        rw [eq_of_beq hb]
                  rw [this]
      · cases hk
    · cases hk
  · cases hk

theorem fltBin_sound {op : BinOp} {ty : TypeId} {xo yo : Operand} {x y v : AV} {q : Bool} (h : fltBin op x y = some (q, v)) (hq : q = true) {x' y' : Value} (hx : RepA M φ x' x) (hy : RepA M φ y' y) :
    ∃ v', (do eqGuard op ty xo yo x' y'; binOp op ty x' y' : Sem Value).run P w = .ok v' w ∧ RepA M φ v' v := by
  unfold fltBin at h
  split at h
  · rename_i a b
    injection h with h; injection h with h1 h2; subst h2
    rw [← h1] at hq
    obtain ⟨r, hr⟩ := Option.isSome_iff_exists.1 hq
    rw [sval_rep hx, sval_rep hy]
    refine ⟨.float .f64 r, ?_, by rw [hr]; exact .c (.p (.v rfl))⟩
    have hr' : (FloatKind.f64.format).add a b = some r := hr
    simp [eqGuard, binOp, Op.floatArith, hr']
  · rename_i a b c d
    injection h with h; injection h with h1 h2; subst h2
    rw [← h1, Bool.and_eq_true] at hq
    obtain ⟨r, hr⟩ := Option.isSome_iff_exists.1 hq.1
    obtain ⟨s, hs⟩ := Option.isSome_iff_exists.1 hq.2
    rw [sval_rep hx, sval_rep hy]
    refine ⟨.complex .f64 r s, ?_, by rw [hr, hs]; exact .c (.p (.v rfl))⟩
    have hr' : (FloatKind.f64.format).add a c = some r := hr
    have hs' : (FloatKind.f64.format).add b d = some s := hs
    simp [eqGuard, binOp, Op.complexOp, Op.Complex.arith, Op.floatArith, hr', hs']
  · cases h
theorem fltConv_sound {src dst : TypeId} {x v : AV} {q : Bool} (h : fltConv P src dst x = some (q, v)) (hq : q = true) {x' : Value} (hx : RepA M φ x' x) :
    ∃ v', (convert src dst x').run P w = .ok v' w ∧ RepA M φ v' v := by
  unfold fltConv at h
  split at h
  · rename_i k a hs hd
    injection h with h; injection h with h1 h2; subst h2
    rw [← h1] at hq
    rw [sval_rep hx]
    unfold inKind at hq
    split at hq
    · rename_i n hn
      have hb := decide_eq_true_iff.1 hq
      refine ⟨.int k n, ?_, by rw [hn]; exact .c (.p (.v rfl))⟩
      have hn' : (FloatKind.f64.decode a).toInt .zero = some n := hn
      simp [convert, run_underlying hs, run_underlying hd, Conv.floatToInt, hn', hb]
    · cases hq
  · cases h

/-- What an operation did. -/
def Did (P : Program) (o : Oper) (a : Act) (w : World) (v' : Value) (w' : World) : Prop :=
  (execOp a.eval o).run P w = .ok (.value v') w' ∨ ((execOp a.eval o).run P w = .ok .skip w' ∧ v' = undef)

theorem RepA.bool {v' : Value} {q : Bool} (hx : RepA M φ v' (.c (.p (.v (.bool q))))) : v' = .bool q := sval_rep hx

theorem capsOf_rep : ∀ {xs : List AV} {cs : List CV} {vs : List Value}, capsOf xs = some cs → RepL M φ vs xs → RepCs M φ vs cs
  | [], cs, vs, hc, hr => by simp [capsOf] at hc; subst hc; rw [hr.nil_inv]; exact RepCs.nil
  | .c x :: xs, cs, vs, hc, hr => by
    simp only [capsOf] at hc
    split at hc
    · rename_i r hr'
      injection hc with hc; subst hc
      obtain ⟨v, vs', rfl, hv, hvs⟩ := hr.uncons
      cases hv with
      | c hv => exact RepCs.cons hv (capsOf_rep hr' hvs)
    · cases hc
  | .agg _ :: _, _, _, hc, _ => by simp [capsOf] at hc
  | .tup _ :: _, _, _, hc, _ => by simp [capsOf] at hc
  | .top :: _, _, _, hc, _ => by simp [capsOf] at hc

theorem nilChk_run {x : AV} {x' : Value} (hx : RepA M φ x' x) (hk : nilChk x = true) : (∃ a, x' = .pointer (some a)) ∨ (∃ t v, x' = .iface t v) ∨ ∃ f l cs, x' = .func (.func f) l cs := by
  unfold nilChk at hk
  split at hk
  · cases hx with | c hx => cases hx with | ptr => exact .inl ⟨_, rfl⟩
  · cases hx with | c hx => cases hx with | ep => exact .inl ⟨_, rfl⟩
  · cases hx with | c hx => cases hx with | ip => exact .inl ⟨_, rfl⟩
  · cases hx with | c hx => cases hx with | fn => exact .inr (.inr ⟨_, _, _, rfl⟩)
  · cases hx with | c hx => cases hx with | p hx => cases hx with | ifc => exact .inr (.inl ⟨_, _, rfl⟩)
  · cases hx with | c hx => cases hx with | p hx => cases hx with | ifa => exact .inr (.inl ⟨_, _, rfl⟩)
  · rw [sval_rep hx]; exact .inr (.inr ⟨_, _, _, rfl⟩)
  · cases hk

theorem xop_sound {o : Oper} {N : Nat} {t : Tm} {a : Act} {k : KV α} {kp : PV → Option α} {r : α} (hR : Rel P S w0 M0 M φ h w) (hT : TRel M φ N t a) (hk : xop P h h.length o t k kp = some r) :
    (∃ v d v' w', k v d = some r ∧ Did P o a w v' w' ∧ Leaves P S w0 M0 M φ h d v' v w') ∨
    (∃ x v', kp x = some r ∧ (execOp a.eval o).run P w = .halt (.panic v') w ∧ RepP M v' x) := by
  have liftV : ∀ {s : Sem Value}, execOp a.eval o = (do pure (.value (← s)) : Sem Next) → (∃ v d v' w', k v d = some r ∧ s.run P w = .ok v' w' ∧ Leaves P S w0 M0 M φ h d v' v w') →
      (∃ v d v' w', k v d = some r ∧ Did P o a w v' w' ∧ Leaves P S w0 M0 M φ h d v' v w') ∨ (∃ x v', kp x = some r ∧ (execOp a.eval o).run P w = .halt (.panic v') w ∧ RepP M v' x) := by
    rintro s he ⟨v, d, v', w', h1, h2, h3⟩
    exact .inl ⟨v, d, v', w', h1, .inl (by rw [he]; simp [h2]), h3⟩
  have same : ∀ {s : Sem Value} {v : AV} {v' : Value}, execOp a.eval o = (do pure (.value (← s)) : Sem Next) → k v [] = some r → s.run P w = .ok v' w → RepA M φ v' v →
      (∃ v d v' w', k v d = some r ∧ Did P o a w v' w' ∧ Leaves P S w0 M0 M φ h d v' v w') ∨ (∃ x v', kp x = some r ∧ (execOp a.eval o).run P w = .halt (.panic v') w ∧ RepP M v' x) := by
    intro s v v' he h1 h2 h3
    exact liftV he ⟨v, [], v', w, h1, h2, Leaves.same hR h3⟩
  have hparts : ∀ parts : Array (Nat × Operand), (parts.toList.map fun q => (q.1, a.eval q.2)).length = (parts.toList.map fun q => (q.1, ev t q.2)).length ∧ ∀ (j : Nat) (x : Nat × Value) (y : Nat × AV), (parts.toList.map fun q => (q.1, a.eval q.2))[j]? = some x → (parts.toList.map fun q => (q.1, ev t q.2))[j]? = some y → x.1 = y.1 ∧ RepA M φ x.2 y.2 := by
    intro parts
    refine ⟨by simp, fun j x y hx hy => ?_⟩
    rw [List.getElem?_map] at hx hy
    cases hl : parts.toList[j]? with
    | none => rw [hl] at hx; simp at hx
    | some q => rw [hl] at hx hy; simp at hx hy; subst hx hy; exact ⟨rfl, hT.ev q.2⟩
  have hparts' : ∀ parts : Array (Nat × Operand), parts.map (fun q => (q.1, a.eval q.2)) = (parts.toList.map fun q => (q.1, a.eval q.2)).toArray := fun parts => Array.ext' (by rw [Array.toList_map])
  unfold xop at hk
  split at hk
  · rename_i x ho
    exact same (s := pure (a.eval x)) (by unfold execOp; rw [ho]; rfl) hk rfl (hT.ev x)
  · rename_i x ho
    exact same (s := pure (a.eval x)) (by unfold execOp; rw [ho]; rfl) hk rfl (hT.ev x)
  · rename_i c x y ho
    split at hk
    · rename_i q hq
      have hc := hT.ev c
      rw [hq] at hc
      have hb := hc.bool
      cases q with
      | true => exact .inl ⟨_, _, a.eval x, w, hk, .inl (by unfold execOp; rw [ho]; simp [hb, asBool]), Leaves.same hR (hT.ev x)⟩
      | false => exact .inl ⟨_, _, a.eval y, w, hk, .inl (by unfold execOp; rw [ho]; simp [hb, asBool]), Leaves.same hR (hT.ev y)⟩
    · cases hk
  · rename_i e ho
    split at hk
    · rename_i zs hz
      obtain ⟨v', w', h1, h2⟩ := alloc_sound hR hz
      exact liftV (s := Instr.alloc e true (.tuple #[])) (by unfold execOp; rw [ho]) ⟨_, _, v', w', hk, h1, h2⟩
    · cases hk
  · rename_i e x ho
    split at hk
    · rename_i cs hc
      obtain ⟨v', w', h1, h2⟩ := box_sound (e := e) hR (hT.ev x) hc
      exact liftV (s := Instr.box e (a.eval x)) (by unfold execOp; rw [ho]) ⟨_, _, v', w', hk, h1, h2⟩
    · cases hk
  · rename_i ty parts ho
    split at hk
    · rename_i v hv
      obtain ⟨v', h1, h2⟩ := buildAV_sound (w := w) hv (hparts parts).1 (hparts parts).2
      exact liftV (s := Instr.build ty (parts.map fun q => (q.1, a.eval q.2))) (by unfold execOp; rw [ho]) ⟨_, _, v', w, hk, by rw [hparts' parts]; exact h1, Leaves.same hR h2⟩
    · cases hk
  · rename_i ty n parts ho
    obtain ⟨v, d, v', w', h0, h1, h2⟩ := buildRow_sound hR hk (hparts parts).1 (hparts parts).2
    exact liftV (s := Instr.buildSlice ty n (parts.map fun q => (q.1, a.eval q.2))) (by unfold execOp; rw [ho]) ⟨v, d, v', w', h0, by rw [hparts' parts]; exact h1, h2⟩
  · rename_i ty x ho
    obtain ⟨v, u, h0, h1, h2⟩ := loadAV_sound hR hk (hT.ev x)
    exact liftV (s := Instr.loadAt ty (a.eval x)) (by unfold execOp; rw [ho]) ⟨v, [], u, w, h0, h1, Leaves.same hR h2⟩
  · rename_i ty x y ho
    obtain ⟨v, d, w', h0, h1, h2⟩ := storeAV_sound hR hk (hT.ev x) (hT.ev y)
    exact .inl ⟨v, d, undef, w', h0, .inr ⟨by unfold execOp; rw [ho]; simp [h1], rfl⟩, h2⟩
  · rename_i x ho
    split at hk
    · rename_i hn
      refine same (s := pure (a.eval x)) ?_ hk rfl (hT.ev x)
      unfold execOp; rw [ho]
      rcases nilChk_run (hT.ev x) hn with ⟨y, e⟩ | ⟨ty, y, e⟩ | ⟨f, l, cs, e⟩ <;> simp only [e] <;> rfl
    · cases hk
  · rename_i op ty x y yt ho
    split at hk
    · rename_i q v hf
      obtain ⟨hq, hk⟩ := chk_inv hk
      obtain ⟨v', h1, h2⟩ := fltBin_sound (P := P) (w := w) (ty := ty) (xo := x) (yo := y) hf hq (hT.ev x) (hT.ev y)
      exact liftV (s := (do eqGuard op ty x y (a.eval x) (a.eval y); binOp op ty (a.eval x) (a.eval y))) (by unfold execOp; rw [ho]) ⟨_, _, v', w, hk, h1, Leaves.same hR h2⟩
    · exact liftV (s := (do eqGuard op ty x y (a.eval x) (a.eval y); binOp op ty (a.eval x) (a.eval y))) (by unfold execOp; rw [ho]) (binAV_sound hR hk (hT.ev x) (hT.ev y))
  · rename_i ty x ho
    split at hk
    · rename_i q hq
      have hc := hT.ev x
      rw [hq] at hc
      have hb := hc.bool
      exact liftV (s := Op.unary .not (a.eval x)) (by unfold execOp; rw [ho]) ⟨_, _, .bool !q, w, hk, by rw [hb]; rfl, Leaves.same hR (.c (.p (.v rfl)))⟩
    · cases hk
  · rename_i op ty x _ ho
    exact liftV (s := Op.unary op (a.eval x)) (by unfold execOp; rw [ho]) (pure1_sound hR hk (hT.ev x))
  · rename_i src dst x ho
    split at hk
    · rename_i q v hf
      obtain ⟨hq, hk⟩ := chk_inv hk
      obtain ⟨v', h1, h2⟩ := fltConv_sound (w := w) hf hq (hT.ev x)
      exact liftV (s := convert src dst (a.eval x)) (by unfold execOp; rw [ho]) ⟨_, _, v', w, hk, h1, Leaves.same hR h2⟩
    · exact liftV (s := convert src dst (a.eval x)) (by unfold execOp; rw [ho]) (convertAV_sound hR hk (hT.ev x))
  · rename_i ty x ho
    exact liftV (s := Instr.makeInterface ty (a.eval x)) (by unfold execOp; rw [ho]) (ifaceAV_sound hR hk (hT.ev x))
  · rename_i f fs cs ho
    split at hk
    · rename_i hfs
      have hfs : fs = #[] := by simpa using hfs
      subst hfs
      split at hk
      · rename_i hcs
        have hcs : cs = #[] := by simpa using hcs
        subst hcs
        exact same (s := Instr.makeFunc (.func f) #[] #[]) (by unfold execOp; rw [ho]; simp) hk rfl (.c (.p (.v rfl)))
      · split at hk
        · rename_i l hl
          have hrep := capsOf_rep hl (RepL.map cs.toList a.eval (ev t) (fun x => hT.ev x))
          refine same (s := Instr.makeFunc (.func f) #[] (cs.map a.eval)) (v' := .func (.func f) #[] (cs.map a.eval)) (by unfold execOp; rw [ho]; simp) hk rfl (.c ?_)
          have := RepC.fn (f := f) hrep.1 hrep.2
          rwa [show (List.map a.eval cs.toList).toArray = cs.map a.eval from Array.ext' (by rw [Array.toList_map])] at this
        · cases hk
    · cases hk
  · rename_i ty l c ho
    exact liftV (s := Instr.makeSlice ty (a.eval l) (a.eval c)) (by unfold execOp; rw [ho]) (makeSliceAV_sound hR hk (hT.ev l) (hT.ev c))
  · rename_i ty x lo hi ho
    have hopt : ∀ y : Option Operand, (y.map (ev t) = none ∧ y.map a.eval = none) ∨ (∃ p q, y.map (ev t) = some p ∧ y.map a.eval = some q ∧ RepA M φ q p) := by
      intro y
      cases y with
      | none => exact .inl ⟨rfl, rfl⟩
      | some z => exact .inr ⟨_, _, rfl, rfl, hT.ev z⟩
    exact liftV (s := Instr.sliceAt ty (a.eval x) (lo.map a.eval) (hi.map a.eval) none) (by unfold execOp; rw [ho]; rfl) (sliceAV_sound hR hk (hT.ev x) (hopt lo) (hopt hi))
  · rename_i s x f ho
    exact liftV (s := Instr.fieldAt s (a.eval x) f) (by unfold execOp; rw [ho]) (fieldAddrAV_sound hR hk (hT.ev x))
  · rename_i s x f ho
    exact liftV (s := Instr.field s (a.eval x) f) (by unfold execOp; rw [ho]) (fieldAV_sound hR hk (hT.ev x))
  · rename_i ty x i ho
    exact liftV (s := Instr.indexAt ty (a.eval x) (a.eval i)) (by unfold execOp; rw [ho]) (indexAddrAV_sound hR hk (hT.ev x) (hT.ev i))
  · rename_i ty x i ho
    exact liftV (s := Instr.index ty (a.eval x) (a.eval i)) (by unfold execOp; rw [ho]) (indexAV_sound hR hk (hT.ev x) (hT.ev i))
  · rename_i ty x ho
    split at hk
    · rename_i s hu hx
      have hc := hT.ev x
      rw [hx] at hc
      have hb := sval_rep hc
      exact liftV (s := Instr.range ty (a.eval x)) (by unfold execOp; rw [ho]) ⟨_, _, _, _, hk, by rw [hb]; exact run_range_string w ty s hu, iter_new_sound hR⟩
    · cases hk
  · rename_i i ho
    exact liftV (s := Instr.next (a.eval i) true o.type) (by unfold execOp; rw [ho]) (iterNext_sound hR hk (hT.ev i))
  · rename_i ty ho
    exact liftV (s := Instr.makeMap ty none) (by unfold execOp; rw [ho]; rfl) (mapMakeAV_sound hR hk)
  · rename_i ty x i ho
    exact liftV (s := Instr.lookup ty (a.eval x) (a.eval i) false) (by unfold execOp; rw [ho]) (mapLookAV_sound hR hk (hT.ev x) (hT.ev i))
  · rename_i ty x i y ho
    obtain ⟨v, d, w', h0, h1, h2⟩ := mapPutAV_sound hR hk (hT.ev x) (hT.ev i) (hT.ev y)
    exact .inl ⟨v, d, undef, w', h0, .inr ⟨by unfold execOp; rw [ho]; simp [h1], rfl⟩, h2⟩
  · rename_i x xt as ok ho
    exact liftV (s := Instr.typeAssert (a.eval x) xt as ok) (by unfold execOp; rw [ho]) (assertAV_sound hR hk (hT.ev x))
  · rename_i x i ho
    split at hk
    · rename_i vs hvs
      split at hk
      · rename_i v hv
        have hc := hT.ev x
        rw [hvs] at hc
        generalize hx' : a.eval x = x' at hc
        cases hc with
        | tup hl hh =>
          rename_i us
          have hlt : i < vs.length := (List.getElem?_eq_some_iff.1 hv).1
          have hu : us[i]? = some us[i] := List.getElem?_eq_getElem (by omega)
          refine same (s := Instr.extract (a.eval x) i) (v' := us[i]) (by unfold execOp; rw [ho]) hk ?_ (hh i _ v hu hv)
          rw [hx']
          simp [Instr.extract, hu]
      · cases hk
    · cases hk
  · rename_i c ho
    split at hk
    · rename_i bi hbi
      obtain ⟨v, d, v', w', h0, h1, h2⟩ := builtinAV_sound (consts := c.args.map fun | .const _ => true | _ => false) hR hk (RepL.map c.args.toList a.eval (ev t) (fun x => hT.ev x))
      refine .inl ⟨v, d, v', w', h0, .inl ?_, h2⟩
      unfold execOp
      rw [ho]
      simp only [resolve, hbi, Sem.run_bind, Sem.run_pure, Result.andThen_ok, invoke]
      rw [← h1, show (List.map a.eval c.args.toList).toArray = c.args.map a.eval from Array.ext' (by rw [Array.toList_map])]
      rfl
    · cases hk
  · rename_i x ho
    split at hk
    · rename_i y hy
      split at hk
      · rename_i hi
        have hc := hT.ev x
        rw [hy] at hc
        generalize hx' : a.eval x = x' at hc
        cases hc with
        | c hc => cases hc with
          | p hc =>
            refine .inr ⟨_, x', hk, ?_, hc⟩
            have : ∃ t v, x' = .iface t v := by
              cases hc with
              | v => simp [isIface] at hi
              | sl => simp [isIface] at hi
              | ifc => exact ⟨_, _, rfl⟩
              | ifa => exact ⟨_, _, rfl⟩
            obtain ⟨t0, v0, rfl⟩ := this
            unfold execOp
            rw [ho]
            simp [hx', Instr.panic, goPanic, Sem.run]
      · cases hk
    · cases hk
  · cases hk
end
end Go.Fx
