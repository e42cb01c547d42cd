/- The small interpreter's operations against the model's: what is made, cut and indexed. -/
import Derived.Test.YtokdkmlpfkeeaaaFx6
set_option linter.unusedVariables false
set_option linter.unusedSimpArgs false
namespace Go.Fx
open Go.RowKit Go.Lib

section
variable {P : Program} {S : Nat → Prop} {w0 w w' : World} {M0 M M' : Mem} {φ φ' : Phi} {h : Hp} {α : Type}

theorem memNone (hR : Rel P S w0 M0 M φ h w) {b : Nat} (hb : w.heap.size ≤ b) (o : Nat) : M b o = none := by
  cases hM : M b o with
  | none => rfl
  | some v => have := block_lt (hR.agr b o v hM); omega

/-- A new variable. -/
theorem newBox (hR : Rel P S w0 M0 M φ h w) {vs : List Value} {cs : List CV} (e : TypeId) (hr : RepCs M φ vs cs) :
    Leaves P S w0 M0 M φ h [(h.length, .box cs true)] (.pointer (some ⟨w.heap.size, 0, none⟩)) (.c (.ptr h.length 0)) (w.alloc (.cells vs.toArray e)) := by
  have hle := setPhi_upto (x := Loc.box w.heap.size) (dom_none hR)
  refine ⟨M, setPhi φ h.length (.box w.heap.size), .refl _, hle, ?_, .c (.ptr (by unfold setPhi; rw [if_pos rfl]))⟩
  have := hR.push (w' := w.alloc (.cells vs.toArray e)) none none (fun l hl => by cases hl) (fun _ => rfl) (World.grownBy_alloc w _ none) (fun b hb => by cases hb) (o := .box cs true) (x := .box w.heap.size)
    (fun b hb => .inl (by simp [Loc.blk] at hb; omega)) (fun b hb => by simp [Loc.blk] at hb; simp; omega)
    (.box w.heap.size vs e (by unfold setPhi; rw [if_pos rfl]) (heap_alloc_new w _) (hr.mono (.refl _) hle.1) (fun _ o => memNone hR (Nat.le_refl _) o) (by simp))
  simpa [applyD, killed] using this

theorem run_newVar (t : TypeId) (v : Value) : (newVar t v).run P w = .ok ⟨w.heap.size, 0, none⟩ (w.alloc (.cells v.cells t)) := by
  simp [newVar, newRow]

theorem alloc_sound {e : TypeId} {zs : List CV} (hR : Rel P S w0 M0 M φ h w) (hz : zeroCs P e = some zs) :
    ∃ v' w', (Instr.alloc e true (.tuple #[])).run P w = .ok v' w' ∧ Leaves P S w0 M0 M φ h [(h.length, .box zs true)] v' (.c (.ptr h.length 0)) w' := by
  obtain ⟨i, z, hi, hzz, habs⟩ := zeroCs_inv hz
  have hL := newBox hR e (absCs_rep (M := M) (φ := φ) habs)
  refine ⟨_, _, ?_, hL⟩
  simp [Instr.alloc, zeroValue, typeInfo, hi, hzz, run_newVar]

theorem box_sound {e : TypeId} {x : AV} {x' : Value} {cs : List CV} (hR : Rel P S w0 M0 M φ h w) (hx : RepA M φ x' x) (hc : cellsOf x = some cs) :
    ∃ v' w', (Instr.box e x').run P w = .ok v' w' ∧ Leaves P S w0 M0 M φ h [(h.length, .box cs true)] v' (.c (.ptr h.length 0)) w' := by
  obtain ⟨us, hus, hrep⟩ := hx.cells hc
  have hL := newBox hR e hrep
  refine ⟨_, _, ?_, hL⟩
  simp [Instr.box, run_newVar, hus]

/-- Parts are filled in. -/
theorem fill_rep {place : Nat → Option (Nat × Nat)} : ∀ {parts : List (Nat × AV)} {zs cs : List CV} {zv : List Value} {pv : List (Nat × Value)}, fillCs place zs parts = some cs → RepCs M φ zv zs →
    pv.length = parts.length → (∀ (j : Nat) (a : Nat × Value) (b : Nat × AV), pv[j]? = some a → parts[j]? = some b → a.1 = b.1 ∧ RepA M φ a.2 b.2) →
    ∃ cv : List Value, Instr.fill place zv.toArray pv = some cv.toArray ∧ RepCs M φ cv cs
  | [], zs, cs, zv, pv, hf, hz, hl, _ => by
    simp [fillCs] at hf; subst hf
    have : pv = [] := by simpa using hl
    subst this
    exact ⟨zv, rfl, hz⟩
  | (i, x) :: parts, zs, cs, zv, [], hf, hz, hl, _ => by simp at hl
  | (i, x) :: parts, zs, cs, zv, (i', x') :: pv, hf, hz, hl, hp => by
    simp only [fillCs] at hf
    split at hf
    · rename_i off n cx hpl hcx
      split at hf
      · rename_i hc
        obtain ⟨h1, h2⟩ := hp 0 _ _ rfl rfl
        simp only at h1 h2
        subst h1
        obtain ⟨us, hus, hrep⟩ := h2.cells hcx
        have hul : us.length = n := by rw [hrep.1, hc.1]
        have hfit : off + us.length ≤ zv.length := by rw [hul, hz.1]; exact hc.2
        have hrep' : RepCs M φ (placeAt zv off us) (placeAt zs off cx) := by
          unfold placeAt
          have := ((hz.take off).append hrep).append (hz.drop (off + us.length))
          rwa [hrep.1] at this ⊢
        obtain ⟨cv, hcv, hr⟩ := fill_rep hf hrep' (by simpa using hl) (fun j a b ha hb => hp (j + 1) a b ha hb)
        refine ⟨cv, ?_, hr⟩
        unfold Instr.fill
        rw [hpl]
        have hs : x'.cells.size = n := by rw [hus]; simp [hul]
        have hcond : (decide (x'.cells.size ≠ n) || decide (off + x'.cells.size > zv.toArray.size)) = false := by
          simp only [hus, List.size_toArray, hul, ne_eq, not_true, decide_false, Bool.false_or, decide_eq_false_iff_not]
          omega
        simp only [hcond, Bool.false_eq_true, if_false]
        rw [← hcv]
        congr 1
        -- the fold writes the part
        have hfold : ∀ (l : List Value) (k : Nat) (acc : List Value), off + k + l.length ≤ acc.length → (l.zipIdx k).foldl (fun (cs : Array Value) (q : Value × Nat) => cs.setIfInBounds (off + q.2) q.1) acc.toArray = (placeAt acc (off + k) l).toArray := by
          intro l
          induction l with
          | nil => intro k acc _; simp [placeAt]
          | cons v l ih =>
            intro k acc hle
            simp only [List.zipIdx_cons, List.foldl_cons]
            have e1 : acc.toArray.setIfInBounds (off + k) v = (acc.set (off + k) v).toArray := by simp
            rw [e1, ih (k + 1) (acc.set (off + k) v) (by simp at hle ⊢; omega)]
            congr 1
            apply List.ext_getElem?
            intro q
            rw [placeAt_get _ _ _ (by simp at hle ⊢; omega), placeAt_get _ _ _ (by simp at hle ⊢; omega)]
            simp at hle
            by_cases h1 : q < off + k
            · rw [if_pos (by omega), if_pos h1, List.getElem?_set_ne (by omega)]
            · by_cases h2 : q = off + k
              · subst h2
                rw [if_pos (by omega), if_neg (by omega), if_pos (by simp), List.getElem?_set_self (by omega)]
                simp
              · rw [if_neg (by omega), if_neg h1]
                by_cases h3 : q < off + k + 1 + l.length
                · rw [if_pos (by omega), if_pos (by simp; omega)]
                  rw [show q - (off + k) = (q - (off + (k + 1))) + 1 by omega]
                  simp
                · rw [if_neg (by omega), if_neg (by simp; omega), List.getElem?_set_ne (by omega)]
        have := hfold us 0 zv (by simpa using hfit)
        simp only [Nat.add_zero] at this
        rw [hus]
        rw [← this]
        have hz2 : us.mapIdx (fun i a => (a, i)) = us.zipIdx := by apply List.ext_getElem?; intro q; simp
        simp [Array.zipIdx, hz2]
      · cases hf
    · cases hf

theorem szOf_info {t n : Nat} (h : szOf P t = some n) : ∃ i, P.info? t = some i ∧ i.size = n := by
  unfold szOf at h
  split at h
  · rename_i i hi
    injection h with h
    exact ⟨i, hi, h⟩
  · cases h

theorem zero_run {t : TypeId} {zs : List CV} (hz : zeroCs P t = some zs) : ∃ z, (∀ w, (zeroValue t).run P w = .ok z w) ∧ RepCs M φ z.cells.toList zs := by
  obtain ⟨i, z, hi, hzz, habs⟩ := zeroCs_inv hz
  exact ⟨z, fun w => by simp [zeroValue, typeInfo, hi, hzz], absCs_rep habs⟩

theorem mapM_places (fields : List Field) (w : World) (hall : ∀ f ∈ fields, ∃ n, szOf P f.type = some n) : ∃ l : List (Nat × Nat), (fields.mapM fun f => (do pure (f.offset, ← sizeOf f.type) : Sem (Nat × Nat))).run P w = .ok l w ∧ l.length = fields.length ∧
    ∀ (j : Nat) (f : Field), fields[j]? = some f → ∃ n, szOf P f.type = some n ∧ l[j]? = some (f.offset, n) := by
  induction fields with
  | nil => exact ⟨[], rfl, rfl, fun j f hf => by simp at hf⟩
  | cons f fs ih =>
    obtain ⟨l, h1, h2, h3⟩ := ih (fun g hg => hall g (List.mem_cons_of_mem _ hg))
    obtain ⟨n, hn⟩ := hall f List.mem_cons_self
    refine ⟨(f.offset, n) :: l, ?_, by simp [h2], fun j g hg => ?_⟩
    · simp only [List.mapM_cons, Sem.run_bind, szOf_run hn, Result.andThen_ok, Sem.run_pure, h1]
    · cases j with
      | zero => simp at hg; subst hg; exact ⟨n, hn, rfl⟩
      | succ j => simp at hg; obtain ⟨m, hm, hl⟩ := h3 j g hg; exact ⟨m, hm, by simpa using hl⟩

theorem run_places {fields : Array Field} (hall : fieldsOk P fields = true) (w : World) : ∃ pl : Array (Nat × Nat), (fields.mapM fun f => (do pure (f.offset, ← sizeOf f.type) : Sem (Nat × Nat))).run P w = .ok pl w ∧
    ∀ i : Nat, ∀ q, fieldPlaces P fields i = some q → pl[i]? = some q := by
  unfold fieldsOk at hall
  rw [List.all_eq_true] at hall
  obtain ⟨l, h1, h2, h3⟩ := mapM_places (P := P) fields.toList w (fun f hf => by
    have := hall f hf
    cases h : szOf P f.type with
    | none => rw [h] at this; simp at this
    | some n => exact ⟨n, rfl⟩)
  refine ⟨l.toArray, ?_, fun i q hq => ?_⟩
  · rw [Array.mapM_eq_mapM_toList, Sem.run_map, h1]
    rfl
  · unfold fieldPlaces at hq
    split at hq
    · rename_i f hf
      split at hq
      · rename_i n hn
        injection hq with hq
        obtain ⟨m, hm, hl⟩ := h3 i f (by simpa using hf)
        rw [hn] at hm; injection hm with hm; subst hm
        rw [← hq]
        simpa using hl
      · cases hq
    · cases hq

theorem fill_places {place place' : Nat → Option (Nat × Nat)} (hp : ∀ i q, place i = some q → place' i = some q) : ∀ (parts : List (Nat × Value)) (zs : Array Value) {cs : Array Value}, Instr.fill place zs parts = some cs → Instr.fill place' zs parts = some cs
  | [], zs, cs, h => h
  | (i, v) :: r, zs, cs, h => by
    unfold Instr.fill at h ⊢
    split at h
    · cases h
    · rename_i off n hpl
      rw [hp i _ hpl]
      simp only
      split at h
      · cases h
      · rename_i hc
        rw [if_neg hc]
        exact fill_places hp r _ h

theorem buildAV_sound {t : TypeId} {parts : List (Nat × AV)} {v : AV} (hk : buildAV P t parts = some v) {pv : List (Nat × Value)}
    (hl : pv.length = parts.length) (hp : ∀ (j : Nat) (a : Nat × Value) (b : Nat × AV), pv[j]? = some a → parts[j]? = some b → a.1 = b.1 ∧ RepA M φ a.2 b.2) :
    ∃ v', (Instr.build t pv.toArray).run P w = .ok v' w ∧ RepA M φ v' v := by
  unfold buildAV at hk
  split at hk
  · rename_i zs fields hz hu
    split at hk
    · rename_i cs hfo hf
      injection hk with hk; subst hk
      obtain ⟨z, hzr, hzrep⟩ := zero_run (M := M) (φ := φ) hz
      obtain ⟨cv, hcv, hr⟩ := fill_rep hf hzrep hl hp
      obtain ⟨pl, hpl, hpls⟩ := run_places hfo w
      have h2 := fill_places (place' := fun i => pl[i]?) hpls _ _ hcv
      refine ⟨.agg cv.toArray, ?_, .agg hr⟩
      simp only [Instr.build, Sem.run_bind, hzr, Result.andThen_ok, run_underlying hu, hpl]
      simp only [Array.toArray_toList] at h2
      rw [h2]
      rfl
    · cases hk
  · rename_i zs n e hz hu
    split at hk
    · rename_i sz hsz
      split at hk
      · rename_i cs hf
        injection hk with hk; subst hk
        obtain ⟨z, hzr, hzrep⟩ := zero_run (M := M) (φ := φ) hz
        obtain ⟨cv, hcv, hr⟩ := fill_rep hf hzrep hl hp
        refine ⟨.agg cv.toArray, ?_, .agg hr⟩
        simp only [Instr.build, Sem.run_bind, hzr, Result.andThen_ok, run_underlying hu, szOf_run hsz]
        simp only [Array.toArray_toList] at hcv
        rw [hcv]
        rfl
      · cases hk
    · cases hk
  · cases hk

theorem intOf_rep {x : AV} {n : Int} {x' : Value} (h : intOf? x = some n) (hx : RepA M φ x' x) : ∃ k, x' = .int k n := by
  unfold intOf? at h
  split at h
  · injection h with h; subst h
    cases hx with
    | c hx => cases hx with
      | p hx => cases hx with
        | v _ => exact ⟨_, rfl⟩
  · cases h
theorem boundOf_rep {d : Int} {x : Option AV} {n : Int} {x' : Option Value} (h : boundOf? d x = some n) (hx : (x = none ∧ x' = none) ∨ (∃ a b, x = some a ∧ x' = some b ∧ RepA M φ b a)) : (x' = none ∧ n = d) ∨ ∃ k, x' = some (.int k n) := by
  rcases hx with ⟨rfl, rfl⟩ | ⟨a, b, rfl, rfl, hx⟩
  · simp [boundOf?] at h; exact .inl ⟨rfl, h.symm⟩
  · obtain ⟨k, rfl⟩ := intOf_rep h hx
    exact .inr ⟨k, rfl⟩

theorem bounds_run {isS : Bool} {len cap : Nat} {lo hi : Option Value} {l r : Int} (hl : (lo = none ∧ l = 0) ∨ ∃ k, lo = some (.int k l)) (hr : (hi = none ∧ r = len) ∨ ∃ k, hi = some (.int k r)) (h0 : 0 ≤ l) (h1 : l ≤ r) (h2 : r ≤ len) (h3 : len ≤ cap) :
    (Instr.sliceBounds isS len cap lo hi none).run P w = .ok (l.toNat, r.toNat, cap) w := by
  have hb : ∀ (k : IntKind) (i : Int) (y : Nat) (code : BoundsCode), 0 ≤ i → i ≤ y → (Instr.sliceBound (.int k i) y code).run P w = .ok i.toNat w := fun k i y code a b => run_sliceBound w k i y code a b
  rcases hr with ⟨rfl, rfl⟩ | ⟨kr, rfl⟩
  · rcases hl with ⟨rfl, rfl⟩ | ⟨kl, rfl⟩
    · simp [Instr.sliceBounds]
    · simp [Instr.sliceBounds, hb kl l len _ h0 h1]
  · have e : ((r.toNat : Nat) : Int) = r := Int.toNat_of_nonneg (by omega)
    rcases hl with ⟨rfl, rfl⟩ | ⟨kl, rfl⟩
    · simp [Instr.sliceBounds, hb kr r cap _ (by omega) (by omega)]
    · simp [Instr.sliceBounds, hb kr r cap _ (by omega) (by omega), hb kl l r.toNat _ h0 (by omega)]

theorem sliceAV_sound {t : TypeId} {x : AV} {lo hi : Option AV} {k : KV α} {r : α} (hR : Rel P S w0 M0 M φ h w) (hk : sliceAV P h t x lo hi k = some r) {x' : Value} (hx : RepA M φ x' x) {lo' hi' : Option Value}
    (hlo : (lo = none ∧ lo' = none) ∨ (∃ a b, lo = some a ∧ lo' = some b ∧ RepA M φ b a)) (hhi : (hi = none ∧ hi' = none) ∨ (∃ a b, hi = some a ∧ hi' = some b ∧ RepA M φ b a)) :
    ∃ v d v' w', k v d = some r ∧ (Instr.sliceAt t x' lo' hi' none).run P w = .ok v' w' ∧ Leaves P S w0 M0 M φ h d v' v w' := by
  unfold sliceAV at hk
  split at hk
  · rename_i s hu
    split at hk
    · rename_i l r' hl hr
      obtain ⟨⟨h0, h1, h2⟩, hk⟩ := chk_inv hk
      cases hx with
      | c hx => cases hx with
        | p hx => cases hx with
          | v _ =>
            refine ⟨_, _, .string (s.extract l.toNat r'.toNat), w, hk, ?_, Leaves.same hR (.c (.p (.v rfl)))⟩
            have hb := bounds_run (P := P) (w := w) (isS := false) (boundOf_rep hl hlo) (boundOf_rep hr hhi) h0 h1 h2 (Nat.le_refl _)
            simp [Instr.sliceAt, run_underlying hu, Instr.slice, hb]
    · cases hk
  · rename_i e s hu
    split at hk
    · cases hk
    · rename_i hstr
      split at hk
      · rename_i n f hel
        split at hk
        · rename_i l r' sz hl hr hsz
          split at hk
          · rename_i hf0
            obtain ⟨⟨h0, h1, h2⟩, hk⟩ := chk_inv hk
            cases hx with
            | c hx =>
              obtain ⟨N, hMN, hRN, hrep⟩ := freeze_sound hR (by simpa using hstr) hel hx
              cases hrep with
              | sl a cap b o sz' c hn ha hl' hM hc =>
                have hb := bounds_run (P := P) (w := w) (isS := true) (boundOf_rep hl hlo) (boundOf_rep hr hhi) h0 h1 h2 hn
                refine ⟨_, _, .slice (if cap = l.toNat then a else a.map (·.add (l.toNat * sz))) (r'.toNat - l.toNat) (cap - l.toNat), w, hk, ?_, N, φ, hMN, .refl _, hRN, .c (.p ?_)⟩
                · simp [Instr.sliceAt, run_underlying hu, Instr.slice, hb, szOf_run hsz]
                · have hcase : 0 < r'.toNat - l.toNat → sz' = sz ∧ a = some ⟨b, o, none⟩ ∧ cap ≠ l.toNat := by
                    intro hpos
                    have hnpos : 0 < n := by omega
                    refine ⟨?_, ha hnpos, by omega⟩
                    rcases hf0 with h5 | h5
                    · rw [← h5]; exact (hl' 0 hnpos).symm
                    · omega
                  refine .sl _ _ b (o + l.toNat * sz) sz' (fun i j => c (i + l.toNat) j) (by omega) (fun hpos => ?_) (fun i hi => hl' _ (by omega)) (fun i j hi hj => ?_) (fun i j x hi hx => hc _ j x (by omega) hx)
                  · obtain ⟨e1, e2, e3⟩ := hcase hpos
                    rw [if_neg e3, e2]
                    simp [add_at]
                  · obtain ⟨e1, e2, e3⟩ := hcase (by omega)
                    subst e1
                    have := hM (i + l.toNat) j (by omega) hj
                    rw [← this]
                    congr 1
                    rw [Nat.add_mul]; omega
          · cases hk
        · cases hk
      · cases hk
  · rename_i n e l off hu
    split at hk
    · rename_i sz hsz
      rcases hlo with ⟨_, rfl⟩ | ⟨a, b, h1, _⟩
      · rcases hhi with ⟨_, rfl⟩ | ⟨a, b, h1, _⟩
        · cases hx with
          | c hx =>
            cases hx with
            | ptr hφ =>
              refine ⟨_, _, .slice (some ⟨_, off, none⟩) n n, w, hk, ?_, Leaves.same hR (.c (.bs hφ (Nat.le_refl _)))⟩
              by_cases hn : n = 0
              · subst hn
                simp [Instr.sliceAt, run_underlying hu, Instr.sureAddr, Instr.sliceBounds, szOf_run hsz]
              · simp [Instr.sliceAt, run_underlying hu, Instr.sureAddr, Instr.sliceBounds, szOf_run hsz, hn, Addr.add]
        · cases h1
      · cases h1
    · rename_i sz y hsz
      split at hk
      · rename_i r' hr
        obtain ⟨⟨h0, h2⟩, hk⟩ := chk_inv hk
        rcases hlo with ⟨_, rfl⟩ | ⟨a, b, h1, _⟩
        · rcases hhi with ⟨h1, _⟩ | ⟨a, b, h1, rfl, hy⟩
          · cases h1
          · injection h1 with h1
            subst h1
            obtain ⟨kk, rfl⟩ := intOf_rep hr hy
            cases hx with
            | c hx =>
              cases hx with
              | ptr hφ =>
                have hb := fun q => bounds_run (P := P) (w := w) (isS := q) (len := n) (cap := n) (lo := none) (hi := some (.int kk r')) (.inl ⟨rfl, rfl⟩) (.inr ⟨kk, rfl⟩) (Int.le_refl 0) h0 h2 (Nat.le_refl _)
                refine ⟨_, _, .slice (some ⟨_, off, none⟩) r'.toNat n, w, hk, ?_, Leaves.same hR (.c (.bs hφ (by omega)))⟩
                by_cases hn : n = 0
                · subst hn
                  simp [Instr.sliceAt, run_underlying hu, Instr.sureAddr, hb, szOf_run hsz]
                · simp [Instr.sliceAt, run_underlying hu, Instr.sureAddr, hb, szOf_run hsz, hn, Addr.add]
        · cases h1
      · cases hk
    · cases hk
  · cases hk
end
end Go.Fx
