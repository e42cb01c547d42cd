/- Calls against the model; and one operation, a call or not. -/
import Derived.Test.YtokdkmlpfkeeaaaFx16
set_option linter.unusedVariables false
set_option linter.unusedSimpArgs false
namespace Go.Fx

section
variable {P : Program} {S : Nat → Prop} {w0 w w' : World} {M0 M M' : Mem} {φ φ' : Phi} {h : Hp} {α : Type}

theorem applyD_len : ∀ (d : Dl) (h : Hp), (∀ q ∈ d, q.1 < h.length) → (applyD h d).length = h.length
  | [], h, _ => rfl
  | (l, o) :: d, h, hd => by
    simp only [applyD]
    have hl : l < h.length := hd (l, o) List.mem_cons_self
    rw [if_pos hl, applyD_len d _ (fun q hq => by rw [List.length_set]; exact hd q (List.mem_cons_of_mem _ hq)), List.length_set]
theorem frzC1_lt (h : Hp) (x : CV) : ∀ q ∈ frzC1 h x, q.1 < h.length := by
  intro q hq
  unfold frzC1 at hq
  split at hq
  · split at hq
    · unfold frozenBy at hq
      split at hq
      · split at hq
        · rename_i hl
          simp at hq; subst hq; exact (List.getElem?_eq_some_iff.1 hl).1
        · cases hq
      · split at hq
        · rename_i hl
          simp at hq; subst hq; exact (List.getElem?_eq_some_iff.1 hl).1
        · cases hq
      · cases hq
    · cases hq
  · cases hq
theorem frzDs_lt (h : Hp) : ∀ (xs : List CV), ∀ q ∈ frzDs h xs, q.1 < h.length
  | [], q, hq => by simp [frzDs] at hq
  | x :: xs, q, hq => by
    simp only [frzDs, List.mem_append] at hq
    rcases hq with hq | hq
    · exact frzC1_lt h x q hq
    · exact frzDs_lt h xs q hq
mutual
theorem frzD_lt (h : Hp) : ∀ (x : AV), ∀ q ∈ frzD h x, q.1 < h.length
  | .c x, q, hq => frzC1_lt h x q (by simpa only [frzD] using hq)
  | .agg cs, q, hq => frzDs_lt h cs q (by simpa only [frzD] using hq)
  | .tup vs, q, hq => frzDL_lt h vs q (by simpa only [frzD] using hq)
  | .top, q, hq => by simp [frzD] at hq
theorem frzDL_lt (h : Hp) : ∀ (xs : List AV), ∀ q ∈ frzDL h xs, q.1 < h.length
  | [], q, hq => by simp [frzDL] at hq
  | x :: xs, q, hq => by
    simp only [frzDL, List.mem_append] at hq
    rcases hq with hq | hq
    · exact frzD_lt h x q hq
    · exact frzDL_lt h xs q hq
end
theorem frzDL_length (h : Hp) (args : List AV) : (applyD h (frzDL h args)).length = h.length := applyD_len _ _ (frzDL_lt h args)

/-- A call's answer, back at the caller. -/
theorem back_sound {h1 : Hp} {args vs : List AV} {hl : Hp} {ns : List Nat} {ans : Ans} {e : Ending} (L : Local 0 args h1 vs hl ns) (hR : Rel P S w0 M0 M φ h1 w) (hC : CallR P M (phiOf φ ns) hl w ans e w') :
    ∃ M' φn, M.le M' ∧ φ.upto h1.length φn ∧ Rel P S w0 M0 M' φn (applyD h1 (backD (backName ns h1.length) ans.h)) w' ∧
      EndR M' φn ans.e (ans.vals.map (AV.ren (backName ns h1.length))) e := by
  obtain ⟨M', φ', hM, hup, hRc, hlen, hend⟩ := hC
  rw [L.len] at hlen hup
  obtain ⟨s, hs⟩ : ∃ s, s = backName ns h1.length := ⟨_, rfl⟩
  rw [← hs]
  have s1 : ∀ i l, ns[i]? = some l → s i = l := fun i l hi => by rw [hs]; simp [backName, hi]
  have s2 : ∀ i, ns.length ≤ i → s i = h1.length + (i - ns.length) := fun i hi => by rw [hs]; simp [backName, List.getElem?_eq_none hi]
  have hlt : ∀ i l, ns[i]? = some l → l < h1.length := fun i l hi => L.lt l (List.mem_of_getElem? hi)
  have hsl : ∀ i, i < ns.length → s i < h1.length := fun i hi => by rw [s1 i _ (List.getElem?_eq_getElem hi)]; exact hlt i _ (List.getElem?_eq_getElem hi)
  have hinj : ∀ i j, i < ans.h.length → j < ans.h.length → s i = s j → i = j := by
    intro i j _ _ he
    by_cases hi : i < ns.length
    · by_cases hj : j < ns.length
      · rw [s1 i _ (List.getElem?_eq_getElem hi), s1 j _ (List.getElem?_eq_getElem hj)] at he
        exact (List.getElem_inj L.nodup).1 he
      · have h2 := hsl i hi
        have h3 := s2 j (by omega)
        omega
    · by_cases hj : j < ns.length
      · have h2 := hsl j hj
        have h3 := s2 i (by omega)
        omega
      · have h2 := s2 i (by omega)
        have h3 := s2 j (by omega)
        omega
  obtain ⟨b1, b2, b3⟩ := applyD_back s ans.h 0 h1 ns.length h1.length (fun j _ hj => by rw [Nat.zero_add] at hj ⊢; exact hsl j hj) (fun j _ hj => by rw [Nat.zero_add] at hj ⊢; exact s2 j hj) (by simp) (Nat.le_refl _)
    (fun j k hj hk he => hinj j k hj hk (by simpa using he))
  have hbd : backD s ans.h = (zipIx 0 ans.h).map fun q => (s q.1, q.2.ren s) := rfl
  rw [← hbd] at b1 b2 b3
  simp only [Nat.zero_add] at b1 b2 b3
  obtain ⟨φn, hφn⟩ : ∃ φn : Phi, φn = fun l => if l < h1.length then φ l else φ' (ns.length + (l - h1.length)) := ⟨_, rfl⟩
  have n1 : ∀ l, l < h1.length → φn l = φ l := fun l hl => by rw [hφn]; exact if_pos hl
  have n2 : ∀ l, h1.length ≤ l → φn l = φ' (ns.length + (l - h1.length)) := fun l hl => by rw [hφn]; exact if_neg (by omega)
  have hφ' : ∀ i x, φ' i = some x → φn (s i) = some x := by
    intro i x hx
    by_cases hi : i < ns.length
    · have hg := List.getElem?_eq_getElem hi
      rw [s1 i _ hg, n1 _ (hlt i _ hg)]
      rw [hup i hi] at hx
      simpa [phiOf, hg] using hx
    · rw [s2 i (by omega), n2 _ (by omega)]
      rw [show ns.length + (h1.length + (i - ns.length) - h1.length) = i by omega]; exact hx
  refine ⟨M', φn, hM, ⟨fun l x hx => by rw [n1 l (hR.dom l x hx)]; exact hx, n1⟩, hR.merge (F := (· ∈ ns)) hRc ?_ hinj ?_ ?_ hφ' ?_, ?_⟩
  · rintro b ⟨i, o', x, hi, ha, hx, hb⟩
    have hil : i < ns.length := by rw [← L.len]; exact (List.getElem?_eq_some_iff.1 hi).1
    obtain ⟨o, ho, ho2⟩ := L.obj i ns[i] (List.getElem?_eq_getElem hil)
    rw [hi] at ho2; injection ho2 with ho2
    subst ho2
    rw [Ob.alive_ren] at ha
    exact ⟨ns[i], o, x, List.getElem_mem hil, ho, ha, by simpa [phiOf, List.getElem?_eq_getElem hil] using hx, hb⟩
  · intro l o hl ha
    have hll : l < (applyD h1 (backD s ans.h)).length := (List.getElem?_eq_some_iff.1 hl).1
    by_cases hex : ∃ j, j < ans.h.length ∧ l = s j
    · obtain ⟨j, hj, rfl⟩ := hex
      refine .inl ⟨j, ans.h[j], rfl, List.getElem?_eq_getElem hj, ?_⟩
      have := b2 j _ (List.getElem?_eq_getElem hj)
      rw [hl] at this
      injection this
    · obtain ⟨c1, c2⟩ := b3 l hll (fun j hj he => hex ⟨j, hj, he⟩)
      refine .inr ⟨fun hF => ?_, by rw [← c2]; exact hl⟩
      obtain ⟨j, hj⟩ := List.mem_iff_getElem?.1 hF
      have hjl := (List.getElem?_eq_some_iff.1 hj).1
      exact hex ⟨j, by omega, (s1 j l hj).symm⟩
  · exact fun l x hx => by rw [n1 l (hR.dom l x hx)]; exact hx
  · intro l x hx
    rw [b1]
    by_cases hl : l < h1.length
    · omega
    · rw [n2 l (by omega)] at hx
      have := hRc.dom _ _ hx
      omega
  · cases hee : ans.e with
    | ret =>
      rw [hee] at hend
      cases hv : ans.vals with
      | nil => rw [hv] at hend; exact hend.elim
      | cons x xs =>
        cases xs with
        | nil =>
          rw [hv] at hend
          cases e with
          | returned v => exact RepA.ren s hend (fun l _ => hφ' l)
          | _ => exact hend.elim
        | cons y ys => rw [hv] at hend; exact hend.elim
    | pan x =>
      rw [hee] at hend
      cases hv : ans.vals with
      | nil =>
        rw [hv] at hend
        cases e with
        | panicked ch => exact hend
        | _ => exact hend.elim
      | cons y ys => rw [hv] at hend; exact hend.elim
    | normal => rw [hee] at hend; exact hend.elim
    | exit i => rw [hee] at hend; exact hend.elim

/-- What a call leaves: a value, or a panic. -/
def CallLeaves (P : Program) (S : Nat → Prop) (w0 : World) (M0 M : Mem) (φ : Phi) (h : Hp) (d : Dl) (x : AV ⊕ PV) (e : Ending) (w' : World) : Prop :=
  ∃ M' φ', M.le M' ∧ φ.upto h.length φ' ∧ Rel P S w0 M0 M' φ' (applyD h d) w' ∧
    match x, e with
    | .inl x, .returned v => RepA M' φ' v x
    | .inr y, .panicked ch => ∃ v, ch = [{ v, recovered := false }] ∧ RepP M' v y
    | _, _ => False

theorem doCall_sound {C : Cfg} {O : Orc α} (hO : Honest P C O) {f : FuncId} {args : List AV} {k : KV α} {kp : PV → Dl → Option α} {r : α} (hk : doCall C O f args h k kp = some r) :
    ∃ (x : AV ⊕ PV) (d : Dl), (match x with | .inl v => k v d = some r | .inr y => kp y d = some r) ∧
      ∀ (S : Nat → Prop) (w0 : World) (M0 M : Mem) (φ : Phi) (w : World) (xs : List Value), Rel P S w0 M0 M φ h w → RepL M φ xs args → Does P f xs.toArray w (CallLeaves P S w0 M0 M φ h d x) := by
  have main : ∀ (own : Bool) (args1 : List AV) (h1 : Hp) (d0 : Dl), h1 = applyD h d0 → h1.length = h.length → (d0 = if own then [] else frzDL h args) →
      (∀ (S : Nat → Prop) (w0 : World) (M0 M : Mem) (φ : Phi) (w : World) (xs : List Value), Rel P S w0 M0 M φ h w → RepL M φ xs args → ∃ N, M.le N ∧ Rel P S w0 M0 N φ h1 w ∧ RepL N φ xs args1) →
      ∀ vs hl ns, localize 0 args1 h1 = some (vs, hl, ns) → O (.call f vs hl) (afterCall own args h ns k kp) = some r →
      ∃ (x : AV ⊕ PV) (d : Dl), (match x with | .inl v => k v d = some r | .inr y => kp y d = some r) ∧
        ∀ (S : Nat → Prop) (w0 : World) (M0 M : Mem) (φ : Phi) (w : World) (xs : List Value), Rel P S w0 M0 M φ h w → RepL M φ xs args → Does P f xs.toArray w (CallLeaves P S w0 M0 M φ h d x) := by
    intro own args1 h1 d0 hh1 hlen hd0 hfz vs hl ns hloc hask
    obtain ⟨ans, hok, hafter⟩ := hO _ _ _ hask
    have L := localize_spec hloc
    have step : ∀ (x : AV ⊕ PV), (∀ (M' : Mem) (φn : Phi) (e : Ending), EndR M' φn ans.e (ans.vals.map (AV.ren (backName ns h1.length))) e →
          match x, e with | .inl x, .returned v => RepA M' φn v x | .inr y, .panicked ch => ∃ v, ch = [{ v, recovered := false }] ∧ RepP M' v y | _, _ => False) →
        ∀ (S : Nat → Prop) (w0 : World) (M0 M : Mem) (φ : Phi) (w : World) (xs : List Value), Rel P S w0 M0 M φ h w → RepL M φ xs args → Does P f xs.toArray w (CallLeaves P S w0 M0 M φ h (d0 ++ backD (backName ns h.length) ans.h) x) := by
      intro x hx S w0 M0 M φ w xs hR hV
      obtain ⟨N, hMN, hR1, hV1⟩ := hfz S w0 M0 M φ w xs hR hV
      have hR2 := L.rel hR1
      have hD := hok xs w N (phiOf φ ns) hR2.anew (L.repL hV1)
      have conv : ∀ e w', CallR P N (phiOf φ ns) hl w ans e w' → CallLeaves P S w0 M0 M φ h (d0 ++ backD (backName ns h.length) ans.h) x e w' := by
        intro e w' hC
        obtain ⟨M', φn, g1, g2, g3, g4⟩ := back_sound L hR1 hC
        refine ⟨M', φn, hMN.trans g1, by rw [← hlen]; exact g2, ?_, hx M' φn e g4⟩
        rw [applyD_append, ← hh1, ← hlen]
        exact g3
      rcases hD with ⟨h3, h4⟩ | ⟨v, w', h3, h4⟩
      · exact .inl ⟨h3, h4.mono conv⟩
      · exact .inr ⟨v, w', h3, conv _ _ h4⟩
    unfold afterCall at hafter
    split at hafter
    · rename_i v he hv
      refine ⟨.inl (v.ren (backName ns h.length)), d0 ++ backD (backName ns h.length) ans.h, by rw [hd0]; exact hafter, step _ fun M' φn e hend => ?_⟩
      rw [he, hv, hlen] at hend
      cases e with
      | returned u => exact hend
      | _ => exact hend.elim
    · rename_i y he hv
      refine ⟨.inr y, d0 ++ backD (backName ns h.length) ans.h, by rw [hd0]; exact hafter, step _ fun M' φn e hend => ?_⟩
      rw [he, hv] at hend
      cases e with
      | panicked ch => exact hend
      | _ => exact hend.elim
    · cases hafter
  unfold doCall at hk
  split at hk
  · rename_i hown
    split at hk
    · rename_i vs hl ns hloc
      exact main true args h [] rfl rfl rfl (fun S w0 M0 M φ w xs hR hV => ⟨M, .refl _, hR, hV⟩) vs hl ns hloc hk
    · cases hk
  · rename_i hown
    split at hk
    · rename_i vs hl ns hloc
      refine main false (frzL h args) (applyD h (frzDL h args)) (frzDL h args) rfl ?_ rfl (fun S w0 M0 M φ w xs hR hV => ?_) vs hl ns hloc hk
      · exact frzDL_length h args
      · obtain ⟨N, a, b, _, d⟩ := frzL_sound hR hV
        exact ⟨N, a, b, d⟩
    · cases hk
end
end Go.Fx
