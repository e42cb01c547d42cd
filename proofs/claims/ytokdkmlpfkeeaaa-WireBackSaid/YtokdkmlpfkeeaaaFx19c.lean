/- Operations in no fixed order, against the model: the region. -/
import Derived.Test.YtokdkmlpfkeeaaaFx19b
set_option linter.unusedVariables false
set_option linter.unusedSimpArgs false
set_option linter.unnecessarySimpa false
namespace Go.Fx

/-- How many haven't come up. -/
def cnt : Nat → (Nat → Bool) → Nat
  | 0, _ => 0
  | n + 1, L => cnt n L + (match L n with | true => 0 | false => 1)
theorem cnt_le : ∀ (n : Nat) (L : Nat → Bool), cnt n L ≤ n
  | 0, _ => Nat.le_refl _
  | n + 1, L => by
    have := cnt_le n L
    unfold cnt
    split <;> omega
theorem cnt_zero : ∀ (n : Nat) (L : Nat → Bool), cnt n L = 0 → ∀ j, j < n → L j = true
  | 0, _, _, j, hj => by omega
  | n + 1, L, h, j, hj => by
    unfold cnt at h
    cases hn : L n with
    | false => rw [hn] at h; simp at h
    | true =>
      by_cases e : j = n
      · subst e; exact hn
      · exact cnt_zero n L (by omega) j (by omega)
theorem cnt_congr : ∀ (n : Nat) {L L' : Nat → Bool}, (∀ j, j < n → L j = L' j) → cnt n L = cnt n L'
  | 0, _, _, _ => rfl
  | n + 1, L, L', h => by unfold cnt; rw [h n (by omega), cnt_congr n (fun j hj => h j (by omega))]
theorem cnt_step : ∀ (n : Nat) {L L' : Nat → Bool} {i : Nat}, i < n → L i = false → (∀ j, L' j = (decide (j = i) || L j)) → cnt n L' + 1 = cnt n L
  | 0, _, _, i, hi, _, _ => by omega
  | n + 1, L, L', i, hi, hLi, h => by
    unfold cnt
    by_cases e : i = n
    · subst e
      rw [hLi, h i, cnt_congr i (L := L') (L' := L) (fun j hj => by rw [h j]; simp; omega)]
      simp
    · rw [h n, ← cnt_step n (L := L) (L' := L') (i := i) (by omega) hLi h]
      have : (decide (n = i) || L n) = L n := by simp [Ne.symm e]
      rw [this]; omega

section
variable {P : Program} {S : Nat → Prop} {w0 w w' : World} {M0 M M' : Mem} {φ φ' : Phi} {h : Hp} {α : Type}
variable {ops : Array Oper} {bef : Nat → Nat → Bool} {its : List It} {ts : Nat → Tm} {hs : Nat → Hp}

theorem any_sound (D : Drawn P ops bef its ts hs) {Mi : Mem} {φi : Phi} {m N : Nat} (hm : m ≤ (hs 0).length) (hdst : ∀ it ∈ its, ∀ j, it.o.dst = some j → j < N) {Q : Exit → Act → World → Prop}
    (hQ : ∀ (L : Nat → Bool) M φ a w, (∀ j, j < its.length → L j = true) → Inv P its ts hs S w0 M0 Mi φi m N L M φ a w → Q .normal a w) :
    ∀ (fuel : Nat) (listed : Array Bool) (M : Mem) (φ : Phi) (a : Act) (w : World), listed.size = its.length →
      (∀ (j : Nat) (o : Oper), ops[j]? = some o → listed.getD j true = true → ∀ e ∈ o.after, Region.binds .any e = true → listed.getD e.on false = true) →
      cnt its.length (fun j => listed.getD j true) ≤ fuel → Inv P its ts hs S w0 M0 Mi φi m N (fun j => listed.getD j true) M φ a w → wpAny P .any ops Q fuel listed a w := by
  intro fuel
  have tf : ∀ (listed : Array Bool) (j : Nat), listed.getD j false = true → listed.getD j true = true := by
    intro listed j h
    rw [Array.getD_eq_getD_getElem?] at h ⊢
    cases hx : listed[j]? with
    | none => rw [hx] at h; cases h
    | some y => rw [hx] at h; exact h
  have ft : ∀ (listed : Array Bool) (j : Nat), j < listed.size → listed.getD j true = true → listed.getD j false = true := by
    intro listed j hj h
    rw [Array.getD_eq_getD_getElem?, Array.getElem?_eq_getElem hj] at h ⊢
    exact h
  induction fuel with
  | zero =>
    intro listed M φ a w hsz hcl hcnt hI
    have hall := cnt_zero _ _ (Nat.le_zero.1 hcnt)
    refine ⟨?_, hQ _ M φ a w hall hI⟩
    rw [List.eq_nil_iff_forall_not_mem]
    intro i hi
    obtain ⟨h1, o, ho, _⟩ := mem_ready.1 hi
    have := hall i (by rw [D.size]; exact (Array.getElem?_eq_some_iff.1 ho).1)
    rw [h1] at this; cases this
  | succ fuel ih =>
    intro listed M φ a w hsz hcl hcnt hI
    -- what is ahead of one that came up came up
    have ahead : ∀ (j i : Nat), listed.getD j true = true → j < its.length → bef i j = true → listed.getD i true = true := by
      intro j
      induction j using Nat.strongRecOn with
      | _ j ihj =>
        intro i hj hjn hb
        obtain ⟨o, ho⟩ : ∃ o, ops[j]? = some o := ⟨_, Array.getElem?_eq_getElem (by rw [← D.size]; exact hjn)⟩
        obtain ⟨e, he, hbe, h1⟩ := D.back i j hb o ho
        have h2 := tf _ _ (hcl j o ho hj e he hbe)
        have h3 := D.edge j o ho e he hbe
        rcases h1 with h1 | h1
        · rw [← h1]; exact h2
        · exact ihj e.on h3 i h2 (by omega) h1
    refine ⟨fun hnil => hQ _ M φ a w (fun j => ?_) hI, fun i hi => ?_⟩
    · induction j using Nat.strongRecOn with
      | _ j ihj =>
        intro hjn
        cases hLj : listed.getD j true with
        | true => rfl
        | false =>
          exfalso
          obtain ⟨o, ho⟩ : ∃ o, ops[j]? = some o := ⟨_, Array.getElem?_eq_getElem (by rw [← D.size]; exact hjn)⟩
          have : j ∈ Region.ready .any ops listed := mem_ready.2 ⟨hLj, o, ho, fun e he hbe => by
            have h3 := D.edge j o ho e he hbe
            exact ft _ _ (by omega) (ihj e.on h3 (by omega))⟩
          rw [hnil] at this
          cases this
    · obtain ⟨h1, o, ho, hedges⟩ := mem_ready.1 hi
      obtain ⟨it, hit, hito⟩ := D.it ho
      have hin : i < its.length := (List.getElem?_eq_some_iff.1 hit).1
      have hL' : ∀ j, (listed.setIfInBounds i true).getD j true = (decide (j = i) || listed.getD j true) := by
        intro j
        rw [Array.getD_eq_getD_getElem?, Array.getD_eq_getD_getElem?, Array.getElem?_setIfInBounds]
        by_cases e : i = j
        · subst e; simp [show i < listed.size by omega]
        · rw [if_neg e]; simp [Ne.symm e]
      refine hI.step D hm hit h1 (fun j hj hLj => ?_) (fun j hb => ?_) (L' := fun j => (listed.setIfInBounds i true).getD j true) hL' (hdst it (List.mem_of_getElem? hit)) (fun M' φ' a' w' hI' => ?_)
      · cases hb : bef i j with
        | false => rfl
        | true =>
          have := ahead j i hLj hj hb
          rw [h1] at this; cases this
      · obtain ⟨e, he, hbe, h2⟩ := D.back j i hb o ho
        have h3 := tf _ _ (hedges e he hbe)
        rcases h2 with h2 | h2
        · rw [← h2]; exact h3
        · exact ahead e.on j h3 (by have := D.edge i o ho e he hbe; omega) h2
      · refine ih _ M' φ' a' w' (by rw [Array.size_setIfInBounds]; exact hsz) (fun j oj hoj hLj e he hbe => ?_) ?_ hI'
        · have key : listed.getD e.on false = true := by
            rw [hL' j, Bool.or_eq_true] at hLj
            rcases hLj with h2 | h2
            · have : j = i := by simpa using h2
              subst this
              rw [ho] at hoj; injection hoj with hoj; subst hoj
              exact hedges e he hbe
            · exact hcl j oj hoj h2 e he hbe
          have h5 : e.on < listed.size := by
            have := D.edge j oj hoj e he hbe
            have : j < ops.size := (Array.getElem?_eq_some_iff.1 hoj).1
            have := D.size
            omega
          refine ft _ _ (by rw [Array.size_setIfInBounds]; exact h5) ?_
          rw [hL' e.on, tf _ _ key]; simp
        · have := cnt_step its.length (L := fun j => listed.getD j true) (L' := fun j => (listed.setIfInBounds i true).getD j true) hin h1 hL'
          omega

theorem evDraw_sound {C : Cfg} {O : Orc α} (hO : Honest P C O) (hmix : P.follows .mixedOrders = true) {ops : Array Oper} (hok : drawOk ops = true) {N m id : Nat} {K : KT α} {r : α} {t : Tm} (hk : evDraw C P O ops (befs ops.toList []) ops.toList [] t h K = some r)
    (hd : ∀ o ∈ ops.toList, ∀ j, o.dst = some j → j < N) {Mi : Mem} {φi : Phi} {a : Act} (hMi : Mi.le M) (hφi : φi.eqTo m φ) (hR : Rel P S w0 M0 M φ h w) (hT : TRel M φ N t a) (hm : m ≤ h.length) :
    (Code.region id ops true).wp P (Post P S w0 M0 Mi φi N m K r) a w := by
  unfold drawOk at hok
  rw [Bool.and_eq_true, Bool.and_eq_true] at hok
  obtain ⟨⟨hback, hnosel⟩, hapart⟩ := hok
  obtain ⟨its, tN, hN, c1, c2, c3, c4, c5⟩ := evDraw_chain hO ops.toList [] t h (by simpa using hk)
  obtain ⟨ts, hs, s1, s2, s3, s4, s5⟩ := chain_seq its t h tN hN c3
  obtain ⟨b1, b2⟩ := befs_spec ops.toList [] (by simpa using hback)
  have hopit : ∀ (i : Nat) (it : It), its[i]? = some it → ops.toList[i]? = some it.o := by
    intro i it hi
    rw [← c1, List.getElem?_map, hi]; rfl
  obtain ⟨bef, hbef⟩ : ∃ bef : Nat → Nat → Bool, bef = fun i j => ((befs ops.toList []).getD j 0).testBit i && decide (j < its.length) := ⟨_, rfl⟩
  have hlenops : its.length = ops.size := by
    have := congrArg List.length c1
    simpa using this
  have hb' : ∀ i j, bef i j = true → ∃ (o : Oper), ops.toList[j]? = some o ∧ ∃ e ∈ o.after.toList, Region.binds .any e = true ∧ e.on < j ∧ (e.on = i ∨ bef i e.on = true) := by
    intro i j hb
    rw [hbef] at hb
    simp only [Bool.and_eq_true, decide_eq_true_eq] at hb
    have hj : j < ops.toList.length := by simp; omega
    obtain ⟨e, he, hbe, hlt, hx⟩ := b2 j _ (List.getElem?_eq_getElem hj) i (by simpa using hb.1)
    simp only [List.length_nil, Nat.zero_add] at hlt
    refine ⟨_, List.getElem?_eq_getElem hj, e, he, hbe, hlt, hx.imp (fun h => h) (fun h => ?_)⟩
    rw [hbef]
    simp only [Bool.and_eq_true, decide_eq_true_eq]
    exact ⟨h, by omega⟩
  have hlt : ∀ i j, bef i j = true → i < j := by
    intro i j
    induction j using Nat.strongRecOn with
    | _ j ihj =>
      intro hb
      obtain ⟨o, ho, e, he, hbe, h1, h2⟩ := hb' i j hb
      rcases h2 with h2 | h2
      · omega
      · have := ihj e.on h1 h2
        omega
  have hbit : ∀ i j, j < its.length → bef i j = false → ((befs ops.toList []).getD j 0).testBit i = false := by
    intro i j hj hb
    rw [hbef] at hb
    simpa [hj] using hb
  have D : Drawn P ops bef its ts hs := by
    refine ⟨c1, c2, s5, ⟨hlt, ?_⟩, ⟨hlt, ?_⟩, fun i j hb o ho => ?_, fun j o ho e he hbe => ?_, fun o ho => noSel_at _ o hnosel ho⟩
    · intro i j hi hj hne h1 h2 l hl
      have ei := List.getElem?_eq_getElem hi
      have ej := List.getElem?_eq_getElem hj
      simp only [wrO, rdO, ei, ej] at hl ⊢
      have hl : l ∈ its[j].W := by simpa using hl
      rcases Nat.lt_or_ge i j with h3 | h3
      · rcases c5 i j its[i] its[j] h3 (by simp) (by simpa using ei) (by simpa using ej) with h4 | h4
        · rw [hbit i j hj h1] at h4; cases h4
        · have := (h4 l).1 hl
          exact ⟨by simpa using this.1, by simpa using this.2⟩
      · rcases c5 j i its[j] its[i] (by omega) (by simp) (by simpa using ej) (by simpa using ei) with h4 | h4
        · rw [hbit j i hi h2] at h4; cases h4
        · have := (h4 l).2 hl
          exact ⟨by simpa using this.1, by simpa using this.2⟩
    · intro i j hi hj hne h1 h2 l hl
      have ei := List.getElem?_eq_getElem hi
      have ej := List.getElem?_eq_getElem hj
      simp only [wrT, rdT, ei, ej] at hl ⊢
      have hl : its[j].o.dst = some l := by simpa using hl
      have oi := hopit i _ ei
      have oj := hopit j _ ej
      have oi' : ops[i]? = some its[i].o := by simpa using oi
      have oj' : ops[j]? = some its[j].o := by simpa using oj
      rcases Nat.lt_or_ge i j with h3 | h3
      · rcases apartAll_at ops _ ops.toList 0 j _ hapart oj i its[i].o (by omega) oi' with h4 | h4
        · rw [Nat.zero_add, hbit i j hj h1] at h4; cases h4
        · obtain ⟨a1, a2, a3⟩ := Oper.apart_spec h4
          refine ⟨by simpa using a3 l hl, ?_⟩
          simp only [decide_eq_false_iff_not]
          intro h5
          exact a2 l h5 hl
      · rcases apartAll_at ops _ ops.toList 0 i _ hapart oi j its[j].o (by omega) oj' with h4 | h4
        · rw [Nat.zero_add, hbit j i hi h2] at h4; cases h4
        · obtain ⟨a1, a2, a3⟩ := Oper.apart_spec h4
          refine ⟨by simpa using a1 l hl, ?_⟩
          simp only [decide_eq_false_iff_not]
          exact a2 l hl
    · obtain ⟨o', ho', e, he, hbe, _, h2⟩ := hb' i j hb
      have : o' = o := by
        have h3 : ops.toList[j]? = some o := by simpa using ho
        rw [ho'] at h3; injection h3
      subst this
      exact ⟨e, by simpa using he, hbe, h2⟩
    · have := backEdges_at ops.toList 0 j o hback (by simpa using ho) e he hbe
      omega
  have hdst : ∀ it ∈ its, ∀ j, it.o.dst = some j → j < N := by
    intro it hit
    refine hd it.o ?_
    rw [← c1]
    exact List.mem_map.2 ⟨it, hit, rfl⟩
  have hnone : ∀ j, j < its.length → (Array.replicate ops.size false).getD j true = false := by
    intro j hj
    rw [Array.getD_eq_getD_getElem?, Array.getElem?_replicate, if_pos (by omega)]; rfl
  refine wp_region_any hmix ?_
  refine any_sound (S := S) (w0 := w0) (M0 := M0) D (m := m) (Mi := Mi) (φi := φi) (by rw [s2]; exact hm) hdst (fun L M2 φ2 a2 w2 hall hI => ?_) ops.size _ M φ a { w with drawn := w.drawn + 1 } (by simp [hlenops]) (fun j o ho hLj => ?_) (by rw [← hlenops]; exact cnt_le _ _) ?_
  · have e1 : hpL its hs L = hN := by
      apply List.ext_getElem?
      intro l
      rw [hpL_get, s4]
      by_cases hl : l < hN.length
      · rw [if_pos hl, lastW_congr its.length (L' := fun _ => true) (fun j hj => by rw [hall j hj]), D.lexO l its.length (Nat.le_refl _), s4, List.getElem?_eq_getElem hl]; rfl
      · rw [if_neg hl, List.getElem?_eq_none (by omega)]
    have e2 : ∀ d, tmL its ts L d = tN d := by
      intro d
      unfold tmL
      rw [lastW_congr its.length (L' := fun _ => true) (fun j hj => by rw [hall j hj]), D.lexT d its.length (Nat.le_refl _), s3]
    refine ⟨.normal, tN, hN, M2, φ2, c4, trivial, hI.mem, hI.phi, by rw [← e1]; exact hI.rel, ⟨hI.tmp.size, fun j => by rw [← e2 j]; exact hI.tmp.val j, hI.tmp.defers⟩, ?_⟩
    have := D.mono 0 its.length (Nat.zero_le _) (Nat.le_refl _)
    rw [s2, s4] at this
    omega
  · have hj : j < its.length := by rw [hlenops]; exact (Array.getElem?_eq_some_iff.1 ho).1
    rw [hnone j hj] at hLj; cases hLj
  · have lw : ∀ {β : Type} (wr : Nat → Nat → Bool) (val : Nat → Nat → β) (f0 : Nat → β) (l : Nat), lastW wr val f0 (fun j => (Array.replicate ops.size false).getD j true) its.length l = f0 l := by
      intro β wr val f0 l
      rw [lastW_cut (i := 0) its.length (Nat.zero_le _) (fun j _ hj => by rw [hnone j hj]; rfl)]; rfl
    have hlen0 : h.length ≤ hN.length := by
      have := D.mono 0 its.length (Nat.zero_le _) (Nat.le_refl _)
      rwa [s2, s4] at this
    have hR' := hR.drew
    refine ⟨⟨hR'.mem, hR'.agr, fun l o ho => ?_, fun l l' o o' x x' b ho ho' ha ha' => ?_, fun l o x b ho ha => ?_, fun l x hx => ?_, hR'.os, hR'.tape, hR'.output, hR'.size, hR'.old, hR'.new, hR'.eqs⟩, ⟨hT.size, fun j => ?_, hT.defers⟩, hMi, hφi, fun i it hit _ l h1 h2 => ?_⟩
    all_goals try rw [hpL_get, lw, s2] at ho
    · split at ho
      · injection ho with ho
        cases hx : h[l]? with
        | none => rw [hx] at ho; simp at ho; subst ho; exact .dead
        | some q => rw [hx] at ho; simp at ho; subst ho; exact hR'.obj l q hx
      · cases ho
    · rw [hpL_get, lw, s2] at ho'
      have get : ∀ (l : Nat) (o : Ob), (if l < (hs its.length).length then some ((h[l]?).getD .dead) else none) = some o → o.alive = true → h[l]? = some o := by
        intro l o ho ha
        split at ho
        · injection ho with ho
          cases hx : h[l]? with
          | none => rw [hx] at ho; simp at ho; subst ho; simp [Ob.alive] at ha
          | some q => rw [hx] at ho; simp at ho; rw [ho]
        · cases ho
      exact hR'.sep l l' o o' x x' b (get l o ho ha) (get l' o' ho' ha') ha ha'
    · have get : h[l]? = some o := by
        split at ho
        · injection ho with ho
          cases hx : h[l]? with
          | none => rw [hx] at ho; simp at ho; subst ho; simp [Ob.alive] at ha
          | some q => rw [hx] at ho; simp at ho; rw [ho]
        · cases ho
      exact hR'.own l o x b get ha
    · rw [hpL_length, s4]
      exact Nat.lt_of_lt_of_le (hR'.dom l x hx) hlen0
    · unfold tmL
      rw [lw, s1]; exact hT.val j
    · cases hx : φ l with
      | none => rfl
      | some x =>
        have h3 := hR.dom l x hx
        obtain ⟨_, eh, _⟩ := s5 i it hit
        have h4 := D.mono 0 i (Nat.zero_le _) (Nat.le_of_lt (List.getElem?_eq_some_iff.1 hit).1)
        rw [s2, ← eh] at h4
        omega
end
end Go.Fx
