/- Operations in no fixed order, against the model. -/
import Derived.Test.YtokdkmlpfkeeaaaFx18
import Derived.Orders
set_option linter.unusedVariables false
set_option linter.unusedSimpArgs false
namespace Go.Fx

/-! ### Who wrote last -/
section
variable {β : Type}
/-- What stands at l, when those of L below n have written. -/
def lastW (wr : Nat → Nat → Bool) (val : Nat → Nat → β) (f0 : Nat → β) (L : Nat → Bool) : Nat → Nat → β
  | 0, l => f0 l
  | n + 1, l => if L n && wr n l then val n l else lastW wr val f0 L n l

variable {wr : Nat → Nat → Bool} {val : Nat → Nat → β} {f0 : Nat → β}
theorem lastW_congr {L L' : Nat → Bool} {l : Nat} : ∀ n, (∀ j, j < n → (L j && wr j l) = (L' j && wr j l)) → lastW wr val f0 L n l = lastW wr val f0 L' n l
  | 0, _ => rfl
  | n + 1, h => by
    unfold lastW
    rw [h n (by omega), lastW_congr n (fun j hj => h j (by omega))]
theorem lastW_cut {L : Nat → Bool} {l i : Nat} : ∀ n, i ≤ n → (∀ j, i ≤ j → j < n → (L j && wr j l) = false) → lastW wr val f0 L n l = lastW wr val f0 L i l
  | 0, hi, _ => by have : i = 0 := by omega
                   subst this; rfl
  | n + 1, hi, h => by
    by_cases e : i = n + 1
    · subst e; rfl
    · have h1 := h n (by omega) (by omega)
      unfold lastW
      rw [h1]
      simp only [Bool.false_eq_true, if_false]
      rw [lastW_cut n (by omega) (fun j hj hjn => h j hj (by omega))]
      cases i <;> rfl

/-- How they stand to one another: what isn't ordered doesn't meet. -/
structure Order (n : Nat) (bef : Nat → Nat → Bool) (wr rd : Nat → Nat → Bool) : Prop where
  lt : ∀ i j, bef i j = true → i < j
  calm : ∀ i j, i < n → j < n → i ≠ j → bef i j = false → bef j i = false → ∀ l, wr j l = true → rd i l = false ∧ wr i l = false

variable {n : Nat} {bef rd : Nat → Nat → Bool}
/-- One that may come up sees what it sees in order. -/
theorem lastW_read (hO : Order n bef wr rd) {L : Nat → Bool} {i l : Nat} (hi : i < n) (hLi : L i = false) (hup : ∀ j, j < n → L j = true → bef i j = false) (hdn : ∀ j, bef j i = true → L j = true) (hl : rd i l = true) :
    lastW wr val f0 L n l = lastW wr val f0 (fun _ => true) i l := by
  have key : ∀ j, j < n → (L j && wr j l) = ((decide (j < i)) && wr j l) := by
    intro j hj
    by_cases hw : wr j l = true
    · rw [hw, Bool.and_true, Bool.and_true]
      by_cases e : j = i
      · subst e; rw [hLi]; simp
      · by_cases hb : bef j i = true
        · rw [hdn j hb]; simp [hO.lt j i hb]
        · have hb : bef j i = false := by simpa using hb
          by_cases hb2 : bef i j = true
          · have : L j = false := by
              cases h : L j with
              | false => rfl
              | true => rw [hup j hj h] at hb2; cases hb2
            rw [this]
            have := hO.lt i j hb2
            simp; omega
          · have hb2 : bef i j = false := by simpa using hb2
            have := (hO.calm i j hi hj (Ne.symm e) hb2 hb l hw).1
            rw [hl] at this; cases this
    · have hw : wr j l = false := by simpa using hw
      rw [hw]; simp
  rw [lastW_congr n key, lastW_cut n (Nat.le_of_lt hi) (fun j hj _ => by simp; omega), lastW_congr i (L' := fun _ => true) (fun j hj => by simp [hj])]

/-- And writes what it writes. -/
theorem lastW_write (hO : Order n bef wr rd) {L L' : Nat → Bool} {i l : Nat} (hi : i < n) (hLi : L i = false) (hup : ∀ j, j < n → L j = true → bef i j = false) (hL' : ∀ j, L' j = (decide (j = i) || L j)) :
    lastW wr val f0 L' n l = if wr i l then val i l else lastW wr val f0 L n l := by
  by_cases hw : wr i l = true
  · rw [if_pos hw]
    rw [lastW_cut (i := i + 1) n (by omega) (fun j hj hjn => ?_)]
    · unfold lastW
      rw [hL' i, hw]; simp
    · cases hwj : wr j l with
      | false => simp
      | true =>
        have hne : j ≠ i := by omega
        rw [hL' j]
        have : L j = false := by
          cases h : L j with
          | false => rfl
          | true =>
            have hb := hup j hjn h
            have hb2 : bef j i = false := by
              cases h2 : bef j i with
              | false => rfl
              | true => have := hO.lt j i h2; omega
            have := (hO.calm i j hi hjn (Ne.symm hne) hb hb2 l hwj).2
            rw [hw] at this; cases this
        simp [this, hne]
  · have hw : wr i l = false := by simpa using hw
    rw [hw]
    simp only [Bool.false_eq_true, if_false]
    apply lastW_congr
    intro j hj
    rw [hL' j]
    by_cases e : j = i
    · subst e; rw [hw]; simp
    · simp [e]
end

/-! ### Bits -/
theorem bits_go (l : List Nat) : ∀ (m i : Nat), (l.foldl (fun m i => m ||| 2 ^ i) m).testBit i = (m.testBit i || l.contains i) := by
  induction l with
  | nil => intro m i; simp
  | cons a l ih =>
    intro m i
    simp only [List.foldl_cons]
    rw [ih, Nat.testBit_or, Nat.testBit_two_pow]
    by_cases e : a = i
    · subst e; simp
    · have e2 : ¬ i = a := fun h => e h.symm
      simp [e, e2, List.contains_cons]
theorem testBit_bits (l : List Nat) (i : Nat) : (bits l).testBit i = true ↔ i ∈ l := by
  unfold bits
  rw [bits_go]
  simp
theorem and_zero {a b i : Nat} (h : (a &&& b) = 0) (ha : a.testBit i = true) : b.testBit i = false := by
  have : (a &&& b).testBit i = false := by rw [h]; simp
  rw [Nat.testBit_and, ha] at this
  simpa using this

theorem mask_get (m : Nat) : ∀ (h : Hp) (i j : Nat), (mask m i h)[j]? = (h[j]?).map fun o => if m.testBit (i + j) then o else .dead
  | [], i, j => by simp [mask]
  | o :: h, i, 0 => by
    simp only [mask, List.getElem?_cons_zero, Option.map_some, Nat.add_zero]
    cases m.testBit i <;> rfl
  | o :: h, i, j + 1 => by
    simp only [mask, List.getElem?_cons_succ]
    rw [mask_get m h (i + 1) j, show i + 1 + j = i + (j + 1) by omega]
theorem mask_length (m : Nat) : ∀ (h : Hp) (i : Nat), (mask m i h).length = h.length
  | [], i => rfl
  | o :: h, i => by simp [mask, mask_length m h]

/-! ### The same names -/
mutual
theorem CV.ren_id : ∀ x : CV, x.ren id = x
  | .ptr l o => rfl
  | .ep l i o => rfl
  | .os l => rfl
  | .bs l a b c => rfl
  | .fn f cs => by simp only [CV.ren]; rw [CV.renL_id cs]
  | .itp l => rfl
  | .mp l => rfl
  | .p x => rfl
  | .nils => rfl
  | .ip cs => rfl
theorem CV.renL_id : ∀ x : List CV, CV.renL id x = x
  | [] => rfl
  | x :: l => by simp only [CV.renL]; rw [CV.ren_id x, CV.renL_id l]
end
mutual
theorem AV.ren_id : ∀ x : AV, x.ren id = x
  | .c x => by simp only [AV.ren, CV.ren_id]
  | .agg cs => by simp only [AV.ren, CV.renL_id]
  | .tup vs => by simp only [AV.ren]; rw [AV.renL_id vs]
  | .top => rfl
theorem AV.renL_id : ∀ x : List AV, AV.renL id x = x
  | [] => rfl
  | x :: l => by simp only [AV.renL]; rw [AV.ren_id x, AV.renL_id l]
end
theorem Ob.ren_id (o : Ob) : o.ren id = o := by
  cases o with
  | rrow xs => simp only [Ob.ren]; congr 1; rw [show CV.renL id = id from funext CV.renL_id]; simp
  | box cs q => simp only [Ob.ren, CV.renL_id]
  | _ => rfl

section
variable {P : Program} {S : Nat → Prop} {w0 w w' : World} {M0 M M' : Mem} {φ φ' : Phi} {h : Hp} {α : Type}

/-- Only these names. -/
def Phi.only (φ : Phi) (F : List Nat) : Phi := fun l => if l ∈ F then φ l else none
theorem RepA.only {F : List Nat} {v : Value} {x : AV} (hx : RepA M φ v x) (hF : ∀ l ∈ x.refs, l ∈ F) : RepA M (φ.only F) v x := by
  have := hx.ren (φ' := φ.only F) id (fun l hl a ha => by show (φ.only F) l = some a; unfold Phi.only; rw [if_pos (hF l hl)]; exact ha)
  rwa [AV.ren_id] at this

/-- A part of the objects by itself. -/
theorem Rel.sub (hR : Rel P S w0 M0 M φ h w) {F : List Nat} {hm : Hp} (hsub : ∀ (l : Nat) (o : Ob), hm[l]? = some o → o.alive = true → h[l]? = some o ∧ l ∈ F ∧ ∀ k ∈ o.refs, k ∈ F) (hdom : ∀ l ∈ F, l < hm.length) :
    Rel P (Blocks hm (φ.only F)) w M M (φ.only F) hm w := by
  have only : ∀ l x, φ.only F l = some x → l ∈ F ∧ φ l = some x := by
    intro l x hx
    unfold Phi.only at hx
    split at hx
    · exact ⟨‹_›, hx⟩
    · cases hx
  have inn : ∀ l, l ∈ F → φ.only F l = φ l := fun l hl => if_pos hl
  refine ⟨.refl _, hR.agr, fun l o ho => ?_, fun l l' o o' x x' b ho ho' ha ha' hx hx' hb hb' => ?_, fun l o x b ho ha hx hb => .inl ⟨l, o, x, ho, ha, hx, hb⟩, fun l x hx => hdom l (only l x hx).1, rfl, rfl, rfl, Nat.le_refl _, fun _ _ _ => rfl, fun b o v hv => .inl hv, hR.eqs⟩
  · by_cases ha : o.alive = true
    · obtain ⟨h1, h2, h3⟩ := hsub l o ho ha
      have := (hR.obj l o h1).ren (φ' := φ.only F) id (fun a h4 => by show φ.only F l = some a; rw [inn l h2]; exact h4) (fun k hk a h4 => by show φ.only F k = some a; rw [inn k (h3 k hk)]; exact h4)
      rwa [Ob.ren_id] at this
    · cases o <;> simp [Ob.alive] at ha
      exact .dead
  · exact hR.sep l l' o o' x x' b (hsub l o ho ha).1 (hsub l' o' ho' ha').1 ha ha' (only l x hx).2 (only l' x' hx').2 hb hb'

/-! ### One operation, on its part -/
structure It where
  o : Oper
  t : Tm
  x : AV
  F : List Nat
  W : List Nat
  h : Hp
  h' : Hp

/-- What is known of an operation that came up: it is passed over, or does this on its part. -/
structure ItOk (P : Program) (ops : Array Oper) (it : It) : Prop where
  len : it.h.length ≤ it.h'.length
  new : ∀ l, it.h.length ≤ l → l < it.h'.length → l ∈ it.W
  same : ∀ l, l < it.h.length → l ∉ it.W → it.h'[l]? = it.h[l]?
  lt : ∀ l ∈ it.F, l < it.h.length
  does : ((∀ (M : Mem) (φ : Phi) (N : Nat) (a : Act), TRel M φ N (maskT (guardTmps ops it.o) it.t) a → Region.wanted it.o (yielded ops a.tmps) = false) ∧ it.x = .tup [] ∧ it.h' = it.h ∧ it.W = [] ∧ it.F = []) ∨
    ((∀ (M : Mem) (φ : Phi) (N : Nat) (a : Act), TRel M φ N (maskT (guardTmps ops it.o) it.t) a → Region.wanted it.o (yielded ops a.tmps) = true) ∧
      (∀ l ∈ opRefs it.o it.t, l ∈ it.F) ∧ (∀ l ∈ it.F, ∀ o, it.h[l]? = some o → ∀ k ∈ o.refs, k ∈ it.F) ∧
      ∃ d, it.h' = applyD it.h d ∧ it.W = d.map (·.1) ++ List.range' it.h.length (it.h'.length - it.h.length) ∧ (∀ q ∈ d, it.h.length ≤ q.1 ∨ q.1 ∈ it.F) ∧
        OpDoes P (mask (bits it.F) 0 it.h) (maskT (tmpsOf it.o.op.operands.toList) it.t) it.o it.x d)

theorem guardOf_nat {ops : Array Oper} {t : Tm} {o : Oper} {x y : Option α} {r : α} (hk : guardOf ops t o x y = some r) :
    (x = some r ∧ ∀ (M : Mem) (φ : Phi) (N : Nat) (a : Act), TRel M φ N t a → Region.wanted o (yielded ops a.tmps) = true) ∨ (y = some r ∧ ∀ (M : Mem) (φ : Phi) (N : Nat) (a : Act), TRel M φ N t a → Region.wanted o (yielded ops a.tmps) = false) := by
  have key : (x = some r ∧ guardOf ops t o (some true) (some false) = some true) ∨ (y = some r ∧ guardOf ops t o (some true) (some false) = some false) := by
    unfold guardOf at hk
    split at hk
    · rename_i hg
      exact .inl ⟨hk, by simp only [guardOf, hg]⟩
    · rename_i j want hg
      split at hk
      · rename_i hj
        exact .inr ⟨hk, by simp only [guardOf, hg, hj]⟩
      · rename_i o' hj
        split at hk
        · rename_i hd
          exact .inr ⟨hk, by simp only [guardOf, hg, hj, hd]⟩
        · rename_i d hd
          split at hk
          · rename_i q hq
            cases want <;> cases q <;> simp only [br] at hk
            · exact .inl ⟨hk, by simp only [guardOf, hg, hj, hd, hq, br]⟩
            · exact .inr ⟨hk, by simp only [guardOf, hg, hj, hd, hq, br]⟩
            · exact .inr ⟨hk, by simp only [guardOf, hg, hj, hd, hq, br]⟩
            · exact .inl ⟨hk, by simp only [guardOf, hg, hj, hd, hq, br]⟩
          · rename_i vs hq
            exact .inr ⟨hk, by simp only [guardOf, hg, hj, hd, hq]⟩
          · cases hk
  rcases key with ⟨h1, h2⟩ | ⟨h1, h2⟩
  · refine .inl ⟨h1, fun M φ N a hT => ?_⟩
    rcases guardOf_sound hT h2 with ⟨h3, _⟩ | ⟨_, h3⟩
    · exact h3
    · cases h3
  · refine .inr ⟨h1, fun M φ N a hT => ?_⟩
    rcases guardOf_sound hT h2 with ⟨_, h3⟩ | ⟨h3, _⟩
    · cases h3
    · exact h3

/-! ### The operations one behind the other -/
def Chain : Tm → Hp → List It → Tm → Hp → Prop
  | t, h, [], t', h' => t' = t ∧ h' = h
  | t, h, it :: r, t', h' => it.t = t ∧ it.h = h ∧ Chain (upd? t it.o.dst it.x) it.h' r t' h'
def It.masks (it : It) : Nat × Nat := (bits it.F, bits it.W)
/-- They don't meet. -/
def Away (x y : It) : Prop := ∀ l, (l ∈ y.W → l ∉ x.F ∧ l ∉ x.W) ∧ (l ∈ x.W → l ∉ y.F ∧ l ∉ y.W)

theorem away_of_masks {x y : It} (h1 : Nat.beq (bits y.W &&& (bits x.F ||| bits x.W)) 0 = true) (h2 : Nat.beq (bits x.W &&& (bits y.F ||| bits y.W)) 0 = true) : Away x y := by
  have h1 := Nat.eq_of_beq_eq_true h1
  have h2 := Nat.eq_of_beq_eq_true h2
  have no : ∀ (a : List Nat) (l : Nat), (bits a).testBit l = false → l ∉ a := fun a l h hm => by rw [(testBit_bits a l).2 hm] at h; cases h
  refine fun l => ⟨fun hl => ?_, fun hl => ?_⟩
  · have := and_zero h1 ((testBit_bits _ _).2 hl)
    rw [Nat.testBit_or, Bool.or_eq_false_iff] at this
    exact ⟨no _ _ this.1, no _ _ this.2⟩
  · have := and_zero h2 ((testBit_bits _ _).2 hl)
    rw [Nat.testBit_or, Bool.or_eq_false_iff] at this
    exact ⟨no _ _ this.1, no _ _ this.2⟩

theorem applyD_len_eq : ∀ (d : Dl) (h1 h2 : Hp), h1.length = h2.length → (applyD h1 d).length = (applyD h2 d).length
  | [], _, _, h => h
  | (l, o) :: d, h1, h2, h => by
    simp only [applyD]
    apply applyD_len_eq
    rw [h]
    split <;> simp [h]
theorem applyD_agree : ∀ (d : Dl) (h1 h2 : Hp) (l : Nat), h1.length = h2.length → (h1[l]? = h2[l]? ∨ l ∈ d.map (·.1)) → (applyD h1 d)[l]? = (applyD h2 d)[l]?
  | [], _, _, l, _, h => by
    rcases h with h | h
    · exact h
    · simp at h
  | (k, o) :: d, h1, h2, l, he, h => by
    simp only [applyD]
    refine applyD_agree d _ _ l (by rw [he]; split <;> simp [he]) ?_
    by_cases hk : k < h1.length
    · rw [if_pos hk, if_pos (by omega)]
      by_cases e : l = k
      · subst e
        rw [List.getElem?_set_self hk, List.getElem?_set_self (by omega)]
        exact .inl rfl
      · rw [List.getElem?_set_ne (Ne.symm e), List.getElem?_set_ne (Ne.symm e)]
        rcases h with h | h
        · exact .inl h
        · simp only [List.map_cons, List.mem_cons] at h
          rcases h with h | h
          · exact absurd h e
          · exact .inr h
    · rw [if_neg hk, if_neg (by omega)]
      by_cases hl : l < h1.length
      · rw [List.getElem?_append_left hl, List.getElem?_append_left (by omega)]
        rcases h with h | h
        · exact .inl h
        · simp only [List.map_cons, List.mem_cons] at h
          rcases h with h | h
          · omega
          · exact .inr h
      · rw [List.getElem?_append_right (by omega), List.getElem?_append_right (by omega), he]
        exact .inl rfl

theorem evDraw_chain {C : Cfg} {O : Orc α} (hO : Honest P C O) {ops : Array Oper} {bs : List Nat} {K : KT α} {r : α} : ∀ (l : List Oper) (prev : List It) (t : Tm) (h : Hp), evDraw C P O ops bs l (prev.map It.masks) t h K = some r →
    ∃ its tN hN, its.map (·.o) = l ∧ (∀ it ∈ its, ItOk P ops it) ∧ Chain t h its tN hN ∧ K .normal tN hN = some r ∧
      ∀ i j x y, i < j → prev.length ≤ j → (prev ++ its)[i]? = some x → (prev ++ its)[j]? = some y → (bs.getD j 0).testBit i = true ∨ Away x y
  | [], prev, t, h, hk => by
    rw [evDraw_nil] at hk
    refine ⟨[], t, h, rfl, by simp, ⟨rfl, rfl⟩, hk, fun i j x y hij hj hx hy => ?_⟩
    rw [List.append_nil] at hy
    have := (List.getElem?_eq_some_iff.1 hy).1
    omega
  | o :: l, prev, t, h, hk => by
    rw [evDraw_cons] at hk
    replace hk := settleG_out hk
    simp only [putK_eq] at hk
    -- how the rest goes on
    have rest : ∀ (it : It), it.o = o → it.t = t → it.h = h → ItOk P ops it → (∀ i x, prev[i]? = some x → (bs.getD prev.length 0).testBit i = true ∨ Away x it) →
        evDraw C P O ops bs l ((prev ++ [it]).map It.masks) (upd? t o.dst it.x) it.h' K = some r →
        ∃ its tN hN, its.map (·.o) = o :: l ∧ (∀ it ∈ its, ItOk P ops it) ∧ Chain t h its tN hN ∧ K .normal tN hN = some r ∧
          ∀ i j x y, i < j → prev.length ≤ j → (prev ++ its)[i]? = some x → (prev ++ its)[j]? = some y → (bs.getD j 0).testBit i = true ∨ Away x y := by
      intro it ho ht hh hok hcalm hk
      obtain ⟨its, tN, hN, g1, g2, g3, g4, g5⟩ := evDraw_chain hO l (prev ++ [it]) _ _ hk
      refine ⟨it :: its, tN, hN, by simp [g1, ho], fun z hz => ?_, ⟨ht, hh, by rw [ho]; exact g3⟩, g4, fun i j x y hij hj hx hy => ?_⟩
      · cases hz with
        | head => exact hok
        | tail _ hz => exact g2 z hz
      · have e : prev ++ it :: its = (prev ++ [it]) ++ its := by simp
        rw [e] at hx hy
        by_cases hjp : j = prev.length
        · subst hjp
          have hy' : y = it := by
            rw [List.getElem?_append_left (by simp), List.getElem?_append_right (by omega)] at hy
            simp at hy; exact hy.symm
          rw [List.getElem?_append_left (by simp; omega), List.getElem?_append_left hij] at hx
          rw [hy']
          exact hcalm i x hx
        · exact g5 i j x y hij (by simp; omega) hx hy
    rcases guardOf_nat hk with ⟨hk, hw⟩ | ⟨hk, hw⟩
    · split at hk
      · rename_i ns hreach
        obtain ⟨_, r2, r3, r4, r5⟩ := reach_spec _ _ _ _ hreach (by simp) (by simp) (by simp)
        rcases evOp_op hO hk with ⟨x, d, h1, h2⟩ | ⟨y, d, h1, h2⟩
        · rw [frcA_eq, frcH_eq] at h1
          split at h1
          · rename_i rec' hstep
            unfold drawStep at hstep
            split at hstep
            · rename_i hc
              injection hstep with hstep
              rw [Bool.and_eq_true] at hc
              obtain ⟨hc1, hc2⟩ := hc
              rw [List.length_map] at hc2
              have hlen := applyD_length d h
              obtain ⟨it, hit⟩ : ∃ it : It, it = ⟨o, t, x, ns, d.map (·.1) ++ List.range' h.length ((applyD h d).length - h.length), h, applyD h d⟩ := ⟨_, rfl⟩
              have hd : ∀ q ∈ d, h.length ≤ q.1 ∨ q.1 ∈ ns := by
                intro q hq
                have := List.all_eq_true.1 hc1 q hq
                rw [Bool.or_eq_true] at this
                rcases this with h3 | h3
                · exact .inl (Nat.le_of_ble_eq_true h3)
                · exact .inr (by simpa using h3)
              refine rest it (by rw [hit]) (by rw [hit]) (by rw [hit]) ?_ (fun i z hz => ?_) ?_
              · rw [hit]
                refine ⟨hlen, fun l h3 h4 => List.mem_append_right _ (List.mem_range'_1.2 ⟨h3, by simp only at h3 h4 ⊢; omega⟩), fun l h3 h4 => applyD_other d h l h3 (fun h5 => h4 (List.mem_append_left _ h5)), r4, .inr ⟨hw, fun l hl => r2 l hl, r5, d, rfl, rfl, hd, h2⟩⟩
              · unfold calm at hc2
                have hi : i < prev.length := (List.getElem?_eq_some_iff.1 hz).1
                have := List.all_eq_true.1 hc2 i (by simpa using hi)
                rw [Bool.or_eq_true] at this
                rcases this with h3 | h3
                · exact .inl h3
                · right
                  rw [List.getElem?_map, hz] at h3
                  simp only [Option.map_some, It.masks, Bool.and_eq_true] at h3
                  rw [hit]
                  exact away_of_masks h3.1 h3.2
              · rw [hit]
                rw [← hstep] at h1
                simpa [It.masks] using h1
            · cases hstep
          · cases h1
        · cases h1
      · cases hk
    · refine rest ⟨o, t, .tup [], [], [], h, h⟩ rfl rfl rfl ⟨Nat.le_refl _, fun l h1 h2 => absurd h2 (Nat.not_lt.2 h1), fun _ _ _ => rfl, by simp, .inl ⟨hw, rfl, rfl, rfl, rfl⟩⟩ (fun i x _ => .inr fun l => ⟨by simp, by simp⟩) ?_
      simpa [It.masks, bits] using hk
end
end Go.Fx
