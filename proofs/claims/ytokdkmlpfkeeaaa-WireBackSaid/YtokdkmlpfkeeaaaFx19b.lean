/- Operations in no fixed order, against the model: all orders. -/
import Derived.Test.YtokdkmlpfkeeaaaFx19
set_option linter.unusedVariables false
set_option linter.unusedSimpArgs false
namespace Go.Fx

/-! ### What comes ahead -/
theorem fold_test (g : Nat → Nat) (i : Nat) : ∀ (es : List Edge) (s : Nat), (es.foldl (fun s e => if Region.binds .any e then s ||| 2 ^ e.on ||| g e.on else s) s).testBit i = true ↔
    s.testBit i = true ∨ ∃ e ∈ es, Region.binds .any e = true ∧ (e.on = i ∨ (g e.on).testBit i = true)
  | [], s => by simp
  | e :: es, s => by
    simp only [List.foldl_cons]
    rw [fold_test g i es]
    by_cases hb : Region.binds .any e = true
    · simp only [hb, if_true, Nat.testBit_or, Bool.or_eq_true, Nat.testBit_two_pow, decide_eq_true_eq, List.mem_cons]
      constructor
      · rintro ((h | h) | h)
        · rcases h with h | h
          · exact .inl h
          · exact .inr ⟨e, .inl rfl, hb, .inl h⟩
        · exact .inr ⟨e, .inl rfl, hb, .inr h⟩
        · obtain ⟨e', h1, h2, h3⟩ := h
          exact .inr ⟨e', .inr h1, h2, h3⟩
      · rintro (h | ⟨e', rfl | h1, h2, h3⟩)
        · exact .inl (.inl (.inl h))
        · rcases h3 with h3 | h3
          · exact .inl (.inl (.inr h3))
          · exact .inl (.inr h3)
        · exact .inr ⟨e', h1, h2, h3⟩
    · simp only [hb]
      constructor
      · rintro (h | ⟨e', h1, h2⟩)
        · exact .inl h
        · exact .inr ⟨e', List.mem_cons_of_mem _ h1, h2⟩
      · rintro (h | ⟨e', h1, h2⟩)
        · exact .inl h
        · cases h1 with
          | head => exact absurd h2.1 hb
          | tail _ h1 => exact .inr ⟨e', h1, h2⟩

theorem befs_spec : ∀ (l : List Oper) (acc : List Nat), backEdges acc.length l = true →
    (∀ i, i < acc.length → (befs l acc).getD i 0 = acc.getD i 0) ∧
    ∀ (j : Nat) (o : Oper), l[j]? = some o → ∀ i, ((befs l acc).getD (acc.length + j) 0).testBit i = true → ∃ e ∈ o.after.toList, Region.binds .any e = true ∧ e.on < acc.length + j ∧ (e.on = i ∨ ((befs l acc).getD e.on 0).testBit i = true)
  | [], acc, _ => by simp [befs]
  | o :: l, acc, hb => by
    unfold backEdges at hb
    rw [Bool.and_eq_true] at hb
    obtain ⟨hb1, hb2⟩ := hb
    unfold befs
    obtain ⟨x, hx⟩ : ∃ x, x = o.after.toList.foldl (fun s e => if Region.binds .any e then s ||| 2 ^ e.on ||| acc.getD e.on 0 else s) 0 := ⟨_, rfl⟩
    rw [← hx]
    have hlen : (acc ++ [x]).length = acc.length + 1 := by simp
    obtain ⟨h1, h2⟩ := befs_spec l (acc ++ [x]) (by rw [hlen]; exact hb2)
    have old : ∀ i, i < acc.length → (befs l (acc ++ [x])).getD i 0 = acc.getD i 0 := fun i hi => by
      rw [h1 i (by omega)]
      simp only [List.getD_eq_getElem?_getD]
      rw [List.getElem?_append_left hi]
    refine ⟨old, fun j o' ho' i hi => ?_⟩
    cases j with
    | zero =>
      simp only [List.getElem?_cons_zero, Option.some.injEq] at ho'
      subst ho'
      rw [Nat.add_zero, h1 _ (by omega)] at hi
      have e0 : (acc ++ [x]).getD acc.length 0 = x := by simp [List.getD_eq_getElem?_getD]
      rw [e0, hx, fold_test (fun i => acc.getD i 0)] at hi
      rcases hi with hi | ⟨e, he, hbe, hi⟩
      · simp at hi
      · have hlt : e.on < acc.length := by
          have := List.all_eq_true.1 hb1 e he
          rw [hbe] at this
          simpa [Nat.blt_eq] using this
        exact ⟨e, he, hbe, by omega, hi.imp id (fun h => by rw [old _ hlt]; exact h)⟩
    | succ j =>
      have := h2 j o' (by simpa using ho') i (by rw [hlen, show acc.length + 1 + j = acc.length + (j + 1) by omega]; exact hi)
      obtain ⟨e, he, hbe, hlt, hi⟩ := this
      exact ⟨e, he, hbe, by rw [hlen] at hlt; omega, hi⟩

theorem backEdges_at : ∀ (l : List Oper) (k j : Nat) (o : Oper), backEdges k l = true → l[j]? = some o → ∀ e ∈ o.after, Region.binds .any e = true → e.on < k + j
  | [], k, j, o, _, ho => by simp at ho
  | x :: l, k, j, o, hb, ho => by
    unfold backEdges at hb
    rw [Bool.and_eq_true] at hb
    intro e he hbe
    cases j with
    | zero =>
      simp only [List.getElem?_cons_zero, Option.some.injEq] at ho
      subst ho
      have := List.all_eq_true.1 hb.1 e (by simpa using he)
      rw [hbe] at this
      simpa [Nat.blt_eq] using this
    | succ j =>
      have := backEdges_at l (k + 1) j o hb.2 (by simpa using ho) e he hbe
      omega

theorem apartAll_at (ops : Array Oper) (bs : List Nat) : ∀ (l : List Oper) (k j : Nat) (o : Oper), apartAll ops bs k l = true → l[j]? = some o → ∀ i x, i < k + j → ops[i]? = some x → (bs.getD (k + j) 0).testBit i = true ∨ x.apart ops o = true
  | [], k, j, o, _, ho => by simp at ho
  | y :: l, k, j, o, hb, ho => by
    unfold apartAll at hb
    rw [Bool.and_eq_true] at hb
    intro i x hi hx
    cases j with
    | zero =>
      simp only [List.getElem?_cons_zero, Option.some.injEq] at ho
      subst ho
      have := List.all_eq_true.1 hb.1 i (by simpa using hi)
      rw [Bool.or_eq_true, hx] at this
      exact this
    | succ j =>
      have := apartAll_at ops bs l (k + 1) j o hb.2 (by simpa using ho) i x (by omega) hx
      rwa [show k + 1 + j = k + (j + 1) by omega] at this

theorem noSel_at : ∀ (l : List Oper) (o : Oper), noSel l = true → o ∈ l → ∀ cs b, o.op ≠ .select cs b
  | [], _, _, h => by cases h
  | x :: l, o, hn, h => by
    unfold noSel at hn
    rw [Bool.and_eq_true] at hn
    cases h with
    | head => intro cs b e; rw [e] at hn; simp at hn
    | tail _ h => exact noSel_at l o hn.2 h

theorem chain_seq : ∀ (its : List It) (t : Tm) (h : Hp) (tN : Tm) (hN : Hp), Chain t h its tN hN → ∃ (ts : Nat → Tm) (hs : Nat → Hp), ts 0 = t ∧ hs 0 = h ∧ ts its.length = tN ∧ hs its.length = hN ∧
    ∀ (i : Nat) (it : It), its[i]? = some it → it.t = ts i ∧ it.h = hs i ∧ it.h' = hs (i + 1) ∧ ts (i + 1) = upd? (ts i) it.o.dst it.x
  | [], t, h, tN, hN, hc => ⟨fun _ => t, fun _ => h, rfl, rfl, hc.1.symm, hc.2.symm, fun i it hi => by simp at hi⟩
  | it :: its, t, h, tN, hN, hc => by
    obtain ⟨h1, h2, h3⟩ := hc
    obtain ⟨ts, hs, a1, a2, a3, a4, a5⟩ := chain_seq its _ _ tN hN h3
    refine ⟨fun i => match i with | 0 => t | i + 1 => ts i, fun i => match i with | 0 => h | i + 1 => hs i, rfl, rfl, a3, a4, fun i z hz => ?_⟩
    cases i with
    | zero =>
      simp only [List.getElem?_cons_zero, Option.some.injEq] at hz
      subst hz
      exact ⟨h1, h2, a2.symm, a1⟩
    | succ i => exact a5 i z (by simpa using hz)

section
variable {P : Program} {S : Nat → Prop} {w0 w w' : World} {M0 M M' : Mem} {φ φ' : Phi} {h : Hp} {α : Type}

def wrO (its : List It) (i l : Nat) : Bool := match its[i]? with | some it => it.W.contains l | none => false
def rdO (its : List It) (i l : Nat) : Bool := match its[i]? with | some it => it.F.contains l | none => false
def valO (its : List It) (i l : Nat) : Ob := match its[i]? with | some it => (it.h'[l]?).getD .dead | none => .dead
def wrT (its : List It) (i d : Nat) : Bool := match its[i]? with | some it => decide (it.o.dst = some d) | none => false
def rdT (ops : Array Oper) (its : List It) (i d : Nat) : Bool := match its[i]? with | some it => (it.o.looksAt ops).contains d | none => false
def valT (its : List It) (i d : Nat) : AV := match its[i]? with | some it => it.x | none => .top

/-- All that is known of the operations of a region. -/
structure Drawn (P : Program) (ops : Array Oper) (bef : Nat → Nat → Bool) (its : List It) (ts : Nat → Tm) (hs : Nat → Hp) : Prop where
  opsEq : its.map (·.o) = ops.toList
  ok : ∀ it ∈ its, ItOk P ops it
  seq : ∀ (i : Nat) (it : It), its[i]? = some it → it.t = ts i ∧ it.h = hs i ∧ it.h' = hs (i + 1) ∧ ts (i + 1) = upd? (ts i) it.o.dst it.x
  oo : Order its.length bef (wrO its) (rdO its)
  ot : Order its.length bef (wrT its) (rdT ops its)
  back : ∀ i j, bef i j = true → ∀ o : Oper, ops[j]? = some o → ∃ e ∈ o.after, Region.binds .any e = true ∧ (e.on = i ∨ bef i e.on = true)
  edge : ∀ (j : Nat) (o : Oper), ops[j]? = some o → ∀ e ∈ o.after, Region.binds .any e = true → e.on < j
  nosel : ∀ o ∈ ops.toList, ∀ cs b, o.op ≠ .select cs b

variable {ops : Array Oper} {bef : Nat → Nat → Bool} {its : List It} {ts : Nat → Tm} {hs : Nat → Hp}

theorem Drawn.size (D : Drawn P ops bef its ts hs) : its.length = ops.size := by
  have := congrArg List.length D.opsEq
  simpa using this
theorem Drawn.op (D : Drawn P ops bef its ts hs) {i : Nat} {it : It} (h : its[i]? = some it) : ops[i]? = some it.o := by
  have : (its.map (·.o))[i]? = some it.o := by rw [List.getElem?_map, h]; rfl
  rw [D.opsEq] at this
  simpa using this
theorem Drawn.it (D : Drawn P ops bef its ts hs) {i : Nat} {o : Oper} (h : ops[i]? = some o) : ∃ it, its[i]? = some it ∧ it.o = o := by
  have h1 : i < its.length := by rw [D.size]; exact (Array.getElem?_eq_some_iff.1 h).1
  refine ⟨its[i], List.getElem?_eq_getElem h1, ?_⟩
  have := D.op (List.getElem?_eq_getElem h1)
  rw [h] at this
  injection this with this
  exact this.symm

/-- In order. -/
theorem Drawn.lexO (D : Drawn P ops bef its ts hs) (l : Nat) : ∀ i, i ≤ its.length → lastW (wrO its) (valO its) (fun l => ((hs 0)[l]?).getD .dead) (fun _ => true) i l = ((hs i)[l]?).getD .dead
  | 0, _ => rfl
  | i + 1, hi => by
    have hit : its[i]? = some its[i] := List.getElem?_eq_getElem (by omega)
    obtain ⟨_, e2, e3, _⟩ := D.seq i _ hit
    have hok := D.ok _ (List.getElem_mem (show i < its.length by omega))
    unfold lastW
    rw [D.lexO l i (by omega)]
    simp only [wrO, valO, hit, Bool.true_and]
    by_cases hw : its[i].W.contains l = true
    · rw [if_pos hw, e3]
    · rw [if_neg hw]
      have hw : l ∉ its[i].W := by simpa using hw
      by_cases hl : l < its[i].h.length
      · have := hok.same l hl hw
        rw [e2, e3] at this
        rw [this]
      · have h2 : ¬ l < its[i].h'.length := fun h3 => hw (hok.new l (by omega) h3)
        rw [← e2, ← e3, List.getElem?_eq_none (by omega), List.getElem?_eq_none (by omega)]
theorem Drawn.lexT (D : Drawn P ops bef its ts hs) (d : Nat) : ∀ i, i ≤ its.length → lastW (wrT its) (valT its) (ts 0) (fun _ => true) i d = ts i d
  | 0, _ => rfl
  | i + 1, hi => by
    have hit : its[i]? = some its[i] := List.getElem?_eq_getElem (by omega)
    obtain ⟨_, _, _, e4⟩ := D.seq i _ hit
    unfold lastW
    rw [D.lexT d i (by omega)]
    simp only [wrT, valT, hit, Bool.true_and]
    rw [e4]
    cases hd : its[i].o.dst with
    | none => simp [upd?]
    | some j =>
      simp only [upd?, upd_eq, Option.some.injEq, decide_eq_true_eq]
      by_cases e : j = d
      · subst e; simp
      · rw [if_neg e, if_neg (Ne.symm e)]
theorem Drawn.mono (D : Drawn P ops bef its ts hs) (i : Nat) : ∀ j, i ≤ j → j ≤ its.length → (hs i).length ≤ (hs j).length
  | 0, hij, _ => by have : i = 0 := by omega
                    subst this; exact Nat.le_refl _
  | j + 1, hij, hj => by
    by_cases e : i = j + 1
    · subst e; exact Nat.le_refl _
    · have hit : its[j]? = some its[j] := List.getElem?_eq_getElem (by omega)
      obtain ⟨_, e2, e3, _⟩ := D.seq j _ hit
      have hok := D.ok _ (List.getElem_mem (show j < its.length by omega))
      have := hok.len
      rw [e2, e3] at this
      exact Nat.le_trans (D.mono i j (by omega) (by omega)) this

/-- The objects and temporaries when those of L have come up. -/
def hpL (its : List It) (hs : Nat → Hp) (L : Nat → Bool) : Hp := (List.range (hs its.length).length).map (lastW (wrO its) (valO its) (fun l => ((hs 0)[l]?).getD .dead) L its.length)
def tmL (its : List It) (ts : Nat → Tm) (L : Nat → Bool) : Tm := lastW (wrT its) (valT its) (ts 0) L its.length
theorem hpL_get (L : Nat → Bool) (l : Nat) : (hpL its hs L)[l]? = if l < (hs its.length).length then some (lastW (wrO its) (valO its) (fun l => ((hs 0)[l]?).getD .dead) L its.length l) else none := by
  unfold hpL
  rw [List.getElem?_map]
  by_cases hl : l < (hs its.length).length
  · rw [if_pos hl, List.getElem?_range hl]; rfl
  · rw [if_neg hl, List.getElem?_eq_none (by simpa using hl)]; rfl
theorem hpL_length (L : Nat → Bool) : (hpL its hs L).length = (hs its.length).length := by simp [hpL]

structure Inv (P : Program) (its : List It) (ts : Nat → Tm) (hs : Nat → Hp) (S : Nat → Prop) (w0 : World) (M0 Mi : Mem) (φi : Phi) (m N : Nat) (L : Nat → Bool) (M : Mem) (φ : Phi) (a : Act) (w : World) : Prop where
  rel : Rel P S w0 M0 M φ (hpL its hs L) w
  tmp : TRel M φ N (tmL its ts L) a
  mem : Mi.le M
  phi : φi.eqTo m φ
  fresh : ∀ (i : Nat) (it : It), its[i]? = some it → L i = false → ∀ l, it.h.length ≤ l → l < it.h'.length → φ l = none

theorem tmpsOf_mem {j : Nat} : ∀ (l : List Operand), j ∈ tmpsOf l → Operand.tmp j ∈ l
  | [], h => by simp [tmpsOf] at h
  | .tmp k :: l, h => by
    simp only [tmpsOf, List.mem_cons] at h
    rcases h with rfl | h
    · exact List.mem_cons_self
    · exact List.mem_cons_of_mem _ (tmpsOf_mem l h)
  | .const _ :: l, h => List.mem_cons_of_mem _ (tmpsOf_mem l (by simpa [tmpsOf] using h))
  | .global _ :: l, h => List.mem_cons_of_mem _ (tmpsOf_mem l (by simpa [tmpsOf] using h))
  | .func _ :: l, h => List.mem_cons_of_mem _ (tmpsOf_mem l (by simpa [tmpsOf] using h))
theorem looks_tmps {o : Oper} {j : Nat} (h : j ∈ tmpsOf o.op.operands.toList) : j ∈ o.looksAt ops := by
  unfold Oper.looksAt
  refine List.mem_append_left _ (List.mem_filterMap.2 ⟨.tmp j, tmpsOf_mem _ h, rfl⟩)
theorem looks_guard {o : Oper} {j : Nat} (h : j ∈ guardTmps ops o) : j ∈ o.looksAt ops := by
  unfold guardTmps at h
  unfold Oper.looksAt
  refine List.mem_append_right _ ?_
  split at h
  · rename_i g q hg
    rw [hg]
    split at h
    · rename_i o' ho
      simp only [ho, Option.bind_some]
      split at h
      · rename_i d hd
        rw [hd]; simpa using h
      · cases h
    · cases h
  · cases h
theorem maskT_in {l : List Nat} {t : Tm} {j : Nat} (h : j ∈ l) : maskT l t j = t j := by
  unfold maskT
  have : l.any (Nat.beq j) = true := List.any_eq_true.2 ⟨j, h, Nat.beq_refl j⟩
  rw [this]
theorem maskT_out {l : List Nat} {t : Tm} {j : Nat} (h : j ∉ l) : maskT l t j = .top := by
  unfold maskT
  have : l.any (Nat.beq j) = false := by
    rw [← Bool.not_eq_true, List.any_eq_true]
    rintro ⟨k, hk, e⟩
    have := Nat.eq_of_beq_eq_true e
    subst this
    exact h hk
  rw [this]

/-- One that may come up. -/
theorem Inv.step (D : Drawn P ops bef its ts hs) {Mi : Mem} {φi : Phi} {m N : Nat} {L L' : Nat → Bool} {a : Act} {i : Nat} {it : It} (hI : Inv P its ts hs S w0 M0 Mi φi m N L M φ a w) (hm : m ≤ (hs 0).length)
    (hit : its[i]? = some it) (hLi : L i = false) (hup : ∀ j, j < its.length → L j = true → bef i j = false) (hdn : ∀ j, bef j i = true → L j = true) (hL' : ∀ j, L' j = (decide (j = i) || L j)) (hdst : ∀ j, it.o.dst = some j → j < N)
    {K : Act → World → Prop} {Q : Exit → Act → World → Prop} (hK : ∀ M' φ' a' w', Inv P its ts hs S w0 M0 Mi φi m N L' M' φ' a' w' → K a' w') : wpOp P ops Q i K a w := by
  have hi : i < its.length := (List.getElem?_eq_some_iff.1 hit).1
  obtain ⟨et, eh, eh', ets⟩ := D.seq i it hit
  have hok := D.ok it (List.mem_of_getElem? hit)
  have readT : ∀ d, d ∈ it.o.looksAt ops → tmL its ts L d = it.t d := by
    intro d hd
    have := lastW_read (val := valT its) (f0 := ts 0) D.ot hi hLi hup hdn (l := d) (by simp only [rdT, hit]; simpa using hd)
    rw [D.lexT d i (Nat.le_of_lt hi)] at this
    rw [et]; exact this
  have readO : ∀ l, l ∈ it.F → lastW (wrO its) (valO its) (fun l => ((hs 0)[l]?).getD .dead) L its.length l = ((it.h)[l]?).getD .dead := by
    intro l hl
    have := lastW_read (val := valO its) (f0 := fun l => ((hs 0)[l]?).getD .dead) D.oo hi hLi hup hdn (l := l) (by simp only [rdO, hit]; simpa using hl)
    rw [D.lexO l i (Nat.le_of_lt hi)] at this
    rw [eh]; exact this
  have wT : ∀ d, tmL its ts L' d = upd? (tmL its ts L) it.o.dst it.x d := by
    intro d
    have := lastW_write (val := valT its) (f0 := ts 0) (l := d) D.ot hi hLi hup hL'
    unfold tmL
    rw [this]
    simp only [wrT, valT, hit]
    cases hd : it.o.dst with
    | none => simp [upd?]
    | some j =>
      simp only [upd?, upd_eq, Option.some.injEq, decide_eq_true_eq]
      by_cases e : j = d
      · subst e; simp
      · rw [if_neg e, if_neg (Ne.symm e)]
  have wO : ∀ l, lastW (wrO its) (valO its) (fun l => ((hs 0)[l]?).getD .dead) L' its.length l = if it.W.contains l then ((it.h')[l]?).getD .dead else lastW (wrO its) (valO its) (fun l => ((hs 0)[l]?).getD .dead) L its.length l := by
    intro l
    have := lastW_write (val := valO its) (f0 := fun l => ((hs 0)[l]?).getD .dead) (l := l) D.oo hi hLi hup hL'
    simpa only [wrO, valO, hit] using this
  have hTg : TRel M φ N (maskT (guardTmps ops it.o) it.t) a := by
    refine ⟨hI.tmp.size, fun j => ?_, hI.tmp.defers⟩
    by_cases hj : j ∈ guardTmps ops it.o
    · rw [maskT_in hj, ← readT j (looks_guard hj)]; exact hI.tmp.val j
    · rw [maskT_out hj]; exact .top
  have hN1 : it.h'.length ≤ (hs its.length).length := by rw [eh']; exact D.mono (i + 1) its.length (by omega) (Nat.le_refl _)
  have hN0 : (hs 0).length ≤ it.h.length := by rw [eh]; exact D.mono 0 i (Nat.zero_le _) (Nat.le_of_lt hi)
  have putT : ∀ {M' : Mem} {φ' : Phi} {v' : Value}, TRel M' φ' N (tmL its ts L) a → RepA M' φ' v' it.x → TRel M' φ' N (tmL its ts L') (a.put it.o.dst v') := by
    intro M' φ' v' h1 h2
    have := h1.put? hdst h2
    exact ⟨this.size, fun j => by rw [wT j]; exact this.val j, this.defers⟩
  unfold wpOp
  rw [D.op hit]
  simp only
  rcases hok.does with ⟨hw, hx, hh, hW, hF⟩ | ⟨hw, hrefs, hclosed, d, hd, hWd, hdF, hdoes⟩
  · rw [if_neg (by rw [hw M φ N a hTg]; simp)]
    refine hK M φ _ w ⟨?_, putT hI.tmp (by rw [hx]; exact .undef), hI.mem, hI.phi, fun j z hz hLj => ?_⟩
    · have : hpL its hs L' = hpL its hs L := by
        unfold hpL
        congr 1
        funext l
        rw [wO l, hW]; simp
      rw [this]; exact hI.rel
    · rw [hL' j, Bool.or_eq_false_iff] at hLj
      exact hI.fresh j z hz hLj.2
  · rw [if_pos (hw M φ N a hTg)]
    refine .inl ?_
    have hml : (mask (bits it.F) 0 it.h).length = it.h.length := mask_length _ _ _
    have mget : ∀ (l : Nat) (o : Ob), (mask (bits it.F) 0 it.h)[l]? = some o → o.alive = true → l ∈ it.F ∧ it.h[l]? = some o := by
      intro l o ho ha
      rw [mask_get] at ho
      cases hh : it.h[l]? with
      | none => rw [hh] at ho; simp at ho
      | some q =>
        rw [hh] at ho
        simp only [Option.map_some, Nat.zero_add, Option.some.injEq] at ho
        by_cases hb : (bits it.F).testBit l = true
        · rw [if_pos hb] at ho; exact ⟨(testBit_bits _ _).1 hb, by rw [ho]⟩
        · rw [if_neg hb] at ho; subst ho; simp [Ob.alive] at ha
    have inH : ∀ (l : Nat) (o : Ob), l ∈ it.F → it.h[l]? = some o → (hpL its hs L)[l]? = some o := by
      intro l o hl ho
      have hlt := hok.lt l hl
      rw [hpL_get, if_pos (by have := hok.len; omega), readO l hl, ho]; rfl
    have hsub := hI.rel.sub (F := it.F) (hm := mask (bits it.F) 0 it.h) (fun l o ho ha => by
      obtain ⟨h1, h2⟩ := mget l o ho ha
      exact ⟨inH l o h1 h2, h1, hclosed l h1 o h2⟩) (fun l hl => by rw [hml]; exact hok.lt l hl)
    have hTo : TRel M (φ.only it.F) N (maskT (tmpsOf it.o.op.operands.toList) it.t) a := by
      refine ⟨hI.tmp.size, fun j => ?_, hI.tmp.defers⟩
      by_cases hj : j ∈ tmpsOf it.o.op.operands.toList
      · rw [maskT_in hj]
        have h1 := hI.tmp.val j
        rw [readT j (looks_tmps hj)] at h1
        exact h1.only (fun l hl => hrefs l (mem_avRefsL.2 ⟨it.t j, List.mem_map.2 ⟨j, hj, rfl⟩, hl⟩))
      · rw [maskT_out hj]; exact .top
    refine hdoes _ w M M (φ.only it.F) w N a hsub hTo _ _ fun v' w' hL => ?_
    obtain ⟨M', φ', g1, g2, g3, g4⟩ := hL
    rw [hml] at g2
    have hlen' : (applyD (mask (bits it.F) 0 it.h) d).length = it.h'.length := by rw [hd]; exact applyD_len_eq d _ _ hml
    obtain ⟨φn, hφn⟩ : ∃ φn : Phi, φn = fun l => if it.h.length ≤ l ∧ l < it.h'.length then φ' l else φ l := ⟨_, rfl⟩
    have n1 : ∀ l, it.h.length ≤ l → l < it.h'.length → φn l = φ' l := fun l h1 h2 => by rw [hφn]; exact if_pos ⟨h1, h2⟩
    have n2 : ∀ l, ¬ (it.h.length ≤ l ∧ l < it.h'.length) → φn l = φ l := fun l h1 => by rw [hφn]; exact if_neg h1
    have hle : φ.le φn := by
      intro l x hx
      rw [n2 l (fun h => by rw [hI.fresh i it hit hLi l h.1 h.2] at hx; cases hx)]; exact hx
    have hφ' : ∀ l x, φ' l = some x → φn l = some x := by
      intro l x hx
      by_cases hl : l < it.h.length
      · rw [n2 l (by omega)]
        rw [g2.2 l hl] at hx
        unfold Phi.only at hx
        split at hx
        · exact hx
        · cases hx
      · rw [n1 l (by omega) (by rw [← hlen']; exact g3.dom l x hx)]; exact hx
    refine hK M' φn _ w' ⟨hI.rel.merge (F := (· ∈ it.F)) (s := id) (H := hpL its hs L') (φn := φn) g3 ?_ (fun _ _ _ _ e => e) ?_ hle (fun l x hx => hφ' l x hx) ?_, putT (hI.tmp.mono g1 hle) ?_, hI.mem.trans g1, ?_, ?_⟩
    · rintro b ⟨l, o, x, ho, ha, hx, hb⟩
      obtain ⟨h1, h2⟩ := mget l o ho ha
      refine ⟨l, o, x, h1, inH l o h1 h2, ha, ?_, hb⟩
      unfold Phi.only at hx
      rwa [if_pos h1] at hx
    · intro l o ho ha
      rw [hpL_get] at ho
      split at ho
      · rename_i hlN
        injection ho with ho
        rw [wO l] at ho
        by_cases hw : it.W.contains l = true
        · rw [if_pos hw] at ho
          left
          have hlt : it.h'[l]? = some o := by
            cases h1 : it.h'[l]? with
            | none => rw [h1] at ho; simp at ho; subst ho; simp [Ob.alive] at ha
            | some q => rw [h1] at ho; simp at ho; rw [ho]
          refine ⟨l, o, rfl, ?_, (Ob.ren_id o).symm⟩
          rw [← hlt, hd]
          refine applyD_agree d _ _ l hml ?_
          have hw : l ∈ it.W := by simpa using hw
          rw [hWd] at hw
          rcases List.mem_append.1 hw with h1 | h1
          · exact .inr h1
          · left
            have h2 := (List.mem_range'_1.1 h1).1
            rw [List.getElem?_eq_none (by rw [hml]; exact h2), List.getElem?_eq_none h2]
        · rw [if_neg hw] at ho
          have hw : l ∉ it.W := by simpa using hw
          by_cases hF : l ∈ it.F
          · left
            have hlt := hok.lt l hF
            rw [readO l hF] at ho
            have hg : it.h[l]? = some o := by
              rw [List.getElem?_eq_getElem hlt] at ho ⊢
              simpa using ho
            refine ⟨l, o, rfl, ?_, (Ob.ren_id o).symm⟩
            show (applyD (mask (bits it.F) 0 it.h) d)[l]? = some o
            rw [applyD_other d _ l (by rw [hml]; exact hlt) (fun h1 => hw (by rw [hWd]; exact List.mem_append_left _ h1)), mask_get, hg]
            simp [(testBit_bits it.F l).2 hF]
          · right
            exact ⟨hF, by rw [hpL_get, if_pos hlN, ho]⟩
      · cases ho
    · intro l x hx
      rw [hpL_length]
      by_cases hc : it.h.length ≤ l ∧ l < it.h'.length
      · omega
      · rw [n2 l hc] at hx
        have := hI.rel.dom l x hx
        rwa [hpL_length] at this
    · have := g4.ren (φ' := φn) id (fun l _ x hx => hφ' l x hx)
      rwa [AV.ren_id] at this
    · intro l hl
      rw [n2 l (by omega)]
      exact hI.phi l hl
    · intro j z hz hLj l h1 h2
      rw [hL' j, Bool.or_eq_false_iff] at hLj
      have hne : j ≠ i := by simpa using hLj.1
      obtain ⟨_, zh, zh', _⟩ := D.seq j z hz
      have hjn : j < its.length := (List.getElem?_eq_some_iff.1 hz).1
      rw [n2 l (fun hc => ?_)]
      · exact hI.fresh j z hz hLj.2 l h1 h2
      · rw [zh] at h1; rw [zh'] at h2; rw [eh, eh'] at hc
        rcases Nat.lt_or_ge j i with h3 | h3
        · have := D.mono (j + 1) i (by omega) (by omega)
          omega
        · have := D.mono (i + 1) j (by omega) (by omega)
          omega
end
end Go.Fx
