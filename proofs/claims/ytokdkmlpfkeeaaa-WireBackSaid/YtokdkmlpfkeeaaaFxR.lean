/- What a law is handed, read as plain data: by the shape of its type. No further condition than that the type has this shape. -/
import Derived.Test.YtokdkmlpfkeeaaaFxT3
import Derived.Deep.Slices
import Derived.ChangeShapes
import Derived.OpenShut
set_option linter.unusedVariables false
set_option linter.unusedSimpArgs false
namespace Go.Fx
open Go.RowKit

/-- The shapes of plain data. -/
inductive Sh where
  | int (k : IntKind)
  | bool
  | str
  | st (fs : List Sh)
  | arr (n : Nat) (e : Sh)
  | sl (e : Sh)

mutual
def Sh.cells : Sh → Nat
  | .int _ => 1
  | .bool => 1
  | .str => 1
  | .st fs => Sh.cellsL fs
  | .arr n e => n * e.cells
  | .sl _ => 1
def Sh.cellsL : List Sh → Nat
  | [] => 0
  | s :: l => s.cells + Sh.cellsL l
end

mutual
/-- The data of a shape. -/
def Sh.D : Sh → Type
  | .int _ => Int
  | .bool => Bool
  | .str => ByteArray
  | .st fs => Sh.Ds fs
  | .arr _ e => Nat → e.D
  | .sl e => Nat × (Nat → e.D)
def Sh.Ds : List Sh → Type
  | [] => Unit
  | s :: l => s.D × Sh.Ds l
end

mutual
def Sh.pv : (s : Sh) → s.D → List PV
  | .int k, n => [.v (.int k n)]
  | .bool, b => [.v (.bool b)]
  | .str, s => [.v (.string s)]
  | .st fs, d => Sh.pvs fs d
  | .arr n e, d => (List.range n).flatMap fun i => e.pv (d i)
  | .sl e, d => [.sl d.1 (fun i => e.pv (d.2 i))]
def Sh.pvs : (l : List Sh) → Sh.Ds l → List PV
  | [], _ => []
  | s :: l, d => s.pv d.1 ++ Sh.pvs l d.2
end

mutual
def Sh.wf : (s : Sh) → s.D → Prop
  | .int k, n => (Lit.int k n).wf = true
  | .bool, _ => True
  | .str, s => s.size ≤ maxLen
  | .st fs, d => Sh.wfs fs d
  | .arr n e, d => ∀ i, e.wf (d i)
  | .sl e, d => d.1 ≤ maxLen ∧ ∀ i, e.wf (d.2 i)
def Sh.wfs : (l : List Sh) → Sh.Ds l → Prop
  | [], _ => True
  | s :: l, d => s.wf d.1 ∧ Sh.wfs l d.2
end

mutual
def Sh.dflt : (s : Sh) → s.D
  | .int _ => (0 : Int)
  | .bool => false
  | .str => ByteArray.empty
  | .st fs => Sh.dflts fs
  | .arr _ e => fun _ => e.dflt
  | .sl e => (0, fun _ => e.dflt)
def Sh.dflts : (l : List Sh) → Sh.Ds l
  | [] => ()
  | s :: l => (s.dflt, Sh.dflts l)
end

mutual
theorem dflt_wf : ∀ s : Sh, s.wf s.dflt
  | .int k => by simp only [Sh.wf, Sh.dflt]; cases k <;> decide
  | .bool => trivial
  | .str => by simp [Sh.wf, Sh.dflt]
  | .st fs => dflts_wf fs
  | .arr n e => fun _ => dflt_wf e
  | .sl e => ⟨Nat.zero_le _, fun _ => dflt_wf e⟩
theorem dflts_wf : ∀ l : List Sh, Sh.wfs l (Sh.dflts l)
  | [] => trivial
  | s :: l => ⟨dflt_wf s, dflts_wf l⟩
end

mutual
/-- Has the type this shape? -/
def okSh (P : Program) : Sh → TypeId → Bool
  | .int k, t => (match P.underlying t with | some (.int k') => decide (k' = k) | _ => false) && Nat.beq (P.cellsOf t) 1
  | .bool, t => (match P.underlying t with | some .bool => true | _ => false) && Nat.beq (P.cellsOf t) 1
  | .str, t => (match P.underlying t with | some .string => true | _ => false) && Nat.beq (P.cellsOf t) 1
  | .st fs, t => (match P.underlying t with | some (.struct fields) => okShs P fs 0 fields.toList | _ => false) && Nat.beq (P.cellsOf t) (Sh.cellsL fs)
  | .arr n e, t => (match P.underlying t with | some (.array n' u) => Nat.beq n' n && okSh P e u | _ => false) && Nat.beq (P.cellsOf t) (n * e.cells)
  | .sl e, t => (match P.underlying t with | some (.slice u) => okSh P e u && Nat.blt 0 e.cells | _ => false) && Nat.beq (P.cellsOf t) 1
def okShs (P : Program) : List Sh → Nat → List Field → Bool
  | [], _, [] => true
  | s :: l, off, f :: r => okSh P s f.type && Nat.beq f.offset off && okShs P l (off + s.cells) r
  | _, _, _ => false
end

theorem okSh_cells {P : Program} : ∀ {s : Sh} {t : TypeId}, okSh P s t = true → P.cellsOf t = s.cells
  | .int k, t, h => by simp only [okSh, Bool.and_eq_true] at h; simpa [Sh.cells] using Nat.eq_of_beq_eq_true h.2
  | .bool, t, h => by simp only [okSh, Bool.and_eq_true] at h; simpa [Sh.cells] using Nat.eq_of_beq_eq_true h.2
  | .str, t, h => by simp only [okSh, Bool.and_eq_true] at h; simpa [Sh.cells] using Nat.eq_of_beq_eq_true h.2
  | .st fs, t, h => by simp only [okSh, Bool.and_eq_true] at h; simpa [Sh.cells] using Nat.eq_of_beq_eq_true h.2
  | .arr n e, t, h => by simp only [okSh, Bool.and_eq_true] at h; simpa [Sh.cells] using Nat.eq_of_beq_eq_true h.2
  | .sl e, t, h => by simp only [okSh, Bool.and_eq_true] at h; simpa [Sh.cells] using Nat.eq_of_beq_eq_true h.2

mutual
theorem pv_length : ∀ (s : Sh) (d : s.D), (s.pv d).length = s.cells
  | .int k, d => rfl
  | .bool, d => rfl
  | .str, d => rfl
  | .st fs, d => by simp only [Sh.pv, Sh.cells]; exact pvs_length fs d
  | .arr n e, d => by
    simp only [Sh.pv, Sh.cells, List.length_flatMap]
    have : (List.range n).map (fun i => (e.pv (d i)).length) = (List.range n).map fun _ => e.cells := List.map_congr_left fun i _ => pv_length e (d i)
    have s : ∀ (c m : Nat), ((List.range m).map fun _ => c).sum = m * c := by
      intro c m
      induction m with
      | zero => simp
      | succ m ih => rw [List.range_succ, List.map_append, List.sum_append, ih, Nat.succ_mul]; simp
    simp [pv_length e, s]
  | .sl e, d => rfl
theorem pvs_length : ∀ (l : List Sh) (d : Sh.Ds l), (Sh.pvs l d).length = Sh.cellsL l
  | [], _ => rfl
  | s :: l, d => by simp only [Sh.pvs, Sh.cellsL, List.length_append, pv_length s d.1, pvs_length l d.2]
end

/-- The memory as it is. -/
def memOf (w : World) : Mem := fun b o => w.cell? ⟨b, o, none⟩

theorem RepPs.append {M : Mem} {a b : List Value} {c d : List PV} (h : RepPs M a c) (k : RepPs M b d) : RepPs M (a ++ b) (c ++ d) :=
  ⟨by simp [h.1, k.1], fun j v x hv hx => by
    by_cases hj : j < a.length
    · rw [List.getElem?_append_left hj] at hv
      rw [List.getElem?_append_left (by rw [← h.1]; exact hj)] at hx
      exact h.2 j v x hv hx
    · rw [List.getElem?_append_right (by omega)] at hv
      rw [List.getElem?_append_right (by rw [← h.1]; omega), ← h.1] at hx
      exact k.2 _ v x hv hx⟩
theorem RepPs.one {M : Mem} {v : Value} {x : PV} (h : RepP M v x) : RepPs M [v] [x] :=
  ⟨rfl, fun j u y hu hy => by
    cases j with
    | zero => simp at hu hy; subst hu hy; exact h
    | succ j => simp at hu⟩
theorem RepPs.nil {M : Mem} : RepPs M [] [] := ⟨rfl, fun j v x hv => by simp at hv⟩

theorem mapM_some {α β : Type} {f : α → Option β} : ∀ {l : List α} {ys : List β}, l.mapM f = some ys → ys.length = l.length ∧ ∀ (i : Nat) (x : α), l[i]? = some x → ∃ y, f x = some y
  | [], ys, h => by simp at h; subst h; exact ⟨rfl, fun i x hx => by simp at hx⟩
  | a :: l, ys, h => by
    rw [List.mapM_cons] at h
    cases hf : f a with
    | none => rw [hf] at h; cases h
    | some b =>
      rw [hf] at h
      cases hm : l.mapM f with
      | none => rw [hm] at h; cases h
      | some bs =>
        rw [hm] at h
        cases h
        obtain ⟨h1, h2⟩ := mapM_some hm
        refine ⟨by simp [h1], fun i x hx => ?_⟩
        cases i with
        | zero => simp at hx; subst hx; exact ⟨b, hf⟩
        | succ i => exact h2 i x (by simpa using hx)

section
variable {H : Type} {enc : TypeId × Value → H} {P : Program} {w : World} {base : Nat} {spare : Nat → Bool} {held : Bool}

theorem choose_lt' {α : Type} [Inhabited α] {p : Nat → α → Prop} {n : Nat} (h : ∀ i, i < n → ∃ x, p i x) : ∃ f : Nat → α, ∀ i, i < n → p i (f i) := by
  classical
  exact ⟨fun i => if hi : i < n then Classical.choose (h i hi) else default, fun i hi => by
    show p i (if hi : i < n then _ else _)
    rw [dif_pos hi]; exact Classical.choose_spec (h i hi)⟩

theorem cells_split : ∀ (n c : Nat) (cs : List Value), cs.length = n * c → cs = (List.range n).flatMap fun i => (cs.drop (i * c)).take c
  | 0, c, cs, h => by simp at h; simp [h]
  | n + 1, c, cs, h => by
    have hl : (cs.take (n * c)).length = n * c := by rw [List.length_take]; rw [Nat.succ_mul] at h; omega
    have ih := cells_split n c (cs.take (n * c)) hl
    rw [List.range_succ, List.flatMap_append]
    have e1 : (List.range n).flatMap (fun i => (cs.drop (i * c)).take c) = cs.take (n * c) := by
      rw [ih]
      rw [List.flatMap_def, List.flatMap_def]
      congr 1
      refine List.map_congr_left fun i hi => ?_
      have hi' : i < n := by simpa using hi
      rw [List.drop_take, List.take_take]
      congr 1
      have : (i + 1) * c ≤ n * c := Nat.mul_le_mul_right c hi'
      rw [Nat.succ_mul] at this
      omega
    rw [e1]
    simp only [List.flatMap_cons, List.flatMap_nil, List.append_nil]
    rw [List.take_of_length_le (l := cs.drop (n * c)) (by rw [List.length_drop, h, Nat.succ_mul]; omega)]
    exact (List.take_append_drop _ _).symm

mutual
theorem readSh : ∀ (s : Sh) {fuel : Nat} {t : TypeId} {cs : List Value} {x : DataW H × List MemPlace}, okSh P s t = true → DataW.trod enc P w base spare held fuel t cs = some x → ∃ d : s.D, RepPs (memOf w) cs (s.pv d) ∧ s.wf d
  | .int k, fuel, t, cs, x, ok, h => by
    simp only [okSh, Bool.and_eq_true] at ok
    have hu : P.underlying t = some (.int k) := by
      cases hu : P.underlying t with
      | none => rw [hu] at ok; simp at ok
      | some u => rw [hu] at ok; cases u <;> simp at ok; rw [ok.1]
    obtain ⟨n, rfl, rfl, hw⟩ := DataW.trod_int hu h
    exact ⟨n, .one (.v rfl), hw⟩
  | .bool, fuel, t, cs, x, ok, h => by
    simp only [okSh, Bool.and_eq_true] at ok
    have hu : P.underlying t = some .bool := by
      cases hu : P.underlying t with
      | none => rw [hu] at ok; simp at ok
      | some u => rw [hu] at ok; cases u <;> simp at ok; rfl
    obtain ⟨n, rfl, rfl⟩ := DataW.trod_bool hu h
    exact ⟨n, .one (.v rfl), trivial⟩
  | .str, fuel, t, cs, x, ok, h => by
    simp only [okSh, Bool.and_eq_true] at ok
    have hu : P.underlying t = some .string := by
      cases hu : P.underlying t with
      | none => rw [hu] at ok; simp at ok
      | some u => rw [hu] at ok; cases u <;> simp at ok; rfl
    obtain ⟨n, rfl, rfl, hw⟩ := DataW.trod_string hu h
    exact ⟨n, .one (.v rfl), hw⟩
  | .st fs, fuel, t, cs, x, ok, h => by
    have hc := okSh_cells ok
    simp only [okSh, Bool.and_eq_true] at ok
    obtain ⟨fields, hu, hf⟩ : ∃ fields, P.underlying t = some (.struct fields) ∧ okShs P fs 0 fields.toList = true := by
      cases hu : P.underlying t with
      | none => rw [hu] at ok; simp at ok
      | some u => rw [hu] at ok; cases u <;> simp at ok; exact ⟨_, rfl, ok.1⟩
    obtain ⟨xs, n, _, rfl, hl, hlen, hel⟩ := DataW.trod_struct hu h
    obtain ⟨d, h1, h2⟩ := readShs fs (fields := fields.toList) (off := 0) (cs := cs) (fuel := n) hf (by rw [hl, hc, Sh.cells]; simp) (fun i f hi => by
      obtain hlt := (List.getElem?_eq_some_iff.1 hi).1
      have := hel i f (by simpa using hi)
      rw [List.getElem?_eq_getElem (show i < xs.length by rw [hlen]; exact hlt)] at this
      exact ⟨_, this⟩)
    exact ⟨d, h1, h2⟩
  | .arr n e, fuel, t, cs, x, ok, h => by
    have hc := okSh_cells ok
    simp only [okSh, Bool.and_eq_true] at ok
    obtain ⟨u, hu, he⟩ : ∃ u, P.underlying t = some (.array n u) ∧ okSh P e u = true := by
      cases hu : P.underlying t with
      | none => rw [hu] at ok; simp at ok
      | some u =>
        rw [hu] at ok
        cases u <;> simp at ok
        obtain ⟨⟨h1, h2⟩, _⟩ := ok
        subst h1
        exact ⟨_, rfl, h2⟩
    obtain ⟨xs, m, _, rfl, hl, hlen, hel⟩ := DataW.trod_array hu h
    have hce := okSh_cells he
    have one : ∀ i, i < n → ∃ d : e.D, RepPs (memOf w) ((cs.drop (i * e.cells)).take e.cells) (e.pv d) ∧ e.wf d := by
      intro i hi
      have h1 := hel i hi
      rw [List.getElem?_eq_getElem (show i < xs.length by omega)] at h1
      rw [hce] at h1
      exact readSh e he h1
    have : Inhabited e.D := ⟨e.dflt⟩
    obtain ⟨F0, hF0⟩ := choose_lt' one
    obtain ⟨F, hF, hW⟩ : ∃ F : Nat → e.D, (∀ i, i < n → RepPs (memOf w) ((cs.drop (i * e.cells)).take e.cells) (e.pv (F i)) ∧ e.wf (F i)) ∧ ∀ i, e.wf (F i) := by
      refine ⟨fun i => if i < n then F0 i else e.dflt, fun i hi => by simp only [if_pos hi]; exact hF0 i hi, fun i => ?_⟩
      by_cases hi : i < n
      · simp only [if_pos hi]; exact (hF0 i hi).2
      · simp only [if_neg hi]; exact dflt_wf e
    refine ⟨F, ?_, hW⟩
    rw [cells_split n e.cells cs (by rw [hl, hc, Sh.cells])]
    simp only [Sh.pv]
    have key : ∀ m, m ≤ n → RepPs (memOf w) ((List.range m).flatMap fun i => (cs.drop (i * e.cells)).take e.cells) ((List.range m).flatMap fun i => e.pv (F i)) := by
      intro m
      induction m with
      | zero => intro _; exact RepPs.nil
      | succ m ih =>
        intro hm
        rw [List.range_succ, List.flatMap_append, List.flatMap_append]
        refine (ih (by omega)).append ?_
        simp only [List.flatMap_cons, List.flatMap_nil, List.append_nil]
        exact (hF m (by omega)).1
    exact key n (Nat.le_refl _)
  | .sl e, fuel, t, cs, x, ok, h => by
    simp only [okSh, Bool.and_eq_true] at ok
    obtain ⟨u, hu, he, h0⟩ : ∃ u, P.underlying t = some (.slice u) ∧ okSh P e u = true ∧ 0 < e.cells := by
      cases hu : P.underlying t with
      | none => rw [hu] at ok; simp at ok
      | some u =>
        rw [hu] at ok
        cases u <;> simp at ok
        obtain ⟨⟨h1, h2⟩, _⟩ := ok
        exact ⟨_, rfl, h1, by simpa using h2⟩
    have hce := okSh_cells he
    rcases Deep.open_slice hu h with ⟨rfl, rfl⟩ | ⟨a, len, cap, m, n, D, Pl, rfl, hb, hl, hm, hmm, rfl, hx⟩
    · refine ⟨(0, fun _ => e.dflt), .one ?_, by simp [Sh.wf], fun i => dflt_wf e⟩
      exact .sl none 0 0 0 e.cells (fun _ _ => undef) (Nat.le_refl _) (fun h => by simp at h) (fun i hi => by simp at hi) (fun i j hi => by simp at hi) (fun i j x hi => by simp at hi)
    · have hlm : len ≤ m := by rw [hmm]; split <;> omega
      have one : ∀ i, i < len → ∃ q : e.D × List Value, w.cells? base (a.add (i * e.cells)) e.cells = some q.2 ∧ RepPs (memOf w) q.2 (e.pv q.1) ∧ e.wf q.1 := by
        intro i hi
        obtain ⟨cs', h1, h2⟩ := hx i (by omega)
        rw [hce] at h1
        obtain ⟨d, h3, h4⟩ := readSh e he h2
        exact ⟨(d, cs'), h1, h3, h4⟩
      have : Inhabited (e.D × List Value) := ⟨(e.dflt, [])⟩
      obtain ⟨F0, hF0⟩ := choose_lt' one
      obtain ⟨F, hF, hW⟩ : ∃ F : Nat → e.D × List Value, (∀ i, i < len → w.cells? base (a.add (i * e.cells)) e.cells = some (F i).2 ∧ RepPs (memOf w) (F i).2 (e.pv (F i).1) ∧ e.wf (F i).1) ∧ ∀ i, e.wf (F i).1 := by
        refine ⟨fun i => if i < len then F0 i else (e.dflt, []), fun i hi => by simp only [if_pos hi]; exact hF0 i hi, fun i => ?_⟩
        by_cases hi : i < len
        · simp only [if_pos hi]; exact (hF0 i hi).2.2
        · simp only [if_neg hi]; exact dflt_wf e
      have hspot : 0 < len → a.spot = none := by
        intro h
        obtain ⟨h1, h2, _⟩ := hF 0 h
        obtain ⟨_, h4, h5⟩ := World.cells?_some h1
        have h6 := h5 0 h0
        rw [List.getElem?_eq_getElem (by omega)] at h6
        unfold World.cell? at h6
        split at h6
        · split at h6
          · cases h6
          · rename_i hs
            simp [Addr.add] at hs
            exact hs
        · cases h6
      refine ⟨(len, fun i => (F i).1), .one ?_, ⟨Nat.le_trans hl hm, hW⟩⟩
      refine .sl (some a) cap a.block a.off e.cells (fun i j => (F i).2.getD j undef) hl (fun h => ?_) (fun i hi => pv_length e _) (fun i j hi hj => ?_) (fun i j x hi hxx => ?_)
      · have := hspot h
        cases a
        simp at this
        subst this
        rfl
      · obtain ⟨h1, h2, _⟩ := hF i hi
        obtain ⟨_, h4, h5⟩ := World.cells?_some h1
        have h6 := h5 j hj
        have hs := hspot (by omega)
        have e1 : (a.add (i * e.cells)).add j = ⟨a.block, a.off + (i * e.cells + j), none⟩ := by
          rw [Deep.add_add]
          cases a
          simp at hs
          subst hs
          simp [Addr.add]
        rw [e1] at h6
        unfold memOf
        rw [h6, List.getElem?_eq_getElem (by omega), List.getD_eq_getElem?_getD, List.getElem?_eq_getElem (by omega)]
        rfl
      · obtain ⟨h1, h2, _⟩ := hF i hi
        have hj : j < (e.pv (F i).1).length := (List.getElem?_eq_some_iff.1 hxx).1
        have hj' : j < (F i).2.length := by rw [h2.1]; exact hj
        refine h2.2 j _ x ?_ hxx
        rw [List.getD_eq_getElem?_getD, List.getElem?_eq_getElem hj']
        rfl
theorem readShs : ∀ (l : List Sh) {fields : List Field} {off : Nat} {cs : List Value} {fuel : Nat}, okShs P l off fields = true → cs.length = off + Sh.cellsL l →
    (∀ (i : Nat) (f : Field), fields[i]? = some f → ∃ y, DataW.trod enc P w base spare held fuel f.type ((cs.drop f.offset).take (P.cellsOf f.type)) = some y) →
    ∃ d : Sh.Ds l, RepPs (memOf w) (cs.drop off) (Sh.pvs l d) ∧ Sh.wfs l d
  | [], fields, off, cs, fuel, ok, hl, hf => ⟨(), by rw [List.drop_of_length_le (by rw [hl, Sh.cellsL]; omega)]; exact RepPs.nil, trivial⟩
  | s :: l, fields, off, cs, fuel, ok, hl, hf => by
    cases fields with
    | nil => simp [okShs] at ok
    | cons f r =>
      simp only [okShs, Bool.and_eq_true] at ok
      obtain ⟨⟨ok1, ok2⟩, ok3⟩ := ok
      have hoff : f.offset = off := Nat.eq_of_beq_eq_true ok2
      obtain ⟨y, hy⟩ := hf 0 f rfl
      rw [hoff, okSh_cells ok1] at hy
      obtain ⟨d1, h1, h2⟩ := readSh s ok1 hy
      obtain ⟨d2, h3, h4⟩ := readShs l (fields := r) (off := off + s.cells) (cs := cs) (fuel := fuel) ok3 (by rw [hl, Sh.cellsL]; omega) (fun i g hi => hf (i + 1) g (by simpa using hi))
      refine ⟨(d1, d2), ?_, h2, h4⟩
      have e1 : cs.drop off = (cs.drop off).take s.cells ++ cs.drop (off + s.cells) := by
        rw [← List.drop_drop]; exact (List.take_append_drop _ _).symm
      rw [e1]
      exact h1.append h3
end
end
end Go.Fx
