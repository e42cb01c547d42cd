/- The small interpreter's values and the model's: how they stand to one another, and that this lasts. -/
import Derived.Test.YtokdkmlpfkeeaaaFx0
import Derived.Laws.AppendOwn
import Derived.Laws.CopyRow
import Derived.Laws.Rows
import Derived.Below
import Derived.Maps.Views
set_option linter.unusedVariables false
namespace Go.Fx
open Go.RowKit

/-- What lasts: cells, by block and place, that nobody writes any more. -/
abbrev Mem := Nat → Nat → Option Value
def Mem.le (M M' : Mem) : Prop := ∀ b o v, M b o = some v → M' b o = some v
theorem Mem.le.refl (M : Mem) : M.le M := fun _ _ _ h => h
theorem Mem.le.trans {A B C : Mem} (h : A.le B) (k : B.le C) : A.le C := fun b o v x => k b o v (h b o v x)

/-- Where an object lies. -/
inductive Loc where
  | box (b : Nat)
  | row (v : Value) (sz : Nat)
  | iter (r : Nat)
abbrev Phi := Nat → Option Loc
def Phi.le (f g : Phi) : Prop := ∀ l x, f l = some x → g l = some x
theorem Phi.le.refl (M : Phi) : M.le M := fun _ _ h => h
theorem Phi.le.trans {A B C : Phi} (h : A.le B) (k : B.le C) : A.le C := fun b o x => k b o (h b o x)
def Loc.blk : Loc → Option Nat
  | .box b => some b
  | .row v _ => v.ownBlock
  | .iter r => some r

inductive RepP (M : Mem) : Value → PV → Prop
  | v {x : Value} (h : scalar x = true) : RepP M x (.v x)
  | sl {n : Nat} {f : Nat → List PV} (a : Option Addr) (cap b o sz : Nat) (c : Nat → Nat → Value) (hn : n ≤ cap) (ha : 0 < n → a = some ⟨b, o, none⟩) (hl : ∀ i : Nat, i < n → (f i).length = sz)
      (hM : ∀ i j : Nat, i < n → j < sz → M b (o + (i * sz + j)) = some (c i j)) (hc : ∀ (i j : Nat) (x : PV), i < n → (f i)[j]? = some x → RepP M (c i j) x) : RepP M (.slice a n cap) (.sl n f)
  | ifc {t : TypeId} {x : Value} {y : PV} (h : RepP M x y) : RepP M (.iface t x) (.ifc t y)
  | ifa {t : TypeId} {vs : List Value} {ps : List PV} (hl : vs.length = ps.length) (h : ∀ (j : Nat) (v : Value) (x : PV), vs[j]? = some v → ps[j]? = some x → RepP M v x) : RepP M (.iface t (.agg vs.toArray)) (.ifa t ps)

theorem RepP.mono {M M' : Mem} (hm : M.le M') {x : Value} {y : PV} (h : RepP M x y) : RepP M' x y := by
  induction h with
  | v h => exact .v h
  | sl a cap b o sz c hn ha hl hM hc ih => exact .sl a cap b o sz c hn ha hl (fun i j hi hj => hm _ _ _ (hM i j hi hj)) (fun i j x hi hx => ih i j x hi hx)
  | ifc h ih => exact .ifc ih
  | ifa hl h ih => exact .ifa hl (fun j v x hv hx => ih j v x hv hx)

theorem scalar_one {x : Value} (h : scalar x = true) : x.oneCell' = true := by
  cases x <;> first | rfl | (simp [scalar] at h)
theorem RepP.one {M : Mem} {x : Value} {y : PV} (h : RepP M x y) : x.oneCell' = true := by
  cases h with
  | v h => exact scalar_one h
  | sl => rfl
  | ifc => rfl
  | ifa => rfl

inductive RepC (M : Mem) (φ : Phi) : Value → CV → Prop
  | p {x : Value} {y : PV} (h : RepP M x y) : RepC M φ x (.p y)
  | nils : RepC M φ (.slice none 0 0) .nils
  | ptr {l b off : Nat} (h : φ l = some (.box b)) : RepC M φ (.pointer (some ⟨b, off, none⟩)) (.ptr l off)
  | it {l r : Nat} (h : φ l = some (.iter r)) : RepC M φ (.pointer (some ⟨r, 0, none⟩)) (.itp l)
  | mp {l r : Nat} (h : φ l = some (.iter r)) : RepC M φ (.map (some r)) (.mp l)
  | ep {l g n cap sz i off : Nat} (h : φ l = some (.row (.slice (some ⟨g, 0, none⟩) n cap) sz)) : RepC M φ (.pointer (some ⟨g, i * sz + off, none⟩)) (.ep l i off)
  | os {l sz : Nat} {v : Value} (h : φ l = some (.row v sz)) (h1 : v.oneCell' = true) : RepC M φ v (.os l)
  | bs {l b off sz n cap : Nat} (h : φ l = some (.box b)) (hn : n ≤ cap) : RepC M φ (.slice (some ⟨b, off, none⟩) n cap) (.bs l off sz n)
  | ip {b o : Nat} {cs : List PV} (c : Nat → Value) (hM : ∀ j : Nat, j < cs.length → M b (o + j) = some (c j)) (hc : ∀ (j : Nat) (x : PV), cs[j]? = some x → RepP M (c j) x) : RepC M φ (.pointer (some ⟨b, o, none⟩)) (.ip cs)
  | fn {f : FuncId} {vs : List Value} {cs : List CV} (hl : vs.length = cs.length) (h : ∀ (j : Nat) (v : Value) (x : CV), vs[j]? = some v → cs[j]? = some x → RepC M φ v x) : RepC M φ (.func (.func f) #[] vs.toArray) (.fn f cs)

theorem RepC.mono {M M' : Mem} {φ φ' : Phi} (hm : M.le M') (hf : φ.le φ') {x : Value} {y : CV} (h : RepC M φ x y) : RepC M' φ' x y := by
  induction h with
  | p h => exact .p (h.mono hm)
  | nils => exact .nils
  | ptr h => exact .ptr (hf _ _ h)
  | it h => exact .it (hf _ _ h)
  | mp h => exact .mp (hf _ _ h)
  | ep h => exact .ep (hf _ _ h)
  | os h h1 => exact .os (hf _ _ h) h1
  | bs h hn => exact .bs (hf _ _ h) hn
  | ip c hM hc => exact .ip c (fun j hj => hm _ _ _ (hM j hj)) (fun j x hx => (hc j x hx).mono hm)
  | fn hl h ih => exact .fn hl (fun j v x hv hx => ih j v x hv hx)
theorem RepC.one {M : Mem} {φ : Phi} {x : Value} {y : CV} (h : RepC M φ x y) : x.oneCell' = true := by
  cases h with
  | p h => exact h.one
  | os h h1 => exact h1
  | _ => rfl

/-- Lists of cells, side by side. -/
def RepCs (M : Mem) (φ : Phi) (vs : List Value) (cs : List CV) : Prop := vs.length = cs.length ∧ ∀ (j : Nat) (v : Value) (x : CV), vs[j]? = some v → cs[j]? = some x → RepC M φ v x
def RepPs (M : Mem) (vs : List Value) (cs : List PV) : Prop := vs.length = cs.length ∧ ∀ (j : Nat) (v : Value) (x : PV), vs[j]? = some v → cs[j]? = some x → RepP M v x
theorem RepCs.mono {M M' : Mem} {φ φ' : Phi} (hm : M.le M') (hf : φ.le φ') {x : List Value} {y : List CV} (h : RepCs M φ x y) : RepCs M' φ' x y := ⟨h.1, fun j v c hv hc => (h.2 j v c hv hc).mono hm hf⟩
theorem RepPs.mono {M M' : Mem} (hm : M.le M') {x : List Value} {y : List PV} (h : RepPs M x y) : RepPs M' x y := ⟨h.1, fun j v c hv hc => (h.2 j v c hv hc).mono hm⟩
theorem RepCs.nil {M : Mem} {φ : Phi} : RepCs M φ [] [] := ⟨rfl, by simp⟩
theorem RepCs.cons {M : Mem} {φ : Phi} {v : Value} {vs : List Value} {c : CV} {cs : List CV} (h : RepC M φ v c) (k : RepCs M φ vs cs) : RepCs M φ (v :: vs) (c :: cs) :=
  ⟨by simp [k.1], fun j v' x hv hx => by
    cases j with
    | zero => simp at hv hx; subst hv hx; exact h
    | succ j => simp at hv hx; exact k.2 j v' x hv hx⟩
theorem RepCs.uncons {M : Mem} {φ : Phi} {vs : List Value} {c : CV} {cs : List CV} (h : RepCs M φ vs (c :: cs)) : ∃ v vs', vs = v :: vs' ∧ RepC M φ v c ∧ RepCs M φ vs' cs := by
  obtain ⟨hl, hh⟩ := h
  cases vs with
  | nil => simp at hl
  | cons v vs => exact ⟨v, vs, rfl, hh 0 v c rfl rfl, by simpa using hl, fun j v' x hv hx => hh (j + 1) v' x hv hx⟩
theorem RepCs.nil_inv {M : Mem} {φ : Phi} {vs : List Value} (h : RepCs M φ vs []) : vs = [] := by simpa using h.1
theorem RepCs.one {M : Mem} {φ : Phi} {x : List Value} {y : List CV} (h : RepCs M φ x y) : ∀ v ∈ x, v.oneCell' = true := by
  intro v hv
  obtain ⟨j, hj⟩ := List.mem_iff_getElem?.1 hv
  have hlt : j < x.length := (List.getElem?_eq_some_iff.1 hj).1
  have : j < y.length := by rw [← h.1]; exact hlt
  exact (h.2 j v _ hj (List.getElem?_eq_getElem this)).one
theorem RepCs.append {M : Mem} {φ : Phi} {a b : List Value} {c d : List CV} (h : RepCs M φ a c) (k : RepCs M φ b d) : RepCs M φ (a ++ b) (c ++ d) :=
  ⟨by simp [h.1, k.1], fun j v x hv hx => by
    by_cases hj : j < a.length
    · rw [List.getElem?_append_left hj] at hv
      rw [List.getElem?_append_left (by rw [← h.1]; exact hj)] at hx
      exact h.2 j v x hv hx
    · rw [List.getElem?_append_right (by omega)] at hv
      rw [List.getElem?_append_right (by rw [← h.1]; omega), ← h.1] at hx
      exact k.2 _ v x hv hx⟩
theorem RepCs.take {M : Mem} {φ : Phi} {a : List Value} {c : List CV} (h : RepCs M φ a c) (n : Nat) : RepCs M φ (a.take n) (c.take n) :=
  ⟨by simp [h.1], fun j v x hv hx => by
    rw [List.getElem?_take] at hv hx
    by_cases hj : j < n
    · rw [if_pos hj] at hv hx; exact h.2 j v x hv hx
    · rw [if_neg hj] at hv; cases hv⟩
theorem RepCs.drop {M : Mem} {φ : Phi} {a : List Value} {c : List CV} (h : RepCs M φ a c) (n : Nat) : RepCs M φ (a.drop n) (c.drop n) :=
  ⟨by simp [h.1], fun j v x hv hx => by
    rw [List.getElem?_drop] at hv hx
    exact h.2 _ v x hv hx⟩
theorem RepPs.toC {M : Mem} {φ : Phi} {a : List Value} {c : List PV} (h : RepPs M a c) : RepCs M φ a (c.map CV.p) :=
  ⟨by simp [h.1], fun j v x hv hx => by
    rw [List.getElem?_map] at hx
    cases hc : c[j]? with
    | none => rw [hc] at hx; simp at hx
    | some y => rw [hc] at hx; simp at hx; subst hx; exact .p (h.2 j v y hv hc)⟩
theorem pures_rep {M : Mem} {φ : Phi} : ∀ {cs : List CV} {ps : List PV} {vs : List Value}, pures cs = some ps → RepCs M φ vs cs → RepPs M vs ps
  | [], ps, vs, h, hr => by simp [pures] at h; subst h; exact ⟨hr.1, fun j v x _ hx => by simp at hx⟩
  | .p y :: cs, ps, vs, h, hr => by
    simp only [pures] at h
    cases hp : pures cs with
    | none => rw [hp] at h; simp at h
    | some r =>
      rw [hp] at h
      simp at h
      subst h
      obtain ⟨v, vs', rfl, hv, hvs⟩ := hr.uncons
      have ih := pures_rep hp hvs
      refine ⟨by simp [ih.1], fun j v' x hv' hx => ?_⟩
      cases j with
      | zero => simp at hv' hx; subst hv' hx; cases hv with | p h => exact h
      | succ j => simp at hv' hx; exact ih.2 j v' x hv' hx
  | .nils :: _, _, _, h, _ => by simp [pures] at h
  | .ptr _ _ :: _, _, _, h, _ => by simp [pures] at h
  | .ep _ _ _ :: _, _, _, h, _ => by simp [pures] at h
  | .os _ :: _, _, _, h, _ => by simp [pures] at h
  | .bs _ _ _ _ :: _, _, _, h, _ => by simp [pures] at h
  | .ip _ :: _, _, _, h, _ => by simp [pures] at h
  | .fn _ _ :: _, _, _, h, _ => by simp [pures] at h
  | .itp _ :: _, _, _, h, _ => by simp [pures] at h
  | .mp _ :: _, _, _, h, _ => by simp [pures] at h

inductive RepA (M : Mem) (φ : Phi) : Value → AV → Prop
  | c {x : Value} {y : CV} (h : RepC M φ x y) : RepA M φ x (.c y)
  | agg {vs : List Value} {cs : List CV} (h : RepCs M φ vs cs) : RepA M φ (.agg vs.toArray) (.agg cs)
  | tup {vs : List Value} {cs : List AV} (hl : vs.length = cs.length) (h : ∀ (j : Nat) (v : Value) (x : AV), vs[j]? = some v → cs[j]? = some x → RepA M φ v x) : RepA M φ (.tuple vs.toArray) (.tup cs)
  | top {x : Value} : RepA M φ x .top
theorem RepA.mono {M M' : Mem} {φ φ' : Phi} (hm : M.le M') (hf : φ.le φ') {x : Value} {y : AV} (h : RepA M φ x y) : RepA M' φ' x y := by
  induction h with
  | c h => exact .c (h.mono hm hf)
  | agg h => exact .agg (h.mono hm hf)
  | tup hl h ih => exact .tup hl (fun j v x hv hx => ih j v x hv hx)
  | top => exact .top
theorem RepA.undef {M : Mem} {φ : Phi} : RepA M φ undef (.tup []) := .tup (vs := []) rfl (by simp)

theorem cells_one {x : Value} (h : x.oneCell' = true) : x.cells = #[x] := by
  cases x <;> first | rfl | (simp [Value.oneCell'] at h)
/-- A value's cells. -/
theorem RepA.cells {M : Mem} {φ : Phi} {x : Value} {y : AV} {cs : List CV} (h : RepA M φ x y) (hc : cellsOf y = some cs) : ∃ vs : List Value, x.cells = vs.toArray ∧ RepCs M φ vs cs := by
  cases h with
  | c h => simp [cellsOf] at hc; subst hc; exact ⟨[x], cells_one h.one, RepCs.cons h RepCs.nil⟩
  | agg h => simp [cellsOf] at hc; subst hc; exact ⟨_, rfl, h⟩
  | tup => simp [cellsOf] at hc
  | top => simp [cellsOf] at hc

/-! ### Objects -/
/-- A map of texts to whole numbers, in a block. -/
def MapAt (P : Program) (w : World) (b : Nat) (t : TypeId) (g : ByteArray → Int) (n : Nat) : Prop :=
  ∃ (k e : TypeId) (D : DataW Unit), P.underlying t = some (.map k e) ∧ Maps.IsMap D ∧ P.underlying k = some .string ∧ P.underlying e = some (.int .i64) ∧ w.ownsMap P k (plainElem P e) b n D ∧ ∀ s : ByteArray, D.atKey (.string s.data.toList) (.lit (.int .i64 0)) = .lit (.int .i64 (g s))
theorem MapAt.lt {P : Program} {w : World} {b n : Nat} {t : TypeId} {g : ByteArray → Int} (h : MapAt P w b t g n) : b < w.heap.size := by
  obtain ⟨_, _, _, _, _, _, _, h, _⟩ := h
  exact h.lt
theorem MapAt.block {P : Program} {w w' : World} {b n : Nat} {t : TypeId} {g : ByteArray → Int} (h : MapAt P w b t g n) (hb : w'.heap[b]? = w.heap[b]?) : MapAt P w' b t g n := by
  obtain ⟨k, e, D, h0, h0', h1, h2, ⟨es, clock, h3, h4⟩, h5⟩ := h
  exact ⟨k, e, D, h0, h0', h1, h2, ⟨es, clock, hb.trans h3, h4⟩, h5⟩
inductive ObjAt (P : Program) (M : Mem) (φ : Phi) (w : World) (l : Nat) : Ob → Prop
  | box {cs : List CV} {live : Bool} (b : Nat) (vs : List Value) (e : TypeId) (hφ : φ l = some (.box b)) (hh : w.heap[b]? = some (.cells vs.toArray e (0, 0))) (hr : RepCs M φ vs cs)
      (hlive : live = true → ∀ o, M b o = none) (hfr : live = false → ∀ o, o < vs.length → M b o = vs[o]?) : ObjAt P M φ w l (.box cs live)
  | row {e : TypeId} {n : Nat} {f : Nat → List PV} {live : Bool} (v : Value) (sz : Nat) (cells : List Value) (hφ : φ l = some (.row v sz)) (hsz : szOf P e = some sz) (h0 : 0 < sz) (ho : w.ownsRow 0 e sz v n cells)
      (hl : ∀ i : Nat, i < n → (f i).length = sz) (hr : ∀ (i j : Nat) (u : Value) (x : PV), i < n → cells[i * sz + j]? = some u → (f i)[j]? = some x → RepP M u x)
      (hlive : live = true → ∀ g, v.ownBlock = some g → ∀ o, M g o = none) (hfr : live = false → ∀ g, v.ownBlock = some g → ∀ o, o < n * sz → M g o = cells[o]?) : ObjAt P M φ w l (.row e n f live)
  | rrow {xs : List (List CV)} (b sz : Nat) (vs : List Value) (e : TypeId) (hφ : φ l = some (.row (.slice (some ⟨b, 0, none⟩) xs.length xs.length) sz)) (hh : w.heap[b]? = some (.cells vs.toArray e (0, 0)))
      (hlen : vs.length = xs.length * sz) (hl : ∀ (i : Nat) (c : List CV), xs[i]? = some c → c.length = sz) (hr : ∀ (i j : Nat) (u : Value) (c : List CV) (x : CV), xs[i]? = some c → vs[i * sz + j]? = some u → c[j]? = some x → RepC M φ u x) (hlive : ∀ o, M b o = none) : ObjAt P M φ w l (.rrow xs)
  | iter {s : ByteArray} {pos : Nat} (r : Nat) (hφ : φ l = some (.iter r)) (hh : w.heap[r]? = some (.stringIter s pos)) (hlive : ∀ o, M r o = none) : ObjAt P M φ w l (.iter s pos)
  | smap {t : TypeId} {g : ByteArray → Int} {n : Nat} (r : Nat) (hφ : φ l = some (.iter r)) (hh : MapAt P w r t g n) (hlive : ∀ o, M r o = none) : ObjAt P M φ w l (.smap t g n)
  | dead : ObjAt P M φ w l .dead

def Ob.alive : Ob → Bool
  | .dead => false
  | _ => true
/-- Is it written, or could it be? -/
def Ob.live : Ob → Bool
  | .box _ q => q
  | .row _ _ _ q => q
  | .dead => false
  | _ => true

theorem ownsRow_of_block {w w' : World} {base : Nat} {e : TypeId} {sz : Nat} {v : Value} {n : Nat} {xs : List Value} (h : w.ownsRow base e sz v n xs) (hb : ∀ g, v.ownBlock = some g → w'.heap[g]? = w.heap[g]?) : w'.ownsRow base e sz v n xs := by
  refine ⟨h.1, ?_⟩
  rcases h.2 with hn | ⟨g, cap, cur, rfl, hbg, hg, rest⟩
  · exact .inl hn
  · exact .inr ⟨g, cap, cur, rfl, hbg, by rw [hb g rfl]; exact hg, rest⟩

/-- An object stays what it is, if its block does and nothing of it becomes lasting. -/
theorem ObjAt.keep {P : Program} {M M' : Mem} {φ φ' : Phi} {w w' : World} {l : Nat} {o : Ob} (h : ObjAt P M φ w l o) (hm : M.le M') (hf : φ.le φ')
    (hb : ∀ x b, φ l = some x → x.blk = some b → w'.heap[b]? = w.heap[b]?) (hM : o.live = true → ∀ x b, φ l = some x → x.blk = some b → ∀ q, M b q = none → M' b q = none) : ObjAt P M' φ' w' l o := by
  cases h with
  | box b vs e hφ hh hr hlive hfr =>
    refine .box b vs e (hf _ _ hφ) (by rw [hb _ b hφ rfl]; exact hh) (hr.mono hm hf) (fun q o => hM (by simpa [Ob.live] using q) _ b hφ rfl o (hlive q o)) (fun q o ho => ?_)
    have := hfr q o ho
    rw [List.getElem?_eq_getElem ho] at this ⊢
    exact hm _ _ _ this
  | row v sz cells hφ hsz h0 ho hl hr hlive hfr =>
    refine .row v sz cells (hf _ _ hφ) hsz h0 (ownsRow_of_block ho (fun g hg => hb _ g hφ hg)) hl (fun i j u x hi hu hx => (hr i j u x hi hu hx).mono hm) (fun q g hg o => hM (by simpa [Ob.live] using q) _ g hφ hg o (hlive q g hg o)) (fun q g hg o ho' => ?_)
    have := hfr q g hg o ho'
    have hlt : o < cells.length := by rw [ho.1]; exact ho'
    rw [List.getElem?_eq_getElem hlt] at this ⊢
    exact hm _ _ _ this
  | rrow b sz vs e hφ hh hlen hl hr hlive => exact .rrow b sz vs e (hf _ _ hφ) (by rw [hb _ b hφ rfl]; exact hh) hlen hl (fun i j u c x hc hu hx => (hr i j u c x hc hu hx).mono hm hf) (fun o => hM rfl _ b hφ rfl o (hlive o))
  | iter r hφ hh hlive => exact .iter r (hf _ _ hφ) (by rw [hb _ r hφ rfl]; exact hh) (fun o => hM rfl _ r hφ rfl o (hlive o))
  | smap r hφ hh hlive => exact .smap r (hf _ _ hφ) (hh.block (hb _ r hφ rfl)) (fun o => hM rfl _ r hφ rfl o (hlive o))
  | dead => exact .dead

/-- The world beside the objects: since the world w0 nothing below B is otherwise, but for the blocks of S; and how the objects lie. -/
structure Rel (P : Program) (S : Nat → Prop) (w0 : World) (M0 M : Mem) (φ : Phi) (h : Hp) (w : World) : Prop where
  mem : M0.le M
  agr : ∀ b o v, M b o = some v → w.cell? ⟨b, o, none⟩ = some v
  obj : ∀ l o, h[l]? = some o → ObjAt P M φ w l o
  sep : ∀ l l' o o' x x' b, h[l]? = some o → h[l']? = some o' → o.alive = true → o'.alive = true → φ l = some x → φ l' = some x' → x.blk = some b → x'.blk = some b → l = l'
  own : ∀ l o x b, h[l]? = some o → o.alive = true → φ l = some x → x.blk = some b → S b ∨ w0.heap.size ≤ b
  dom : ∀ l x, φ l = some x → l < h.length
  os : w.os = w0.os
  tape : w.tape = w0.tape
  output : w.output = w0.output
  size : w0.heap.size ≤ w.heap.size
  old : ∀ b, b < w0.heap.size → ¬ S b → w.heap[b]? = w0.heap[b]?
  new : ∀ b o v, M b o = some v → M0 b o = some v ∨ S b ∨ w0.heap.size ≤ b
  eqs : okEq P = true

theorem block_lt {w : World} {b o : Nat} {v : Value} (h : w.cell? ⟨b, o, none⟩ = some v) : b < w.heap.size := World.block_lt_of_cell? w _ h

end Go.Fx
