/- A law's row: whatever is handed in that reads, true comes out, and all reads as it did. -/
import Derived.Test.YtokdkmlpfkeeaaaFxR
import Derived.WalkKit
import Derived.ProofKit
import Derived.OpenShut
import Derived.ShutString
import Derived.ChangeOld
import Derived.Carry
import Derived.SizedLaws
set_option linter.unusedVariables false
set_option linter.unusedSimpArgs false
namespace Go.Fx
open Go.ChangeShapes Go.WideShapes Go.ChangeAt Go.RowKit

def Sh.av : (s : Sh) → s.D → AV
  | .int k, n => .c (.p (.v (.int k n)))
  | .bool, b => .c (.p (.v (.bool b)))
  | .str, s => .c (.p (.v (.string s)))
  | .st fs, d => .agg ((Sh.pvs fs d).map .p)
  | .arr n e, d => .agg (((Sh.arr n e).pv d).map .p)
  | .sl e, d => .c (.p (.sl d.1 (fun i => e.pv (d.2 i))))
def Sh.avs : (l : List Sh) → Sh.Ds l → List AV
  | [], _ => []
  | s :: l, d => s.av d.1 :: Sh.avs l d.2
def okArgs (P : Program) : List Sh → List TypeId → Bool
  | [], [] => true
  | s :: l, t :: r => okSh P s t && P.readableRec t && Nat.blt t P.types.size && okArgs P l r
  | _, _ => false

section
variable {H : Type} {enc : TypeId × Value → H} {P : Program} {w : World} {φ : Phi}

theorem okSh_und {P : Program} {s : Sh} {t : TypeId} (ok : okSh P s t = true) : (∃ k, s = .int k ∧ P.underlying t = some (.int k)) ∨ (s = .bool ∧ P.underlying t = some .bool) ∨ (s = .str ∧ P.underlying t = some .string) ∨
    (∃ fs f, s = .st fs ∧ P.underlying t = some (.struct f)) ∨ (∃ n e u, s = .arr n e ∧ P.underlying t = some (.array n u)) ∨ (∃ e u, s = .sl e ∧ P.underlying t = some (.slice u)) := by
  cases s with
  | int k =>
    simp only [okSh, Bool.and_eq_true] at ok
    cases hu : P.underlying t with
    | none => rw [hu] at ok; simp at ok
    | some u => rw [hu] at ok; cases u <;> simp at ok; exact .inl ⟨k, rfl, by rw [ok.1]⟩
  | bool =>
    simp only [okSh, Bool.and_eq_true] at ok
    cases hu : P.underlying t with
    | none => rw [hu] at ok; simp at ok
    | some u => rw [hu] at ok; cases u <;> simp at ok; exact .inr (.inl ⟨rfl, rfl⟩)
  | str =>
    simp only [okSh, Bool.and_eq_true] at ok
    cases hu : P.underlying t with
    | none => rw [hu] at ok; simp at ok
    | some u => rw [hu] at ok; cases u <;> simp at ok; exact .inr (.inr (.inl ⟨rfl, rfl⟩))
  | st fs =>
    simp only [okSh, Bool.and_eq_true] at ok
    cases hu : P.underlying t with
    | none => rw [hu] at ok; simp at ok
    | some u => rw [hu] at ok; cases u <;> simp at ok; exact .inr (.inr (.inr (.inl ⟨fs, _, rfl, rfl⟩)))
  | arr n e =>
    simp only [okSh, Bool.and_eq_true] at ok
    cases hu : P.underlying t with
    | none => rw [hu] at ok; simp at ok
    | some u =>
      rw [hu] at ok; cases u <;> simp at ok
      obtain ⟨⟨h1, _⟩, _⟩ := ok
      subst h1
      exact .inr (.inr (.inr (.inr (.inl ⟨_, e, _, rfl, rfl⟩))))
  | sl e =>
    simp only [okSh, Bool.and_eq_true] at ok
    cases hu : P.underlying t with
    | none => rw [hu] at ok; simp at ok
    | some u => rw [hu] at ok; cases u <;> simp at ok; exact .inr (.inr (.inr (.inr (.inr ⟨e, _, rfl, rfl⟩))))

/-- One argument. -/
theorem readArg {s : Sh} {t : TypeId} {v : Value} {d : DataW H} {ps : List MemPlace} {base : Nat} {sp : Nat → Bool} {held : Bool} {b0 : Nat} (ok : okSh P s t = true) (hval : Value.okWide P w .any b0 t v)
    (h : DataW.Trod enc P w base sp held t v d ps) : ∃ x : s.D, RepA (memOf w) φ v (s.av x) ∧ s.wf x := by
  obtain ⟨fuel, hf⟩ := h
  obtain ⟨x, h1, h2⟩ := readSh s ok hf
  refine ⟨x, ?_, h2⟩
  rcases okSh_und ok with ⟨k, rfl, hu⟩ | ⟨rfl, hu⟩ | ⟨rfl, hu⟩ | ⟨fs, f, rfl, hu⟩ | ⟨n, e, u, rfl, hu⟩ | ⟨e, u, rfl, hu⟩
  · obtain ⟨n, rfl⟩ := okWide_int hu hval
    exact .c (.p (h1.2 0 _ _ rfl rfl))
  · obtain ⟨n, rfl⟩ := okWide_bool hu hval
    exact .c (.p (h1.2 0 _ _ rfl rfl))
  · obtain ⟨n, rfl⟩ := okWide_string hu hval
    exact .c (.p (h1.2 0 _ _ rfl rfl))
  · obtain ⟨cs, rfl, _⟩ := okWide_struct hu hval
    have : RepA (memOf w) φ (.agg cs.toList.toArray) ((Sh.st fs).av x) := .agg h1.toC
    rwa [Array.toArray_toList] at this
  · obtain ⟨cs, rfl, _⟩ : ∃ cs, v = .agg cs ∧ True := by
      cases v with
      | agg cs => exact ⟨cs, rfl, trivial⟩
      | _ => exact (by simp [Value.okWide, hu] at hval)
    have : RepA (memOf w) φ (.agg cs.toList.toArray) ((Sh.arr n e).av x) := .agg h1.toC
    rwa [Array.toArray_toList] at this
  · obtain ⟨a, len, cap, rfl⟩ := okWide_slice hu hval
    exact .c (.p (h1.2 0 _ _ rfl rfl))

theorem readArgs {base : Nat} {sp : Nat → Bool} {held : Bool} : ∀ {l : List Sh} {ts : List TypeId} {vs : List Value} {ds : List (DataW H)} {ps : List MemPlace}, okArgs P l ts = true → (∀ (j : Nat) t v, ts[j]? = some t → vs[j]? = some v → ∃ b, Value.okWide P w .any b t v) →
    DataW.TrodAll enc P w base sp held ts vs ds ps → ∃ x : Sh.Ds l, RepL (memOf w) φ vs (Sh.avs l x) ∧ Sh.wfs l x
  | [], [], vs, ds, ps, ok, hv, h => by
    obtain ⟨rfl, _, _⟩ := trodAll_nil h
    exact ⟨(), RepL.nil, trivial⟩
  | [], _ :: _, vs, ds, ps, ok, hv, h => by simp [okArgs] at ok
  | _ :: _, [], vs, ds, ps, ok, hv, h => by simp [okArgs] at ok
  | s :: l, t :: ts, vs, ds, ps, ok, hv, h => by
    simp only [okArgs, Bool.and_eq_true] at ok
    obtain ⟨⟨⟨ok1, _⟩, _⟩, ok4⟩ := ok
    obtain ⟨v0, vs0, d0, ds0, p0, q0, rfl, rfl, rfl, h0, r0⟩ := trodAll_cons h
    obtain ⟨b, hb⟩ := hv 0 t v0 rfl rfl
    obtain ⟨x0, g1, g2⟩ := readArg (φ := φ) ok1 hb h0
    obtain ⟨x1, g3, g4⟩ := readArgs (l := l) ok4 (fun j t v h1 h2 => hv (j + 1) t v (by simpa using h1) (by simpa using h2)) r0
    exact ⟨(x0, x1), RepL.cons g1 g3, g2, g4⟩

theorem trodAll_stays {W W' : World} (hl : laidOutB P = true) (hb : Below W.heap.size W W') : ∀ {l : List Sh} {ts : List TypeId} {vs : List Value} {ds : List (DataW H)} {ps : List MemPlace}, okArgs P l ts = true →
    DataW.TrodAll enc P W 0 (fun _ => true) true ts vs ds ps → DataW.TrodAll enc P W' 0 (fun b => decide (b < W.heap.size)) true ts vs ds ps
  | [], [], vs, ds, ps, ok, h => by
    obtain ⟨rfl, rfl, rfl⟩ := trodAll_nil h
    exact trodAll_mk0
  | [], _ :: _, vs, ds, ps, ok, h => by simp [okArgs] at ok
  | _ :: _, [], vs, ds, ps, ok, h => by simp [okArgs] at ok
  | s :: l, t :: ts, vs, ds, ps, ok, h => by
    simp only [okArgs, Bool.and_eq_true] at ok
    obtain ⟨⟨⟨ok1, ok2⟩, ok3⟩, ok4⟩ := ok
    obtain ⟨v0, vs0, d0, ds0, p0, q0, rfl, rfl, rfl, h0, r0⟩ := trodAll_cons h
    have lt : ∀ x ∈ p0, x.block < W.heap.size := by obtain ⟨m, hm⟩ := h0; exact DataW.trod_lt m _ _ _ hm
    exact trodAll_cons_mk (Below.trod hl ok2 (by simpa using ok3) h0 hb lt) (trodAll_stays hl hb ok4 r0)

theorem rel0 (he : okEq P = true) (w : World) : Rel P (Blocks [] fun _ => none) w (memOf w) (memOf w) (fun _ => none) [] w where
  mem := .refl _
  agr := fun b o v h => h
  obj := fun l o h => by simp at h
  sep := fun l l' o o' x x' b h => by simp at h
  own := fun l o x b h => by simp at h
  dom := fun l x h => by cases h
  os := rfl
  tape := rfl
  output := rfl
  size := Nat.le_refl _
  old := fun b h k => rfl
  new := fun b o v h => .inl h
  eqs := he

theorem row {C : Checked} {os : Os} {f : FuncId} {fn : Func} {s : ChangeSpec} (own : ownKnob C.prog.godebug = none) (started : os.Started) (noInit : C.prog.inits.idxOf? f = none) (hfn : C.prog.funcs[f]? = some fn)
    (witness : ∃ (w : World) (tape : Tape) (i : Input), w.os = os ∧ (w.forCall tape i).Shaped C.prog ∧ i.vars = [] ∧ Input.okWide C.prog (w.forCall tape i) .any w.heap.size f i ∧
      s.pre6 enc C.prog fn [] false (w.forCall tape i).memory i.args ∧ ({} : Assume).holds C.prog (lone (Frame.enter C.prog f i.args .normal) [] (w.forCall tape i)))
    (hl : laidOutB C.prog = true) (hP : progOk C.prog = true) {l : List Sh} (hsh : okArgs C.prog l fn.params.toList = true) (hvars : s.vars = [])
    (hs : ∀ (ds : List (DataW H)), ds.length = l.length → s.fn H ds = { results := [.lit (.bool true)], args := ds }) {tb : TypeId} (hres : fn.resultTypes = #[tb]) (hub : C.prog.underlying tb = some .bool)
    (body : ∀ x : Sh.Ds l, Sh.wfs l x → CallIn C.prog f (Sh.avs l x) [] ⟨.ret, [.c (.p (.v (.bool true)))], []⟩) :
    ReturnsInHanded {} C os f .any (s.pre6 enc C.prog fn [] false) (s.post enc C.prog fn false true false false) := by
  refine returnsInHanded_of_change_sized (C := C) own started noInit hfn witness ?_
  intro W base args ds gs before hval hW hcnd hsz _
  have hW' := hW
  obtain ⟨p, q, hA, hV, rfl, hfz, hnd⟩ := hW
  rw [hvars] at hV
  obtain ⟨rfl, rfl⟩ := trodVars_none hV
  obtain ⟨x, hx, hwf⟩ := readArgs (φ := fun _ => none) (l := l) hsh (fun j t v h1 h2 => ⟨base, hval j t v (by simpa using h1) (by simpa using h2)⟩) hA
  have he : okEq C.prog = true := by
    unfold progOk at hP
    simp only [Bool.and_eq_true] at hP
    exact hP.2
  have hc := body x hwf args.toList W (memOf W) _ (rel0 he W) hx
  rw [Array.toArray_toList] at hc
  refine hc.mono fun e W' hR => ?_
  obtain ⟨M', φ', hle, heq, hrel, _, hend⟩ := hR
  cases e with
  | returned v =>
    have hv : v = .bool true := by
      have h : RepA M' φ' v (.c (.p (.v (.bool true)))) := hend
      cases h with
      | c h => cases h with
        | p h => cases h with
          | v h => rfl
    subst hv
    have bel : Below W.heap.size W W' := ⟨hrel.os, hrel.tape, hrel.output, hrel.size, fun k hk => hrel.old k hk (fun ⟨l, o, x, h, _⟩ => by simp at h)⟩
    have hlen : ds.length = l.length := by
      have key : ∀ {l : List Sh} {ts : List TypeId} {vs : List Value} {ds : List (DataW H)} {ps : List MemPlace}, okArgs C.prog l ts = true → DataW.TrodAll enc C.prog W 0 (fun _ => true) true ts vs ds ps → ds.length = l.length := by
        intro l
        induction l with
        | nil =>
          intro ts vs ds ps ok h
          cases ts with
          | nil => obtain ⟨_, rfl, _⟩ := trodAll_nil h; rfl
          | cons => simp [okArgs] at ok
        | cons s l ih =>
          intro ts vs ds ps ok h
          cases ts with
          | nil => simp [okArgs] at ok
          | cons t ts =>
            simp only [okArgs, Bool.and_eq_true] at ok
            obtain ⟨v0, vs0, d0, ds0, p0, q0, rfl, rfl, rfl, h0, r0⟩ := trodAll_cons h
            simp [ih ok.2 r0]
      exact key hsh hA
    refine ⟨_, rfl, ds, [], p ++ [], [], p, [], hW', ?_, ?_, ?_, bel.frame _, fun h => by cases h⟩
    · rw [List.append_nil, hs ds hlen, hres]
      show DataW.TrodAll enc C.prog W' _ _ false [tb] [.bool true] _ _
      exact trodAll_mk1 (shut_bool hub _)
    · rw [List.append_nil, hs ds hlen]
      exact trodAll_stays hl bel hsh hA
    · rw [hvars, List.append_nil, hs ds hlen]; rfl
  | _ => exact hend.elim
end
end Go.Fx
