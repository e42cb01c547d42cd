/- Whether two values are the same: for plain types, over plain data. -/
import Derived.Test.YtokdkmlpfkeeaaaFx3
import Derived.Laws.StructEq
import Derived.ChangeKeysEq
set_option linter.unusedVariables false
set_option linter.unusedSimpArgs false
namespace Go.Fx
open Go.RowKit

theorem part_run {P : Program} {t off : Nat} {xs : Array Value} {v : Value} (h : partL P t xs.toList off = some v) (w : World) : (part t xs off).run P w = .ok v w := by
  unfold partL at h
  unfold part
  split at h
  · rename_i n ha hn
    split at h
    · rename_i hl
      injection h with h
      simp only [Sem.run_bind, aggTy_run ha, Result.andThen_ok, if_true, szOf_run hn, Sem.run_pure]
      rw [← h]
      congr 2
      apply Array.ext'
      simp [seg, List.drop_take]
    · cases h
  · rename_i ha
    simp only [Sem.run_bind, aggTy_run ha, Result.andThen_ok, Bool.false_eq_true, if_false]
    have : xs[off]? = some v := by simpa using h
    rw [this]; rfl
  · cases h

theorem eqPlain_mono {P : Program} : ∀ (n m : Nat) (t : TypeId), n ≤ m → eqPlain P n t = true → eqPlain P m t = true
  | 0, _, _, _, h => by simp [eqPlain] at h
  | n + 1, 0, _, hm, _ => by omega
  | n + 1, m + 1, t, hm, h => by
    unfold eqPlain at h ⊢
    split at h
    · rfl
    · rfl
    · rfl
    · rename_i fs hu
      simp only [Bool.and_eq_true] at h ⊢
      exact ⟨h.1, List.all_eq_true.2 fun f hf => eqPlain_mono n m f.type (by omega) (List.all_eq_true.1 h.2 f hf)⟩
    · rename_i k e hu
      simp only [Bool.and_eq_true] at h ⊢
      exact ⟨h.1, eqPlain_mono n m e (by omega) h.2⟩
    · cases h

theorem eqPlain_lt {P : Program} (n : Nat) {t : TypeId} (h : eqPlain P n t = true) (ha : ∃ l, P.underlying t = some l ∧ (match l with | .struct _ | .array _ _ => true | _ => false) = true) : t < P.types.size := by
  obtain ⟨l, hu, hl⟩ := ha
  cases n with
  | zero => simp [eqPlain] at h
  | succ n =>
    unfold eqPlain at h
    rw [hu] at h
    cases l <;> simp at hl
    · simp only [Bool.and_eq_true] at h
      have := h.1
      first
        | (simp [Nat.blt_eq] at this; exact this)
        | (unfold notCut at this; rw [Bool.and_eq_true] at this; simpa [Nat.blt_eq] using this.1)
    · simp only [Bool.and_eq_true] at h
      have := h.1
      first
        | (unfold notCut at this; rw [Bool.and_eq_true] at this; simpa [Nat.blt_eq] using this.1)
        | (simp [Nat.blt_eq] at this; exact this)
theorem eqPlain_struct {P : Program} (hok : okEq P = true) {n : Nat} {t : TypeId} {fs : Array Field} (hn : n ≤ 12) (h : eqPlain P n t = true) (hu : P.underlying t = some (.struct fs)) : P.stoodInHeld t = false ∧ P.eqGuardType P.depth t = false := by
  have h12 := eqPlain_mono n 12 t hn h
  have hlt : t < P.types.size := by
    cases n with
    | zero => simp [eqPlain] at h
    | succ n =>
      unfold eqPlain at h
      rw [hu] at h
      simp only [Bool.and_eq_true] at h
      have := h.1
      unfold notCut at this
      rw [Bool.and_eq_true] at this
      simpa [Nat.blt_eq] using this.1
  have := List.all_eq_true.1 hok t (List.mem_range.2 hlt)
  rw [h12] at this
  simpa using this

theorem eqV_run {P : Program} (hok : okEq P = true) : ∀ (n : Nat) (t : TypeId) (x y : Value) (b : Bool), n ≤ 12 → eqPlain P n t = true → eqV P n t x y = some b → ∀ (d : Nat) (w : World), n ≤ d → (Op.equalIn d t x y).run P w = .ok b w
  | 0, _, _, _, _, _, h, _ => by simp [eqPlain] at h
  | n + 1, t, x, y, b, hn, hp, he => by
    intro d w hd
    obtain ⟨d, rfl⟩ : ∃ k, d = k + 1 := ⟨d - 1, by omega⟩
    have fields : ∀ (fs : List Field) (xs ys : Array Value) (b : Bool) (w : World), (∀ f ∈ fs, eqPlain P n f.type = true) → eqFs P (eqV P n) fs xs.toList ys.toList = some b → (Op.eqFields d xs ys fs).run P w = .ok b w := by
      intro fs
      induction fs with
      | nil => intro xs ys b w _ h; simp [eqFs] at h; subst h; rfl
      | cons f fs ih =>
        intro xs ys b w hpf h
        unfold eqFs at h
        unfold Op.eqFields
        split at h
        · rename_i hname
          have hname : f.name = "_" := by simpa using hname
          rw [if_neg (by simp [hname])]
          exact ih xs ys b w (fun g hg => hpf g (List.mem_cons_of_mem _ hg)) h
        · rename_i hname
          have hname : f.name ≠ "_" := by simpa using hname
          rw [if_pos hname]
          split at h
          · rename_i u v hu hv
            split at h
            · rename_i p q hpp hq
              injection h with h
              simp only [Sem.run_bind, part_run hu, part_run hv, Result.andThen_ok, eqV_run hok n f.type u v p (by omega) (hpf f List.mem_cons_self) hpp d w (by omega)]
              cases p with
              | false => subst h; simp
              | true =>
                simp only [Bool.not_true, Bool.false_eq_true, if_false]
                rw [ih xs ys q w (fun g hg => hpf g (List.mem_cons_of_mem _ hg)) hq, ← h]
                rfl
            · cases h
          · cases h
    have items : ∀ (is : List Nat) (e c : Nat) (xs ys : Array Value) (b : Bool) (w : World), eqPlain P n e = true → eqEs P (eqV P n) e c xs.toList ys.toList is = some b → (Op.eqItems d e c xs ys is).run P w = .ok b w := by
      intro is
      induction is with
      | nil => intro e c xs ys b w _ h; simp [eqEs] at h; subst h; rfl
      | cons i is ih =>
        intro e c xs ys b w hpe h
        unfold eqEs at h
        unfold Op.eqItems
        split at h
        · rename_i u v hu hv
          split at h
          · rename_i p q hpp hq
            injection h with h
            simp only [Sem.run_bind, part_run hu, part_run hv, Result.andThen_ok, eqV_run hok n e u v p (by omega) hpe hpp d w (by omega)]
            cases p with
            | false => subst h; simp
            | true =>
              simp only [Bool.not_true, Bool.false_eq_true, if_false]
              rw [ih e c xs ys q w hpe hq, ← h]
              rfl
          · cases h
        · cases h
    unfold eqV at he
    split at he
    · rename_i p q hu
      injection he with he; subst he
      simp [Op.equalIn, run_underlying hu]
    · rename_i k a k' b' hu
      split at he
      · rename_i hk
        injection he with he; subst he
        simp [Op.equalIn, run_underlying hu, hk]
      · cases he
    · rename_i p q hu
      injection he with he; subst he
      simp [Op.equalIn, run_underlying hu]
    · rename_i fs xs ys hu
      have hf : P.fieldsOf t = fs := by unfold Program.fieldsOf; rw [hu]
      rw [run_equalIn_struct w d t xs ys (by rw [hf]; exact hu) (eqPlain_struct hok hn hp hu).1, hf]
      refine fields fs.toList xs ys b w ?_ he
      unfold eqPlain at hp
      rw [hu] at hp
      simp only [Bool.and_eq_true] at hp
      exact List.all_eq_true.1 hp.2
    · rename_i len e xs ys hu
      split at he
      · rename_i c hc
        obtain ⟨i, hi, hci⟩ : ∃ i, P.info? e = some i ∧ i.size = c := by
          unfold szOf at hc
          split at hc
          · rename_i i hi; injection hc with hc; exact ⟨i, hi, hc⟩
          · cases hc
        rw [run_equalIn_array w d xs ys hu hi]
        have : P.cellsOf e = c := by unfold Program.cellsOf; rw [hi]; simpa using hci
        rw [this]
        unfold eqPlain at hp
        rw [hu] at hp
        simp only [Bool.and_eq_true] at hp
        exact items (List.range len) e c xs ys b w hp.2 he
      · cases he
    · cases he
end Go.Fx
