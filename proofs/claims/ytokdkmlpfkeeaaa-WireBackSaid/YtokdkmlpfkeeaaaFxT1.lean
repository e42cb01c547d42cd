/- The tree's meaning is the small interpreter: operation by operation. -/
import Derived.Test.YtokdkmlpfkeeaaaFxT0
set_option linter.unusedVariables false
set_option linter.unusedSimpArgs false
namespace Go.Fx

open Classical in
/-- A tree, asked. -/
noncomputable def Tr.run {α : Type} (O : Orc α) (K : Ans → Option α) : Tr → Option α
  | .fail => none
  | .done a => K a
  | .br q x y => match q with
    | true => run O K x
    | false => run O K y
  | .chk c d x => if c then run O K x else none
  | .ask q k => O q fun a => run O K (k a)
  | .both x y => if run O K x = run O K y then run O K x else none

section
variable {α : Type} {O : Orc α} {K : Ans → Option α} {P : Program} {h : Hp}
theorem chkT_inv {c : Prop} [d : Decidable c] {x : Tr} {r : α} (hk : Tr.run O K (T.chk c x) = some r) : c ∧ Tr.run O K x = some r := by
  simp only [T.chk, Tr.run] at hk
  split at hk
  · rename_i hc; exact ⟨hc, hk⟩
  · cases hk
theorem run_both {x y : Tr} : Tr.run O K (.both x y) = both (Tr.run O K x) (Tr.run O K y) := rfl
theorem run_brm {q : Bool} {x y : Tr} : Tr.run O K (.br q x y) = match q with | true => Tr.run O K x | false => Tr.run O K y := by cases q <;> rfl
theorem run_br {q : Bool} {x y : Tr} : Tr.run O K (.br q x y) = br q (Tr.run O K x) (Tr.run O K y) := by cases q <;> rfl
def Nat1T (O : Orc α) (K : Ans → Option α) (r : α) (k : T.KVt) (F : (β : Type) → KV β → Option β) : Prop := ∃ v d, Tr.run O K (k v d) = some r ∧ ∀ (β : Type) (k' : KV β), F β k' = k' v d
def NatAT (O : Orc α) (K : Ans → Option α) (r : α) (k : AV → Tr) (F : (β : Type) → (AV → Option β) → Option β) : Prop := ∃ v, Tr.run O K (k v) = some r ∧ ∀ (β : Type) (k' : AV → Option β), F β k' = k' v

theorem mkV_natT {t : TypeId} {cs : List CV} {k : AV → Tr} {r : α} (hk : Tr.run O K (T.mkV P t cs k) = some r) : NatAT O K r k fun β k' => mkV P t cs k' := by
  unfold T.mkV at hk
  split at hk
  · rename_i n h1 h2
    split at hk
    · rename_i h3
      exact ⟨_, hk, fun β k' => by simp only [mkV, h1, h2, h3, if_true]⟩
    · cases hk
  · rename_i h1 h2
    split at hk
    · exact ⟨_, hk, fun β k' => by simp only [mkV, h1, h2]⟩
    · cases hk
  · cases hk

theorem loadAV_natT {t : TypeId} {a : AV} {k : AV → Tr} {r : α} (hk : Tr.run O K (T.loadAV P h t a k) = some r) : NatAT O K r k fun β k' => loadAV P h t a k' := by
  unfold T.loadAV at hk
  split at hk
  · split at hk
    · rename_i h1 h2
      split at hk
      · rename_i h5
        split at hk
        · rename_i h6
          obtain ⟨hc, hk⟩ := chkT_inv hk
          exact ⟨_, hk, fun β k' => by simp only [loadAV, h1, h2, h5, if_pos h6, chk_pos hc]⟩
        · cases hk
      rename_i h5
      obtain ⟨hc, hk⟩ := chkT_inv hk
      obtain ⟨v, h3, h4⟩ := mkV_natT hk
      exact ⟨v, h3, fun β k' => by simp only [loadAV, h1, h2, h5, chk_pos hc, h4]⟩
    · cases hk
  · split at hk
    · rename_i h1 h2
      obtain ⟨hc, hk⟩ := chkT_inv hk
      split at hk
      · rename_i hc2
        obtain ⟨v, h3, h4⟩ := mkV_natT hk
        exact ⟨v, h3, fun β k' => by simp only [loadAV, h1, h2, chk_pos hc, if_pos hc2, h4]⟩
      · cases hk
    · rename_i h1 h2
      split at hk
      · rename_i h5
        split at hk
        · rename_i hc2
          obtain ⟨v, h3, h4⟩ := mkV_natT hk
          exact ⟨v, h3, fun β k' => by simp only [loadAV, h1, h2, h5, if_pos hc2, h4]⟩
        · cases hk
      · cases hk
    · cases hk
  · split at hk
    · rename_i h1
      split at hk
      · rename_i hc2
        obtain ⟨v, h3, h4⟩ := mkV_natT hk
        exact ⟨v, h3, fun β k' => by simp only [loadAV, h1, if_pos hc2, h4]⟩
      · cases hk
    · cases hk
  · cases hk

theorem storeAV_natT {t : TypeId} {a x : AV} {k : T.KVt} {r : α} (hk : Tr.run O K (T.storeAV P h t a x k) = some r) : Nat1T O K r k fun β k' => storeAV P h t a x k' := by
  unfold T.storeAV at hk
  repeat' (first | split at hk | (obtain ⟨hcT, hk⟩ := chkT_inv hk) | simp only [run_brm] at hk)
  all_goals first | (cases hk; done) | exact ⟨_, _, hk, fun β k' => by first | (simp only [storeAV, chk, br, *]; done) | (simp [storeAV, chk, br, *]; done) | simp_all [storeAV, chk, br]⟩

theorem sliceAV_natT {t : TypeId} {x : AV} {lo hi : Option AV} {k : T.KVt} {r : α} (hk : Tr.run O K (T.sliceAV P h t x lo hi k) = some r) : Nat1T O K r k fun β k' => sliceAV P h t x lo hi k' := by
  unfold T.sliceAV at hk
  repeat' (first | split at hk | (obtain ⟨hcT, hk⟩ := chkT_inv hk) | simp only [run_brm] at hk)
  all_goals first | (cases hk; done) | exact ⟨_, _, hk, fun β k' => by first | (simp only [sliceAV, chk, br, *]; done) | (simp [sliceAV, chk, br, *]; done) | simp_all [sliceAV, chk, br]⟩

theorem indexAddrAV_natT {t : TypeId} {x i : AV} {k : T.KVt} {r : α} (hk : Tr.run O K (T.indexAddrAV P h t x i k) = some r) : Nat1T O K r k fun β k' => indexAddrAV P h t x i k' := by
  unfold T.indexAddrAV at hk
  repeat' (first | split at hk | (obtain ⟨hcT, hk⟩ := chkT_inv hk) | simp only [run_brm] at hk)
  all_goals first | (cases hk; done) | exact ⟨_, _, hk, fun β k' => by first | (simp only [indexAddrAV, chk, br, *]; done) | (simp [indexAddrAV, chk, br, *]; done) | simp_all [indexAddrAV, chk, br]⟩

theorem sca_natT {res : Option Value} {k : T.KVt} {r : α} (hk : Tr.run O K (T.sca res k) = some r) : Nat1T O K r k fun β k' => sca res k' := by
  unfold T.sca at hk
  repeat' (first | split at hk | (obtain ⟨hcT, hk⟩ := chkT_inv hk) | simp only [run_brm] at hk)
  all_goals first | (cases hk; done) | exact ⟨_, _, hk, fun β k' => by first | (simp only [sca, chk, br, *]; done) | (simp [sca, chk, br, *]; done) | simp_all [sca, chk, br]⟩

theorem fieldAddrAV_natT {s : TypeId} {x : AV} {f : Nat} {k : T.KVt} {r : α} (hk : Tr.run O K (T.fieldAddrAV P s x f k) = some r) : Nat1T O K r k fun β k' => fieldAddrAV P s x f k' := by
  unfold T.fieldAddrAV at hk
  repeat' (first | split at hk | (obtain ⟨hcT, hk⟩ := chkT_inv hk) | simp only [run_brm] at hk)
  all_goals first | (cases hk; done) | exact ⟨_, _, hk, fun β k' => by first | (simp only [fieldAddrAV, chk, br, *]; done) | (simp [fieldAddrAV, chk, br, *]; done) | simp_all [fieldAddrAV, chk, br]⟩

theorem appendAV_natT {b : Nat} {ts : Array TypeId} {s x : AV} {k : T.KVt} {r : α} (hk : Tr.run O K (T.appendAV P h b ts s x k) = some r) : Nat1T O K r k fun β k' => appendAV P h b ts s x k' := by
  unfold T.appendAV at hk
  repeat' (first | split at hk | (obtain ⟨hcT, hk⟩ := chkT_inv hk) | simp only [run_brm] at hk)
  all_goals first | (cases hk; done) | exact ⟨_, _, hk, fun β k' => by first | (simp only [appendAV, chk, br, *]; done) | (simp [appendAV, chk, br, *]; done) | simp_all [appendAV, chk, br]⟩

theorem copyAV_natT {ts : Array TypeId} {s x : AV} {k : T.KVt} {r : α} (hk : Tr.run O K (T.copyAV P h ts s x k) = some r) : Nat1T O K r k fun β k' => copyAV P h ts s x k' := by
  unfold T.copyAV at hk
  repeat' (first | split at hk | (obtain ⟨hcT, hk⟩ := chkT_inv hk) | simp only [run_brm] at hk)
  all_goals first | (cases hk; done) | exact ⟨_, _, hk, fun β k' => by first | (simp only [copyAV, chk, br, *]; done) | (simp [copyAV, chk, br, *]; done) | simp_all [copyAV, chk, br]⟩

theorem makeSliceAV_natT {b : Nat} {t : TypeId} {l c : AV} {k : T.KVt} {r : α} (hk : Tr.run O K (T.makeSliceAV P b t l c k) = some r) : Nat1T O K r k fun β k' => makeSliceAV P b t l c k' := by
  unfold T.makeSliceAV at hk
  split at hk
  · rename_i h1 h2 h3
    split at hk
    · rename_i h4 h5
      split at hk
      · rename_i h6
        split at hk
        · rename_i h7
          obtain ⟨h8, hk⟩ := chkT_inv hk
          exact ⟨_, _, hk, fun β k' => by simp only [makeSliceAV, h1, h2, h3, h4, h5, h6, if_pos h7, chk_pos h8]⟩
        · cases hk
      · cases hk
    · cases hk
  · cases hk

theorem ifaceAV_natT {t : TypeId} {x : AV} {k : T.KVt} {r : α} (hk : Tr.run O K (T.ifaceAV P t x k) = some r) : Nat1T O K r k fun β k' => ifaceAV P t x k' := by
  unfold T.ifaceAV at hk
  repeat' (first | split at hk | (obtain ⟨hcT, hk⟩ := chkT_inv hk) | simp only [run_brm] at hk)
  all_goals first | (cases hk; done) | exact ⟨_, _, hk, fun β k' => by first | (simp only [ifaceAV, chk, br, *]; done) | (simp [ifaceAV, chk, br, *]; done) | simp_all [ifaceAV, chk, br]⟩

theorem iterNext_natT {x : AV} {k : T.KVt} {r : α} (hk : Tr.run O K (T.iterNext h x k) = some r) : Nat1T O K r k fun β k' => iterNext h x k' := by
  unfold T.iterNext at hk
  repeat' (first | split at hk | (obtain ⟨hcT, hk⟩ := chkT_inv hk) | simp only [run_brm] at hk)
  all_goals first | (cases hk; done) | exact ⟨_, _, hk, fun β k' => by first | (simp only [iterNext, chk, br, *]; done) | (simp [iterNext, chk, br, *]; done) | simp_all [iterNext, chk, br]⟩

theorem mapMakeAV_natT {b : Nat} {t : TypeId} {k : T.KVt} {r : α} (hk : Tr.run O K (T.mapMakeAV P b t k) = some r) : Nat1T O K r k fun β k' => mapMakeAV P b t k' := by
  unfold T.mapMakeAV at hk
  repeat' (first | split at hk | (obtain ⟨hcT, hk⟩ := chkT_inv hk) | simp only [run_brm] at hk)
  all_goals first | (cases hk; done) | exact ⟨_, _, hk, fun β k' => by first | (simp only [mapMakeAV, chk, br, *]; done) | (simp [mapMakeAV, chk, br, *]; done) | simp_all [mapMakeAV, chk, br]⟩

theorem mapLookAV_natT {t : TypeId} {x i : AV} {k : T.KVt} {r : α} (hk : Tr.run O K (T.mapLookAV P h t x i k) = some r) : Nat1T O K r k fun β k' => mapLookAV P h t x i k' := by
  unfold T.mapLookAV at hk
  repeat' (first | split at hk | (obtain ⟨hcT, hk⟩ := chkT_inv hk) | simp only [run_brm] at hk)
  all_goals first | (cases hk; done) | exact ⟨_, _, hk, fun β k' => by first | (simp only [mapLookAV, chk, br, *]; done) | (simp [mapLookAV, chk, br, *]; done) | simp_all [mapLookAV, chk, br]⟩

theorem mapPutAV_natT {t : TypeId} {x i y : AV} {k : T.KVt} {r : α} (hk : Tr.run O K (T.mapPutAV P h t x i y k) = some r) : Nat1T O K r k fun β k' => mapPutAV P h t x i y k' := by
  unfold T.mapPutAV at hk
  repeat' (first | split at hk | (obtain ⟨hcT, hk⟩ := chkT_inv hk) | simp only [run_brm] at hk)
  all_goals first | (cases hk; done) | exact ⟨_, _, hk, fun β k' => by first | (simp only [mapPutAV, chk, br, *]; done) | (simp [mapPutAV, chk, br, *]; done) | simp_all [mapPutAV, chk, br]⟩

theorem buildRow_natT {b : Nat} {t : TypeId} {len : Nat} {parts : List (Nat × AV)} {k : T.KVt} {r : α} (hk : Tr.run O K (T.buildRow P b t len parts k) = some r) : Nat1T O K r k fun β k' => buildRow P b t len parts k' := by
  unfold T.buildRow at hk
  repeat' (first | split at hk | (obtain ⟨hcT, hk⟩ := chkT_inv hk) | simp only [run_brm] at hk)
  all_goals first | (cases hk; done) | exact ⟨_, _, hk, fun β k' => by first | (simp only [buildRow, chk, br, *]; done) | (simp [buildRow, chk, br, *]; done) | simp_all [buildRow, chk, br]⟩

theorem intOp_natT {op : BinOp} {t : IntKind} {a b : Int} {k : T.KVt} {r : α} (hk : Tr.run O K (T.intOp op t a b k) = some r) : Nat1T O K r k fun β k' => intOp op t a b k' := by
  unfold T.intOp at hk
  repeat' (first | split at hk | (obtain ⟨hcT, hk⟩ := chkT_inv hk) | simp only [run_brm] at hk)
  all_goals first | (cases hk; done) | exact ⟨_, _, hk, fun β k' => by first | (simp only [intOp, chk, br, *]; done) | (simp [intOp, chk, br, *]; done) | simp_all [intOp, chk, br]⟩

theorem indexAV_natT {t : TypeId} {x i : AV} {k : T.KVt} {r : α} (hk : Tr.run O K (T.indexAV P t x i k) = some r) : Nat1T O K r k fun β k' => indexAV P t x i k' := by
  unfold T.indexAV at hk
  split at hk
  · rename_i h1 h2
    split at hk
    · rename_i h6
      split at hk
      · rename_i h3
        obtain ⟨hc, hk⟩ := chkT_inv hk
        exact ⟨_, _, hk, fun β k' => by simp only [indexAV, h1, h2, h6, h3, chk_pos hc]⟩
      · cases hk
    rename_i h6
    split at hk
    · rename_i h3
      obtain ⟨hc, hk⟩ := chkT_inv hk
      obtain ⟨v, h4, h5⟩ := mkV_natT hk
      exact ⟨v, [], h4, fun β k' => by simp only [indexAV, h1, h2, h6, h3, chk_pos hc, h5]⟩
    · cases hk
  · rename_i h1 h2
    obtain ⟨hc, hk⟩ := chkT_inv hk
    exact ⟨_, _, hk, fun β k' => by simp only [indexAV, h1, h2, chk_pos hc]⟩
  · cases hk
theorem fieldAV_natT {s : TypeId} {x : AV} {f : Nat} {k : T.KVt} {r : α} (hk : Tr.run O K (T.fieldAV P s x f k) = some r) : Nat1T O K r k fun β k' => fieldAV P s x f k' := by
  unfold T.fieldAV at hk
  split at hk
  · rename_i h1
    split at hk
    · rename_i h2
      split at hk
      · rename_i h3
        obtain ⟨v, h4, h5⟩ := mkV_natT hk
        exact ⟨v, [], h4, fun β k' => by simp only [fieldAV, h1, h2, if_pos h3, h5]⟩
      · cases hk
    · cases hk
  · cases hk
theorem pure1_natT {f : Value → Sem Value} {x : AV} {k : T.KVt} {r : α} (hk : Tr.run O K (T.pure1 P f x k) = some r) : Nat1T O K r k fun β k' => pure1 P f x k' := by
  unfold T.pure1 at hk
  split at hk
  · rename_i h1
    obtain ⟨v, d, h4, h5⟩ := sca_natT hk
    exact ⟨v, d, h4, fun β k' => by simp only [pure1, h1, h5]⟩
  · cases hk
theorem pure2_natT {f : Value → Value → Sem Value} {x y : AV} {k : T.KVt} {r : α} (hk : Tr.run O K (T.pure2 P f x y k) = some r) : Nat1T O K r k fun β k' => pure2 P f x y k' := by
  unfold T.pure2 at hk
  split at hk
  · rename_i h1 h2
    obtain ⟨v, d, h4, h5⟩ := sca_natT hk
    exact ⟨v, d, h4, fun β k' => by simp only [pure2, h1, h2, h5]⟩
  · cases hk
theorem convertAV_natT {src dst : TypeId} {x : AV} {k : T.KVt} {r : α} (hk : Tr.run O K (T.convertAV P h src dst x k) = some r) : Nat1T O K r k fun β k' => convertAV P h src dst x k' := by
  unfold T.convertAV at hk
  split at hk
  · rename_i h1 h2
    split at hk
    · rename_i h3
      split at hk
      · rename_i h4
        exact ⟨_, _, hk, fun β k' => by simp only [convertAV, h1, h2, h3, if_pos h4]⟩
      · cases hk
    · cases hk
  · rename_i h1 h2
    split at hk
    · rename_i h3
      split at hk
      · cases hk
      · rename_i h4
        split at hk
        · rename_i h5
          obtain ⟨hc, hk⟩ := chkT_inv hk
          exact ⟨_, _, hk, fun β k' => by simp only [convertAV, h1, h2, h3, if_neg h4, h5, chk_pos hc]⟩
        · cases hk
    · cases hk
  · rename_i h1 h2
    split at hk
    · rename_i h3 h4
      split at hk
      · rename_i h5
        exact ⟨_, _, hk, fun β k' => by simp only [convertAV, h1, h2, h3, h4, if_pos h5]⟩
      · cases hk
    · cases hk
  · rename_i h1 h2
    exact ⟨_, _, hk, fun β k' => by simp only [convertAV, h1, h2]⟩
  · rename_i h1 h2 h3 h4 h4b h5
    obtain ⟨v, d, h6, h7⟩ := pure1_natT hk
    refine ⟨v, d, h6, fun β k' => ?_⟩
    unfold convertAV
    split
    · rename_i a b c d; simp_all; exact absurd h2.symm (h3 _)
    · rename_i a b c d; simp_all; exact absurd h1.symm (h4 _)
    · rename_i a b c d; simp_all; exact absurd h2.symm (h4b _ _ h1.symm)
    · rename_i a b c d; simp_all; exact absurd h2.symm (h5 _)
    · exact h7 β k'
    · simp_all
  · cases hk
theorem binAV_natT {op : BinOp} {ty : TypeId} {xo yo : Operand} {x y : AV} {k : T.KVt} {r : α} (hk : Tr.run O K (T.binAV P op ty xo yo x y k) = some r) : Nat1T O K r k fun β k' => binAV P op ty xo yo x y k' := by
  unfold T.binAV at hk
  split at hk
  · obtain ⟨hc, hk⟩ := chkT_inv hk
    exact ⟨_, _, hk, fun β k' => by simp only [binAV, chk_pos hc]⟩
  · obtain ⟨hc, hk⟩ := chkT_inv hk
    exact ⟨_, _, hk, fun β k' => by simp only [binAV, chk_pos hc]⟩
  · rename_i h1 h2
    split at hk
    · rename_i h3
      obtain ⟨v, d, h6, h7⟩ := intOp_natT hk
      refine ⟨v, d, h6, fun β k' => ?_⟩
      rw [← h7 β k']
      unfold binAV
      split
      · exact (h1 rfl).elim
      · exact (h2 rfl).elim
      · rename_i he1 he2
        cases he1; cases he2
        exact if_pos h3
      · rename_i he _; cases he
      · rename_i he _; cases he
      · rename_i g1 g2 g3 g4 g5
        exfalso
        first | exact g1 _ _ _ _ rfl rfl rfl | exact g1 _ _ _ _ rfl rfl | exact g1 _ _ rfl rfl rfl | exact g2 _ _ _ _ rfl rfl rfl | exact g2 _ _ _ _ rfl rfl | exact g2 _ _ rfl rfl rfl | exact g3 _ _ _ _ rfl rfl rfl | exact g3 _ _ _ _ rfl rfl | exact g3 _ _ rfl rfl rfl | exact g4 _ _ _ _ rfl rfl rfl | exact g4 _ _ _ _ rfl rfl | exact g4 _ _ rfl rfl rfl | exact g5 _ _ _ _ rfl rfl rfl | exact g5 _ _ _ _ rfl rfl | exact g5 _ _ rfl rfl rfl
    · cases hk
  · split at hk
    · rename_i h1
      exact ⟨_, _, hk, fun β k' => by simp only [binAV, h1]⟩
    · cases hk
  · split at hk
    · rename_i h1
      exact ⟨_, _, hk, fun β k' => by simp only [binAV, h1]⟩
    · cases hk
  · rename_i h1 h2 h3 h4 h5
    obtain ⟨v, d, h6, h7⟩ := pure2_natT hk
    refine ⟨v, d, h6, fun β k' => ?_⟩
    have e : ∀ (β : Type) (k' : KV β), binAV P op ty xo yo x y k' = pure2 P (fun u v => do eqGuard op ty xo yo u v; binOp op ty u v) x y k' := by
      intro β k'
      unfold binAV
      split
      all_goals try (exfalso; first | exact h1 _ _ _ _ rfl rfl rfl | exact h1 _ _ _ _ rfl rfl | exact h1 _ _ rfl rfl rfl | exact h2 _ _ _ _ rfl rfl rfl | exact h2 _ _ _ _ rfl rfl | exact h2 _ _ rfl rfl rfl | exact h3 _ _ _ _ rfl rfl rfl | exact h3 _ _ _ _ rfl rfl | exact h3 _ _ rfl rfl rfl | exact h4 _ _ _ _ rfl rfl rfl | exact h4 _ _ _ _ rfl rfl | exact h4 _ _ rfl rfl rfl | exact h5 _ _ _ _ rfl rfl rfl | exact h5 _ _ _ _ rfl rfl | exact h5 _ _ rfl rfl rfl)
      · rfl
    show binAV P op ty xo yo x y k' = k' v d
    rw [e]
    exact h7 β k'
theorem zeroAV_natT {t : TypeId} {k : AV → Tr} {r : α} (hk : Tr.run O K (T.zeroAV P t k) = some r) : NatAT O K r k fun β k' => zeroAV P t k' := by
  unfold T.zeroAV at hk
  split at hk
  · rename_i h1
    split at hk
    · rename_i h2
      exact ⟨_, hk, fun β k' => by simp only [zeroAV, h1, h2]⟩
    · cases hk
  · cases hk
theorem assertAV_natT {x : AV} {ty : TypeId} {ok : Bool} {k : T.KVt} {r : α} (hk : Tr.run O K (T.assertAV P x ty ok k) = some r) : Nat1T O K r k fun β k' => assertAV P x ty ok k' := by
  unfold T.assertAV at hk
  split at hk
  · cases hk
  · rename_i u hni hu
    split at hk
    · rename_i t y
      split at hk
      · rename_i h1
        exact ⟨_, _, hk, fun β k' => by simp only [assertAV, hu, if_pos h1]⟩
      · rename_i h1
        split at hk
        · rename_i h2
          obtain ⟨v, h3, h4⟩ := zeroAV_natT hk
          exact ⟨_, _, h3, fun β k' => by simp only [assertAV, hu, if_neg h1, if_pos h2, h4]⟩
        · cases hk
    · rename_i t y
      split at hk
      · rename_i h1
        exact ⟨_, _, hk, fun β k' => by simp only [assertAV, hu, if_pos h1]⟩
      · rename_i h1
        split at hk
        · rename_i h2
          obtain ⟨v, h3, h4⟩ := zeroAV_natT hk
          exact ⟨_, _, h3, fun β k' => by simp only [assertAV, hu, if_neg h1, if_pos h2, h4]⟩
        · cases hk
    · split at hk
      · rename_i h2
        obtain ⟨v, h3, h4⟩ := zeroAV_natT hk
        exact ⟨_, _, h3, fun β k' => by simp only [assertAV, hu, if_pos h2, h4]⟩
      · cases hk
    · cases hk
  · cases hk
theorem builtinAV_natT {b : Nat} {bi : Builtin} {ts : Array TypeId} {ty : TypeId} {args : List AV} {k : T.KVt} {r : α} (hk : Tr.run O K (T.builtinAV P h b bi ts ty args k) = some r) : Nat1T O K r k fun β k' => builtinAV P h b bi ts ty args k' := by
  unfold T.builtinAV at hk
  split at hk
  · split at hk
    · rename_i h1
      split at hk
      · rename_i h2
        split at hk
        · rename_i h3
          exact ⟨_, _, hk, fun β k' => by simp only [builtinAV, h1, if_pos h2, h3]⟩
        · rename_i h3
          split at hk
          · rename_i h4
            exact ⟨_, _, hk, fun β k' => by simp only [builtinAV, h1, if_pos h2, h3, h4]⟩
          · cases hk
        · rename_i h3
          exact ⟨_, _, hk, fun β k' => by simp only [builtinAV, h1, if_pos h2, h3]⟩
        · cases hk
      · cases hk
    · cases hk
  · split at hk
    · rename_i h1
      obtain ⟨v, d, h2, h3⟩ := appendAV_natT hk
      exact ⟨v, d, h2, fun β k' => by simp only [builtinAV, if_pos h1, h3]⟩
    · cases hk
  · split at hk
    · rename_i h1
      obtain ⟨v, d, h2, h3⟩ := copyAV_natT hk
      exact ⟨v, d, h2, fun β k' => by simp only [builtinAV, if_pos h1, h3]⟩
    · cases hk
  · exact ⟨_, _, hk, fun β k' => rfl⟩
  · exact ⟨_, _, hk, fun β k' => rfl⟩
  · split at hk
    · rename_i h1
      obtain ⟨v, d, h2, h3⟩ := sca_natT hk
      exact ⟨v, d, h2, fun β k' => by simp only [builtinAV, h1, h3]⟩
    · cases hk
  · split at hk
    · rename_i h1
      obtain ⟨v, d, h2, h3⟩ := sca_natT hk
      exact ⟨v, d, h2, fun β k' => by simp only [builtinAV, h1, h3]⟩
    · cases hk
  · split at hk
    · rename_i h1
      obtain ⟨v, d, h2, h3⟩ := sca_natT hk
      exact ⟨v, d, h2, fun β k' => by simp only [builtinAV, h1, h3]⟩
    · cases hk
  · cases hk

theorem xop_natT {b : Nat} {o : Oper} {t : Tm} {k : T.KVt} {kp : PV → Tr} {r : α} (hk : Tr.run O K (T.xop P h b o t k kp) = some r) :
    (∃ v d, Tr.run O K (k v d) = some r ∧ ∀ (β : Type) (k' : KV β) (kp' : PV → Option β), xop P h b o t k' kp' = k' v d) ∨ (∃ y, Tr.run O K (kp y) = some r ∧ ∀ (β : Type) (k' : KV β) (kp' : PV → Option β), xop P h b o t k' kp' = kp' y) := by
  unfold T.xop at hk
  split at hk
  · rename_i ho
    exact .inl ⟨_, _, hk, fun β k' kp' => by simp only [xop, ho]⟩
  · rename_i ho
    exact .inl ⟨_, _, hk, fun β k' kp' => by simp only [xop, ho]⟩
  · rename_i ho
    split at hk
    · rename_i q hq
      cases q with
      | true => exact .inl ⟨_, _, hk, fun β k' kp' => by simp only [xop, ho, hq, br]⟩
      | false => exact .inl ⟨_, _, hk, fun β k' kp' => by simp only [xop, ho, hq, br]⟩
    · cases hk
  · rename_i ho
    split at hk
    · rename_i h1
      exact .inl ⟨_, _, hk, fun β k' kp' => by simp only [xop, ho, h1]⟩
    · cases hk
  · rename_i ho
    split at hk
    · rename_i h1
      exact .inl ⟨_, _, hk, fun β k' kp' => by simp only [xop, ho, h1]⟩
    · cases hk
  · rename_i ho
    split at hk
    · rename_i h1
      exact .inl ⟨_, _, hk, fun β k' kp' => by simp only [xop, ho, h1]⟩
    · cases hk
  · rename_i ho
    obtain ⟨v, d, h1, h2⟩ := buildRow_natT hk
    exact .inl ⟨v, d, h1, fun β k' kp' => by simp only [xop, ho, h2]⟩
  · rename_i ho
    obtain ⟨v, h1, h2⟩ := loadAV_natT hk
    exact .inl ⟨v, [], h1, fun β k' kp' => by simp only [xop, ho, h2]⟩
  · rename_i ho
    obtain ⟨v, d, h1, h2⟩ := storeAV_natT hk
    exact .inl ⟨v, d, h1, fun β k' kp' => by simp only [xop, ho, h2]⟩
  · rename_i ho
    split at hk
    · rename_i h1
      exact .inl ⟨_, _, hk, fun β k' kp' => by simp only [xop, ho, if_pos h1]⟩
    · cases hk
  · rename_i ho
    split at hk
    · rename_i h0
      obtain ⟨hc, hk⟩ := chkT_inv hk
      exact .inl ⟨_, _, hk, fun β k' kp' => by simp only [xop, ho, h0, chk_pos hc]⟩
    · rename_i h0
      obtain ⟨v, d, h1, h2⟩ := binAV_natT hk
      exact .inl ⟨v, d, h1, fun β k' kp' => by simp only [xop, ho, h0, h2]⟩
  · rename_i ho
    split at hk
    · rename_i h1
      exact .inl ⟨_, _, hk, fun β k' kp' => by simp only [xop, ho, h1]⟩
    · cases hk
  · rename_i hno ho
    obtain ⟨v, d, h1, h2⟩ := pure1_natT hk
    refine .inl ⟨v, d, h1, fun β k' kp' => ?_⟩
    unfold xop
    split <;> (rename_i he; simp_all)
    all_goals first | done | exact h2 _ _
  · rename_i ho
    split at hk
    · rename_i h0
      obtain ⟨hc, hk⟩ := chkT_inv hk
      exact .inl ⟨_, _, hk, fun β k' kp' => by simp only [xop, ho, h0, chk_pos hc]⟩
    · rename_i h0
      obtain ⟨v, d, h1, h2⟩ := convertAV_natT hk
      exact .inl ⟨v, d, h1, fun β k' kp' => by simp only [xop, ho, h0, h2]⟩
  · rename_i ho
    obtain ⟨v, d, h1, h2⟩ := ifaceAV_natT hk
    exact .inl ⟨v, d, h1, fun β k' kp' => by simp only [xop, ho, h2]⟩
  · rename_i ho
    split at hk
    · rename_i h1
      split at hk
      · rename_i h2
        exact .inl ⟨_, _, hk, fun β k' kp' => by simp only [xop, ho, if_pos h1, if_pos h2]⟩
      · rename_i h2
        split at hk
        · rename_i h3
          exact .inl ⟨_, _, hk, fun β k' kp' => by simp only [xop, ho, if_pos h1, if_neg h2, h3]⟩
        · cases hk
    · cases hk
  · rename_i ho
    obtain ⟨v, d, h1, h2⟩ := makeSliceAV_natT hk
    exact .inl ⟨v, d, h1, fun β k' kp' => by simp only [xop, ho, h2]⟩
  · rename_i ho
    obtain ⟨v, d, h1, h2⟩ := sliceAV_natT hk
    exact .inl ⟨v, d, h1, fun β k' kp' => by simp only [xop, ho, h2]⟩
  · rename_i ho
    obtain ⟨v, d, h1, h2⟩ := fieldAddrAV_natT hk
    exact .inl ⟨v, d, h1, fun β k' kp' => by simp only [xop, ho, h2]⟩
  · rename_i ho
    obtain ⟨v, d, h1, h2⟩ := fieldAV_natT hk
    exact .inl ⟨v, d, h1, fun β k' kp' => by simp only [xop, ho, h2]⟩
  · rename_i ho
    obtain ⟨v, d, h1, h2⟩ := indexAddrAV_natT hk
    exact .inl ⟨v, d, h1, fun β k' kp' => by simp only [xop, ho, h2]⟩
  · rename_i ho
    obtain ⟨v, d, h1, h2⟩ := indexAV_natT hk
    exact .inl ⟨v, d, h1, fun β k' kp' => by simp only [xop, ho, h2]⟩
  · rename_i ho
    split at hk
    · rename_i h1 h2
      exact .inl ⟨_, _, hk, fun β k' kp' => by simp only [xop, ho, h1, h2]⟩
    · cases hk
  · rename_i ho
    obtain ⟨v, d, h1, h2⟩ := iterNext_natT hk
    exact .inl ⟨v, d, h1, fun β k' kp' => by simp only [xop, ho, h2]⟩
  · rename_i ho
    obtain ⟨v, d, h1, h2⟩ := mapMakeAV_natT hk
    exact .inl ⟨v, d, h1, fun β k' kp' => by simp only [xop, ho, h2]⟩
  · rename_i ho
    obtain ⟨v, d, h1, h2⟩ := mapLookAV_natT hk
    exact .inl ⟨v, d, h1, fun β k' kp' => by simp only [xop, ho, h2]⟩
  · rename_i ho
    obtain ⟨v, d, h1, h2⟩ := mapPutAV_natT hk
    exact .inl ⟨v, d, h1, fun β k' kp' => by simp only [xop, ho, h2]⟩
  · rename_i ho
    obtain ⟨v, d, h1, h2⟩ := assertAV_natT hk
    exact .inl ⟨v, d, h1, fun β k' kp' => by simp only [xop, ho, h2]⟩
  · rename_i ho
    split at hk
    · rename_i h1
      split at hk
      · rename_i h2
        exact .inl ⟨_, _, hk, fun β k' kp' => by simp only [xop, ho, h1, h2]⟩
      · cases hk
    · cases hk
  · rename_i ho
    split at hk
    · rename_i h1
      obtain ⟨v, d, h2, h3⟩ := builtinAV_natT hk
      exact .inl ⟨v, d, h2, fun β k' kp' => by simp only [xop, ho, h1, h3]⟩
    · cases hk
  · rename_i ho
    split at hk
    · rename_i h1
      split at hk
      · rename_i h2
        exact .inr ⟨_, hk, fun β k' kp' => by simp only [xop, ho, h1, if_pos h2]⟩
      · cases hk
    · cases hk
  · cases hk
end
end Go.Fx
