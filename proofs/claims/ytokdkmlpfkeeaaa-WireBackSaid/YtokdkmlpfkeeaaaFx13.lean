/- The small interpreter's operations hand on what they find to whatever follows: what follows makes no difference to it. -/
import Derived.Test.YtokdkmlpfkeeaaaFx12
set_option linter.unusedVariables false
set_option linter.unusedSimpArgs false
namespace Go.Fx

section
variable {P : Program} {h : Hp} {α : Type}

/-- One value and one change, whatever follows. -/
def Nat1 (r : α) (k : KV α) (F : (β : Type) → KV β → Option β) : Prop := ∃ v d, k v d = some r ∧ ∀ (β : Type) (k' : KV β), F β k' = k' v d
def NatA (r : α) (k : AV → Option α) (F : (β : Type) → (AV → Option β) → Option β) : Prop := ∃ v, k v = some r ∧ ∀ (β : Type) (k' : AV → Option β), F β k' = k' v

theorem chk_pos {c : Prop} [Decidable c] {x : Option α} (h : c) : chk c x = x := if_pos h

theorem mkV_nat {t : TypeId} {cs : List CV} {k : AV → Option α} {r : α} (hk : mkV P t cs k = some r) : NatA r k fun β k' => mkV P t cs k' := by
  unfold mkV at hk
  split at hk
  · rename_i n h1 h2
    split at hk
    · rename_i h3
      exact ⟨_, hk, fun β k' => by simp only [mkV, h1, h2, h3, if_true]⟩
    · cases hk
  · rename_i h1 h2
    split at hk
    · exact ⟨_, hk, fun β k' => by simp only [mkV, h1, h2]⟩
    · cases hk
  · cases hk

theorem loadAV_nat {t : TypeId} {a : AV} {k : AV → Option α} {r : α} (hk : loadAV P h t a k = some r) : NatA r k fun β k' => loadAV P h t a k' := by
  unfold loadAV at hk
  split at hk
  · split at hk
    · rename_i h1 h2
      split at hk
      · rename_i h5
        split at hk
        · rename_i h6
          obtain ⟨hc, hk⟩ := chk_inv hk
          exact ⟨_, hk, fun β k' => by simp only [loadAV, h1, h2, h5, if_pos h6, chk_pos hc]⟩
        · cases hk
      rename_i h5
      obtain ⟨hc, hk⟩ := chk_inv hk
      obtain ⟨v, h3, h4⟩ := mkV_nat hk
      exact ⟨v, h3, fun β k' => by simp only [loadAV, h1, h2, h5, chk_pos hc, h4]⟩
    · cases hk
  · split at hk
    · rename_i h1 h2
      obtain ⟨hc, hk⟩ := chk_inv hk
      split at hk
      · rename_i hc2
        obtain ⟨v, h3, h4⟩ := mkV_nat hk
        exact ⟨v, h3, fun β k' => by simp only [loadAV, h1, h2, chk_pos hc, if_pos hc2, h4]⟩
      · cases hk
    · rename_i h1 h2
      split at hk
      · rename_i h5
        split at hk
        · rename_i hc2
          obtain ⟨v, h3, h4⟩ := mkV_nat hk
          exact ⟨v, h3, fun β k' => by simp only [loadAV, h1, h2, h5, if_pos hc2, h4]⟩
        · cases hk
      · cases hk
    · cases hk
  · split at hk
    · rename_i h1
      split at hk
      · rename_i hc2
        obtain ⟨v, h3, h4⟩ := mkV_nat hk
        exact ⟨v, h3, fun β k' => by simp only [loadAV, h1, if_pos hc2, h4]⟩
      · cases hk
    · cases hk
  · cases hk

theorem storeAV_nat {t : TypeId} {a x : AV} {k : KV α} {r : α} (hk : storeAV P h t a x k = some r) : Nat1 r k fun β k' => storeAV P h t a x k' := by
  first | unfold storeAV chk at hk | unfold storeAV br at hk | unfold storeAV at hk
  repeat' split at hk
  all_goals first | (cases hk; done) | exact ⟨_, _, hk, fun β k' => by first | (simp only [storeAV, chk, br, *]; done) | (simp [storeAV, chk, br, *]; done) | simp_all [storeAV, chk, br]⟩

theorem sliceAV_nat {t : TypeId} {x : AV} {lo hi : Option AV} {k : KV α} {r : α} (hk : sliceAV P h t x lo hi k = some r) : Nat1 r k fun β k' => sliceAV P h t x lo hi k' := by
  first | unfold sliceAV chk at hk | unfold sliceAV br at hk | unfold sliceAV at hk
  repeat' split at hk
  all_goals first | (cases hk; done) | exact ⟨_, _, hk, fun β k' => by first | (simp only [sliceAV, chk, br, *]; done) | (simp [sliceAV, chk, br, *]; done) | simp_all [sliceAV, chk, br]⟩

theorem indexAddrAV_nat {t : TypeId} {x i : AV} {k : KV α} {r : α} (hk : indexAddrAV P h t x i k = some r) : Nat1 r k fun β k' => indexAddrAV P h t x i k' := by
  first | unfold indexAddrAV chk at hk | unfold indexAddrAV br at hk | unfold indexAddrAV at hk
  repeat' split at hk
  all_goals first | (cases hk; done) | exact ⟨_, _, hk, fun β k' => by first | (simp only [indexAddrAV, chk, br, *]; done) | (simp [indexAddrAV, chk, br, *]; done) | simp_all [indexAddrAV, chk, br]⟩

theorem sca_nat {res : Option Value} {k : KV α} {r : α} (hk : sca res k = some r) : Nat1 r k fun β k' => sca res k' := by
  first | unfold sca chk at hk | unfold sca br at hk | unfold sca at hk
  repeat' split at hk
  all_goals first | (cases hk; done) | exact ⟨_, _, hk, fun β k' => by first | (simp only [sca, chk, br, *]; done) | (simp [sca, chk, br, *]; done) | simp_all [sca, chk, br]⟩

theorem fieldAddrAV_nat {s : TypeId} {x : AV} {f : Nat} {k : KV α} {r : α} (hk : fieldAddrAV P s x f k = some r) : Nat1 r k fun β k' => fieldAddrAV P s x f k' := by
  first | unfold fieldAddrAV chk at hk | unfold fieldAddrAV br at hk | unfold fieldAddrAV at hk
  repeat' split at hk
  all_goals first | (cases hk; done) | exact ⟨_, _, hk, fun β k' => by first | (simp only [fieldAddrAV, chk, br, *]; done) | (simp [fieldAddrAV, chk, br, *]; done) | simp_all [fieldAddrAV, chk, br]⟩

theorem appendAV_nat {b : Nat} {ts : Array TypeId} {s x : AV} {k : KV α} {r : α} (hk : appendAV P h b ts s x k = some r) : Nat1 r k fun β k' => appendAV P h b ts s x k' := by
  first | unfold appendAV chk at hk | unfold appendAV br at hk | unfold appendAV at hk
  repeat' split at hk
  all_goals first | (cases hk; done) | exact ⟨_, _, hk, fun β k' => by first | (simp only [appendAV, chk, br, *]; done) | (simp [appendAV, chk, br, *]; done) | simp_all [appendAV, chk, br]⟩

theorem copyAV_nat {ts : Array TypeId} {s x : AV} {k : KV α} {r : α} (hk : copyAV P h ts s x k = some r) : Nat1 r k fun β k' => copyAV P h ts s x k' := by
  first | unfold copyAV chk at hk | unfold copyAV br at hk | unfold copyAV at hk
  repeat' split at hk
  all_goals first | (cases hk; done) | exact ⟨_, _, hk, fun β k' => by first | (simp only [copyAV, chk, br, *]; done) | (simp [copyAV, chk, br, *]; done) | simp_all [copyAV, chk, br]⟩

theorem makeSliceAV_nat {b : Nat} {t : TypeId} {l c : AV} {k : KV α} {r : α} (hk : makeSliceAV P b t l c k = some r) : Nat1 r k fun β k' => makeSliceAV P b t l c k' := by
  unfold makeSliceAV at hk
  split at hk
  · rename_i h1 h2 h3
    split at hk
    · rename_i h4 h5
      split at hk
      · rename_i h6
        split at hk
        · rename_i h7
          obtain ⟨h8, hk⟩ := chk_inv hk
          exact ⟨_, _, hk, fun β k' => by simp only [makeSliceAV, h1, h2, h3, h4, h5, h6, if_pos h7, chk_pos h8]⟩
        · cases hk
      · cases hk
    · cases hk
  · cases hk

theorem ifaceAV_nat {t : TypeId} {x : AV} {k : KV α} {r : α} (hk : ifaceAV P t x k = some r) : Nat1 r k fun β k' => ifaceAV P t x k' := by
  first | unfold ifaceAV chk at hk | unfold ifaceAV br at hk | unfold ifaceAV at hk
  repeat' split at hk
  all_goals first | (cases hk; done) | exact ⟨_, _, hk, fun β k' => by first | (simp only [ifaceAV, chk, br, *]; done) | (simp [ifaceAV, chk, br, *]; done) | simp_all [ifaceAV, chk, br]⟩

theorem iterNext_nat {x : AV} {k : KV α} {r : α} (hk : iterNext h x k = some r) : Nat1 r k fun β k' => iterNext h x k' := by
  first | unfold iterNext chk at hk | unfold iterNext br at hk | unfold iterNext at hk
  repeat' split at hk
  all_goals first | (cases hk; done) | exact ⟨_, _, hk, fun β k' => by first | (simp only [iterNext, chk, br, *]; done) | (simp [iterNext, chk, br, *]; done) | simp_all [iterNext, chk, br]⟩

theorem mapMakeAV_nat {b : Nat} {t : TypeId} {k : KV α} {r : α} (hk : mapMakeAV P b t k = some r) : Nat1 r k fun β k' => mapMakeAV P b t k' := by
  first | unfold mapMakeAV chk at hk | unfold mapMakeAV br at hk | unfold mapMakeAV at hk
  repeat' split at hk
  all_goals first | (cases hk; done) | exact ⟨_, _, hk, fun β k' => by first | (simp only [mapMakeAV, chk, br, *]; done) | (simp [mapMakeAV, chk, br, *]; done) | simp_all [mapMakeAV, chk, br]⟩

theorem mapLookAV_nat {t : TypeId} {x i : AV} {k : KV α} {r : α} (hk : mapLookAV P h t x i k = some r) : Nat1 r k fun β k' => mapLookAV P h t x i k' := by
  first | unfold mapLookAV chk at hk | unfold mapLookAV br at hk | unfold mapLookAV at hk
  repeat' split at hk
  all_goals first | (cases hk; done) | exact ⟨_, _, hk, fun β k' => by first | (simp only [mapLookAV, chk, br, *]; done) | (simp [mapLookAV, chk, br, *]; done) | simp_all [mapLookAV, chk, br]⟩

theorem mapPutAV_nat {t : TypeId} {x i y : AV} {k : KV α} {r : α} (hk : mapPutAV P h t x i y k = some r) : Nat1 r k fun β k' => mapPutAV P h t x i y k' := by
  first | unfold mapPutAV chk at hk | unfold mapPutAV br at hk | unfold mapPutAV at hk
  repeat' split at hk
  all_goals first | (cases hk; done) | exact ⟨_, _, hk, fun β k' => by first | (simp only [mapPutAV, chk, br, *]; done) | (simp [mapPutAV, chk, br, *]; done) | simp_all [mapPutAV, chk, br]⟩

theorem buildRow_nat {b : Nat} {t : TypeId} {len : Nat} {parts : List (Nat × AV)} {k : KV α} {r : α} (hk : buildRow P b t len parts k = some r) : Nat1 r k fun β k' => buildRow P b t len parts k' := by
  first | unfold buildRow chk at hk | unfold buildRow br at hk | unfold buildRow at hk
  repeat' split at hk
  all_goals first | (cases hk; done) | exact ⟨_, _, hk, fun β k' => by first | (simp only [buildRow, chk, br, *]; done) | (simp [buildRow, chk, br, *]; done) | simp_all [buildRow, chk, br]⟩

theorem intOp_nat {op : BinOp} {t : IntKind} {a b : Int} {k : KV α} {r : α} (hk : intOp op t a b k = some r) : Nat1 r k fun β k' => intOp op t a b k' := by
  first | unfold intOp chk at hk | unfold intOp br at hk | unfold intOp at hk
  repeat' split at hk
  all_goals first | (cases hk; done) | exact ⟨_, _, hk, fun β k' => by first | (simp only [intOp, chk, br, *]; done) | (simp [intOp, chk, br, *]; done) | simp_all [intOp, chk, br]⟩

theorem indexAV_nat {t : TypeId} {x i : AV} {k : KV α} {r : α} (hk : indexAV P t x i k = some r) : Nat1 r k fun β k' => indexAV P t x i k' := by
  unfold indexAV at hk
  split at hk
  · rename_i h1 h2
    split at hk
    · rename_i h6
      split at hk
      · rename_i h3
        obtain ⟨hc, hk⟩ := chk_inv hk
        exact ⟨_, _, hk, fun β k' => by simp only [indexAV, h1, h2, h6, h3, chk_pos hc]⟩
      · cases hk
    rename_i h6
    split at hk
    · rename_i h3
      obtain ⟨hc, hk⟩ := chk_inv hk
      obtain ⟨v, h4, h5⟩ := mkV_nat hk
      exact ⟨v, [], h4, fun β k' => by simp only [indexAV, h1, h2, h6, h3, chk_pos hc, h5]⟩
    · cases hk
  · rename_i h1 h2
    obtain ⟨hc, hk⟩ := chk_inv hk
    exact ⟨_, _, hk, fun β k' => by simp only [indexAV, h1, h2, chk_pos hc]⟩
  · cases hk
theorem fieldAV_nat {s : TypeId} {x : AV} {f : Nat} {k : KV α} {r : α} (hk : fieldAV P s x f k = some r) : Nat1 r k fun β k' => fieldAV P s x f k' := by
  unfold fieldAV at hk
  split at hk
  · rename_i h1
    split at hk
    · rename_i h2
      split at hk
      · rename_i h3
        obtain ⟨v, h4, h5⟩ := mkV_nat hk
        exact ⟨v, [], h4, fun β k' => by simp only [fieldAV, h1, h2, if_pos h3, h5]⟩
      · cases hk
    · cases hk
  · cases hk
theorem pure1_nat {f : Value → Sem Value} {x : AV} {k : KV α} {r : α} (hk : pure1 P f x k = some r) : Nat1 r k fun β k' => pure1 P f x k' := by
  unfold pure1 at hk
  split at hk
  · rename_i h1
    obtain ⟨v, d, h4, h5⟩ := sca_nat hk
    exact ⟨v, d, h4, fun β k' => by simp only [pure1, h1, h5]⟩
  · cases hk
theorem pure2_nat {f : Value → Value → Sem Value} {x y : AV} {k : KV α} {r : α} (hk : pure2 P f x y k = some r) : Nat1 r k fun β k' => pure2 P f x y k' := by
  unfold pure2 at hk
  split at hk
  · rename_i h1 h2
    obtain ⟨v, d, h4, h5⟩ := sca_nat hk
    exact ⟨v, d, h4, fun β k' => by simp only [pure2, h1, h2, h5]⟩
  · cases hk
theorem convertAV_nat {src dst : TypeId} {x : AV} {k : KV α} {r : α} (hk : convertAV P h src dst x k = some r) : Nat1 r k fun β k' => convertAV P h src dst x k' := by
  unfold convertAV at hk
  split at hk
  · rename_i h1 h2
    split at hk
    · rename_i h3
      split at hk
      · rename_i h4
        exact ⟨_, _, hk, fun β k' => by simp only [convertAV, h1, h2, h3, if_pos h4]⟩
      · cases hk
    · cases hk
  · rename_i h1 h2
    split at hk
    · rename_i h3
      split at hk
      · cases hk
      · rename_i h4
        split at hk
        · rename_i h5
          obtain ⟨hc, hk⟩ := chk_inv hk
          exact ⟨_, _, hk, fun β k' => by simp only [convertAV, h1, h2, h3, if_neg h4, h5, chk_pos hc]⟩
        · cases hk
    · cases hk
  · rename_i h1 h2
    split at hk
    · rename_i h3 h4
      split at hk
      · rename_i h5
        exact ⟨_, _, hk, fun β k' => by simp only [convertAV, h1, h2, h3, h4, if_pos h5]⟩
      · cases hk
    · cases hk
  · rename_i h1 h2
    exact ⟨_, _, hk, fun β k' => by simp only [convertAV, h1, h2]⟩
  · rename_i h1 h2 h3 h4 h4b h5
    obtain ⟨v, d, h6, h7⟩ := pure1_nat hk
    refine ⟨v, d, h6, fun β k' => ?_⟩
    unfold convertAV
    split
    · rename_i a b c d; simp_all; exact absurd h2.symm (h3 _)
    · rename_i a b c d; simp_all; exact absurd h1.symm (h4 _)
    · rename_i a b c d; simp_all; exact absurd h2.symm (h4b _ _ h1.symm)
    · rename_i a b c d; simp_all; exact absurd h2.symm (h5 _)
    · exact h7 β k'
    · simp_all
  · cases hk
theorem binAV_nat {op : BinOp} {ty : TypeId} {xo yo : Operand} {x y : AV} {k : KV α} {r : α} (hk : binAV P op ty xo yo x y k = some r) : Nat1 r k fun β k' => binAV P op ty xo yo x y k' := by
  unfold binAV at hk
  split at hk
  · obtain ⟨hc, hk⟩ := chk_inv hk
    exact ⟨_, _, hk, fun β k' => by simp only [binAV, chk_pos hc]⟩
  · obtain ⟨hc, hk⟩ := chk_inv hk
    exact ⟨_, _, hk, fun β k' => by simp only [binAV, chk_pos hc]⟩
  · rename_i h1 h2
    split at hk
    · rename_i h3
      obtain ⟨v, d, h6, h7⟩ := intOp_nat hk
      refine ⟨v, d, h6, fun β k' => ?_⟩
      rw [← h7 β k']
      unfold binAV
      split
      · exact (h1 rfl).elim
      · exact (h2 rfl).elim
      · rename_i he1 he2
        cases he1; cases he2
        exact if_pos h3
      · rename_i he _; cases he
      · rename_i he _; cases he
      · rename_i g1 g2 g3 g4 g5
        exfalso
        first | exact g1 _ _ _ _ rfl rfl rfl | exact g1 _ _ _ _ rfl rfl | exact g1 _ _ rfl rfl rfl | exact g2 _ _ _ _ rfl rfl rfl | exact g2 _ _ _ _ rfl rfl | exact g2 _ _ rfl rfl rfl | exact g3 _ _ _ _ rfl rfl rfl | exact g3 _ _ _ _ rfl rfl | exact g3 _ _ rfl rfl rfl | exact g4 _ _ _ _ rfl rfl rfl | exact g4 _ _ _ _ rfl rfl | exact g4 _ _ rfl rfl rfl | exact g5 _ _ _ _ rfl rfl rfl | exact g5 _ _ _ _ rfl rfl | exact g5 _ _ rfl rfl rfl
    · cases hk
  · split at hk
    · rename_i h1
      exact ⟨_, _, hk, fun β k' => by simp only [binAV, h1]⟩
    · cases hk
  · split at hk
    · rename_i h1
      exact ⟨_, _, hk, fun β k' => by simp only [binAV, h1]⟩
    · cases hk
  · rename_i h1 h2 h3 h4 h5
    obtain ⟨v, d, h6, h7⟩ := pure2_nat hk
    refine ⟨v, d, h6, fun β k' => ?_⟩
    have e : ∀ (β : Type) (k' : KV β), binAV P op ty xo yo x y k' = pure2 P (fun u v => do eqGuard op ty xo yo u v; binOp op ty u v) x y k' := by
      intro β k'
      unfold binAV
      split
      all_goals try (exfalso; first | exact h1 _ _ _ _ rfl rfl rfl | exact h1 _ _ _ _ rfl rfl | exact h1 _ _ rfl rfl rfl | exact h2 _ _ _ _ rfl rfl rfl | exact h2 _ _ _ _ rfl rfl | exact h2 _ _ rfl rfl rfl | exact h3 _ _ _ _ rfl rfl rfl | exact h3 _ _ _ _ rfl rfl | exact h3 _ _ rfl rfl rfl | exact h4 _ _ _ _ rfl rfl rfl | exact h4 _ _ _ _ rfl rfl | exact h4 _ _ rfl rfl rfl | exact h5 _ _ _ _ rfl rfl rfl | exact h5 _ _ _ _ rfl rfl | exact h5 _ _ rfl rfl rfl)
      · rfl
    show binAV P op ty xo yo x y k' = k' v d
    rw [e]
    exact h7 β k'
theorem zeroAV_nat {t : TypeId} {k : AV → Option α} {r : α} (hk : zeroAV P t k = some r) : NatA r k fun β k' => zeroAV P t k' := by
  unfold zeroAV at hk
  split at hk
  · rename_i h1
    split at hk
    · rename_i h2
      exact ⟨_, hk, fun β k' => by simp only [zeroAV, h1, h2]⟩
    · cases hk
  · cases hk
theorem assertAV_nat {x : AV} {ty : TypeId} {ok : Bool} {k : KV α} {r : α} (hk : assertAV P x ty ok k = some r) : Nat1 r k fun β k' => assertAV P x ty ok k' := by
  unfold assertAV at hk
  split at hk
  · cases hk
  · rename_i u hni hu
    split at hk
    · rename_i t y
      split at hk
      · rename_i h1
        exact ⟨_, _, hk, fun β k' => by simp only [assertAV, hu, if_pos h1]⟩
      · rename_i h1
        split at hk
        · rename_i h2
          obtain ⟨v, h3, h4⟩ := zeroAV_nat hk
          exact ⟨_, _, h3, fun β k' => by simp only [assertAV, hu, if_neg h1, if_pos h2, h4]⟩
        · cases hk
    · rename_i t y
      split at hk
      · rename_i h1
        exact ⟨_, _, hk, fun β k' => by simp only [assertAV, hu, if_pos h1]⟩
      · rename_i h1
        split at hk
        · rename_i h2
          obtain ⟨v, h3, h4⟩ := zeroAV_nat hk
          exact ⟨_, _, h3, fun β k' => by simp only [assertAV, hu, if_neg h1, if_pos h2, h4]⟩
        · cases hk
    · split at hk
      · rename_i h2
        obtain ⟨v, h3, h4⟩ := zeroAV_nat hk
        exact ⟨_, _, h3, fun β k' => by simp only [assertAV, hu, if_pos h2, h4]⟩
      · cases hk
    · cases hk
  · cases hk
theorem builtinAV_nat {b : Nat} {bi : Builtin} {ts : Array TypeId} {ty : TypeId} {args : List AV} {k : KV α} {r : α} (hk : builtinAV P h b bi ts ty args k = some r) : Nat1 r k fun β k' => builtinAV P h b bi ts ty args k' := by
  unfold builtinAV at hk
  split at hk
  · split at hk
    · rename_i h1
      split at hk
      · rename_i h2
        split at hk
        · rename_i h3
          exact ⟨_, _, hk, fun β k' => by simp only [builtinAV, h1, if_pos h2, h3]⟩
        · rename_i h3
          split at hk
          · rename_i h4
            exact ⟨_, _, hk, fun β k' => by simp only [builtinAV, h1, if_pos h2, h3, h4]⟩
          · cases hk
        · rename_i h3
          exact ⟨_, _, hk, fun β k' => by simp only [builtinAV, h1, if_pos h2, h3]⟩
        · cases hk
      · cases hk
    · cases hk
  · split at hk
    · rename_i h1
      obtain ⟨v, d, h2, h3⟩ := appendAV_nat hk
      exact ⟨v, d, h2, fun β k' => by simp only [builtinAV, if_pos h1, h3]⟩
    · cases hk
  · split at hk
    · rename_i h1
      obtain ⟨v, d, h2, h3⟩ := copyAV_nat hk
      exact ⟨v, d, h2, fun β k' => by simp only [builtinAV, if_pos h1, h3]⟩
    · cases hk
  · exact ⟨_, _, hk, fun β k' => rfl⟩
  · exact ⟨_, _, hk, fun β k' => rfl⟩
  · split at hk
    · rename_i h1
      obtain ⟨v, d, h2, h3⟩ := sca_nat hk
      exact ⟨v, d, h2, fun β k' => by simp only [builtinAV, h1, h3]⟩
    · cases hk
  · split at hk
    · rename_i h1
      obtain ⟨v, d, h2, h3⟩ := sca_nat hk
      exact ⟨v, d, h2, fun β k' => by simp only [builtinAV, h1, h3]⟩
    · cases hk
  · split at hk
    · rename_i h1
      obtain ⟨v, d, h2, h3⟩ := sca_nat hk
      exact ⟨v, d, h2, fun β k' => by simp only [builtinAV, h1, h3]⟩
    · cases hk
  · cases hk

theorem xop_nat {b : Nat} {o : Oper} {t : Tm} {k : KV α} {kp : PV → Option α} {r : α} (hk : xop P h b o t k kp = some r) :
    (∃ v d, k v d = some r ∧ ∀ (β : Type) (k' : KV β) (kp' : PV → Option β), xop P h b o t k' kp' = k' v d) ∨ (∃ y, kp y = some r ∧ ∀ (β : Type) (k' : KV β) (kp' : PV → Option β), xop P h b o t k' kp' = kp' y) := by
  unfold xop at hk
  split at hk
  · rename_i ho
    exact .inl ⟨_, _, hk, fun β k' kp' => by simp only [xop, ho]⟩
  · rename_i ho
    exact .inl ⟨_, _, hk, fun β k' kp' => by simp only [xop, ho]⟩
  · rename_i ho
    split at hk
    · rename_i q hq
      cases q with
      | true => exact .inl ⟨_, _, hk, fun β k' kp' => by simp only [xop, ho, hq, br]⟩
      | false => exact .inl ⟨_, _, hk, fun β k' kp' => by simp only [xop, ho, hq, br]⟩
    · cases hk
  · rename_i ho
    split at hk
    · rename_i h1
      exact .inl ⟨_, _, hk, fun β k' kp' => by simp only [xop, ho, h1]⟩
    · cases hk
  · rename_i ho
    split at hk
    · rename_i h1
      exact .inl ⟨_, _, hk, fun β k' kp' => by simp only [xop, ho, h1]⟩
    · cases hk
  · rename_i ho
    split at hk
    · rename_i h1
      exact .inl ⟨_, _, hk, fun β k' kp' => by simp only [xop, ho, h1]⟩
    · cases hk
  · rename_i ho
    obtain ⟨v, d, h1, h2⟩ := buildRow_nat hk
    exact .inl ⟨v, d, h1, fun β k' kp' => by simp only [xop, ho, h2]⟩
  · rename_i ho
    obtain ⟨v, h1, h2⟩ := loadAV_nat hk
    exact .inl ⟨v, [], h1, fun β k' kp' => by simp only [xop, ho, h2]⟩
  · rename_i ho
    obtain ⟨v, d, h1, h2⟩ := storeAV_nat hk
    exact .inl ⟨v, d, h1, fun β k' kp' => by simp only [xop, ho, h2]⟩
  · rename_i ho
    split at hk
    · rename_i h1
      exact .inl ⟨_, _, hk, fun β k' kp' => by simp only [xop, ho, if_pos h1]⟩
    · cases hk
  · rename_i ho
    split at hk
    · rename_i h0
      obtain ⟨hc, hk⟩ := chk_inv hk
      exact .inl ⟨_, _, hk, fun β k' kp' => by simp only [xop, ho, h0, chk_pos hc]⟩
    · rename_i h0
      obtain ⟨v, d, h1, h2⟩ := binAV_nat hk
      exact .inl ⟨v, d, h1, fun β k' kp' => by simp only [xop, ho, h0, h2]⟩
  · rename_i ho
    split at hk
    · rename_i h1
      exact .inl ⟨_, _, hk, fun β k' kp' => by simp only [xop, ho, h1]⟩
    · cases hk
  · rename_i hno ho
    obtain ⟨v, d, h1, h2⟩ := pure1_nat hk
    refine .inl ⟨v, d, h1, fun β k' kp' => ?_⟩
    unfold xop
    split <;> (rename_i he; simp_all)
    all_goals first | done | exact h2 _ _
  · rename_i ho
    split at hk
    · rename_i h0
      obtain ⟨hc, hk⟩ := chk_inv hk
      exact .inl ⟨_, _, hk, fun β k' kp' => by simp only [xop, ho, h0, chk_pos hc]⟩
    · rename_i h0
      obtain ⟨v, d, h1, h2⟩ := convertAV_nat hk
      exact .inl ⟨v, d, h1, fun β k' kp' => by simp only [xop, ho, h0, h2]⟩
  · rename_i ho
    obtain ⟨v, d, h1, h2⟩ := ifaceAV_nat hk
    exact .inl ⟨v, d, h1, fun β k' kp' => by simp only [xop, ho, h2]⟩
  · rename_i ho
    split at hk
    · rename_i h1
      split at hk
      · rename_i h2
        exact .inl ⟨_, _, hk, fun β k' kp' => by simp only [xop, ho, if_pos h1, if_pos h2]⟩
      · rename_i h2
        split at hk
        · rename_i h3
          exact .inl ⟨_, _, hk, fun β k' kp' => by simp only [xop, ho, if_pos h1, if_neg h2, h3]⟩
        · cases hk
    · cases hk
  · rename_i ho
    obtain ⟨v, d, h1, h2⟩ := makeSliceAV_nat hk
    exact .inl ⟨v, d, h1, fun β k' kp' => by simp only [xop, ho, h2]⟩
  · rename_i ho
    obtain ⟨v, d, h1, h2⟩ := sliceAV_nat hk
    exact .inl ⟨v, d, h1, fun β k' kp' => by simp only [xop, ho, h2]⟩
  · rename_i ho
    obtain ⟨v, d, h1, h2⟩ := fieldAddrAV_nat hk
    exact .inl ⟨v, d, h1, fun β k' kp' => by simp only [xop, ho, h2]⟩
  · rename_i ho
    obtain ⟨v, d, h1, h2⟩ := fieldAV_nat hk
    exact .inl ⟨v, d, h1, fun β k' kp' => by simp only [xop, ho, h2]⟩
  · rename_i ho
    obtain ⟨v, d, h1, h2⟩ := indexAddrAV_nat hk
    exact .inl ⟨v, d, h1, fun β k' kp' => by simp only [xop, ho, h2]⟩
  · rename_i ho
    obtain ⟨v, d, h1, h2⟩ := indexAV_nat hk
    exact .inl ⟨v, d, h1, fun β k' kp' => by simp only [xop, ho, h2]⟩
  · rename_i ho
    split at hk
    · rename_i h1 h2
      exact .inl ⟨_, _, hk, fun β k' kp' => by simp only [xop, ho, h1, h2]⟩
    · cases hk
  · rename_i ho
    obtain ⟨v, d, h1, h2⟩ := iterNext_nat hk
    exact .inl ⟨v, d, h1, fun β k' kp' => by simp only [xop, ho, h2]⟩
  · rename_i ho
    obtain ⟨v, d, h1, h2⟩ := mapMakeAV_nat hk
    exact .inl ⟨v, d, h1, fun β k' kp' => by simp only [xop, ho, h2]⟩
  · rename_i ho
    obtain ⟨v, d, h1, h2⟩ := mapLookAV_nat hk
    exact .inl ⟨v, d, h1, fun β k' kp' => by simp only [xop, ho, h2]⟩
  · rename_i ho
    obtain ⟨v, d, h1, h2⟩ := mapPutAV_nat hk
    exact .inl ⟨v, d, h1, fun β k' kp' => by simp only [xop, ho, h2]⟩
  · rename_i ho
    obtain ⟨v, d, h1, h2⟩ := assertAV_nat hk
    exact .inl ⟨v, d, h1, fun β k' kp' => by simp only [xop, ho, h2]⟩
  · rename_i ho
    split at hk
    · rename_i h1
      split at hk
      · rename_i h2
        exact .inl ⟨_, _, hk, fun β k' kp' => by simp only [xop, ho, h1, h2]⟩
      · cases hk
    · cases hk
  · rename_i ho
    split at hk
    · rename_i h1
      obtain ⟨v, d, h2, h3⟩ := builtinAV_nat hk
      exact .inl ⟨v, d, h2, fun β k' kp' => by simp only [xop, ho, h1, h3]⟩
    · cases hk
  · rename_i ho
    split at hk
    · rename_i h1
      split at hk
      · rename_i h2
        exact .inr ⟨_, hk, fun β k' kp' => by simp only [xop, ho, h1, if_pos h2]⟩
      · cases hk
    · cases hk
  · cases hk
end
end Go.Fx
