/- The small interpreter's operations on memory against the model's: loads and stores. -/
import Derived.Test.YtokdkmlpfkeeaaaFx2
import Derived.Laws.Entries
set_option linter.unusedVariables false
set_option linter.unusedSimpArgs false
namespace Go.Fx
open Go.RowKit

theorem add_at (g o j : Nat) : (⟨g, o, none⟩ : Addr).add j = ⟨g, o + j, none⟩ := by unfold Addr.add; split <;> simp_all
theorem placeAt_get {β : Type} (zs cs : List β) (off : Nat) (h : off + cs.length ≤ zs.length) (k : Nat) : (placeAt zs off cs)[k]? = if k < off then zs[k]? else if k < off + cs.length then cs[k - off]? else zs[k]? := by
  unfold placeAt
  by_cases h1 : k < off
  · rw [if_pos h1, List.append_assoc, List.getElem?_append_left (by rw [List.length_take]; omega), List.getElem?_take, if_pos h1]
  · rw [if_neg h1]
    by_cases h2 : k < off + cs.length
    · rw [if_pos h2, List.getElem?_append_left (by rw [List.length_append, List.length_take]; omega), List.getElem?_append_right (by rw [List.length_take]; omega), List.length_take]
      congr 1; omega
    · rw [if_neg h2, List.getElem?_append_right (by rw [List.length_append, List.length_take]; omega), List.length_append, List.length_take, List.getElem?_drop]
      congr 1; omega
theorem placeAt_length {β : Type} (zs cs : List β) (off : Nat) (h : off + cs.length ≤ zs.length) : (placeAt zs off cs).length = zs.length := by
  unfold placeAt; simp; omega

section
variable {P : Program} {S : Nat → Prop} {w0 w w' : World} {M0 M M' : Mem} {φ φ' : Phi} {h : Hp} {α : Type}

theorem chk_inv {c : Prop} [Decidable c] {x : Option α} {r : α} (h : chk c x = some r) : c ∧ x = some r := by
  unfold chk at h
  split at h
  · exact ⟨‹_›, h⟩
  · cases h

theorem szOf_run {t n : Nat} (h : szOf P t = some n) (w : World) : (sizeOf t).run P w = .ok n w := by
  unfold szOf at h
  split at h
  · rename_i i hi
    injection h with h; subst h
    simp [sizeOf, typeInfo, hi]
  · cases h
theorem aggTy_run {t : Nat} {q : Bool} (h : aggTy P t = some q) (w : World) : (isAgg t).run P w = .ok q w := by
  unfold aggTy at h
  cases hu : P.underlying t with
  | none => rw [hu] at h; cases h
  | some d =>
    rw [hu] at h
    unfold isAgg
    simp only [Sem.run_bind, run_underlying hu, Result.andThen_ok]
    cases d <;> (injection h with h; subst h; rfl)

/-- Cells that stand in a row of memory make the value that they make here. -/
theorem mkV_load {t : TypeId} {cs : List CV} {k : AV → Option α} {r : α} (hk : mkV P t cs k = some r) {vs : List Value} (hr : RepCs M φ vs cs) {b o : Nat} (hc : ∀ j u, vs[j]? = some u → w.cell? ⟨b, o + j, none⟩ = some u) :
    ∃ v u, k v = some r ∧ (loadVar t ⟨b, o, none⟩).run P w = .ok u w ∧ RepA M φ u v := by
  unfold mkV at hk
  split at hk
  · rename_i n ha hn
    split at hk
    · rename_i hl
      refine ⟨_, .agg vs.toArray, hk, ?_, .agg hr⟩
      have := run_loadCells_list (P := P) (w := w) ⟨b, o, none⟩ vs (fun j u hu => by rw [add_at]; exact hc j u hu)
      unfold loadVar
      simp [aggTy_run ha, szOf_run hn, ← hl, ← hr.1, this]
    · cases hk
  · rename_i ha hn
    split at hk
    · rename_i x
      obtain ⟨v, vs', rfl, hv, hvs⟩ := hr.uncons
      have h0 := hc 0 v rfl
      refine ⟨_, v, hk, ?_, .c hv⟩
      unfold loadVar
      simp [aggTy_run ha]
      rw [show (⟨b, o, none⟩ : Addr) = ⟨b, o + 0, none⟩ by simp, h0]
    · cases hk
  · cases hk

theorem seg_rep {vs : List Value} {cs : List CV} (hr : RepCs M φ vs cs) (off n : Nat) : RepCs M φ (seg vs off n) (seg cs off n) := (hr.drop off).take n
theorem seg_get {β : Type} (vs : List β) (off n j : Nat) (u : β) (h : (seg vs off n)[j]? = some u) : vs[off + j]? = some u := by
  unfold seg at h
  rw [List.getElem?_take] at h
  split at h
  · rwa [List.getElem?_drop] at h
  · cases h

/-- The cells of a row of plain data: element i. -/
theorem row_elem {n sz : Nat} {f : Nat → List PV} {cells : List Value} (hlen : cells.length = n * sz) (hl : ∀ i : Nat, i < n → (f i).length = sz)
    (hr : ∀ (i j : Nat) (u : Value) (x : PV), i < n → cells[i * sz + j]? = some u → (f i)[j]? = some x → RepP M u x) {i : Nat} (hi : i < n) : RepPs M (seg cells (i * sz) sz) (f i) := by
  have hfit : i * sz + sz ≤ cells.length := by rw [hlen, ← Nat.succ_mul]; exact Nat.mul_le_mul_right _ hi
  refine ⟨by rw [hl i hi]; unfold seg; rw [List.length_take, List.length_drop]; omega, fun j v x hv hx => ?_⟩
  exact hr i j v x hi (seg_get _ _ _ _ _ hv) hx

theorem own_cells {e : TypeId} {sz : Nat} {v : Value} {n : Nat} {cells : List Value} (ho : w.ownsRow 0 e sz v n cells) {g : Nat} (hg : v.ownBlock = some g) : ∀ j u, cells[j]? = some u → w.cell? ⟨g, j, none⟩ = some u := by
  intro j u hu
  have := ho.cells hg j u hu
  rwa [add_at, Nat.zero_add] at this

theorem selInt_spec {kd : IntKind} : ∀ {cs : List CV} {l : List Int}, selInt kd cs = some l → l.length = cs.length ∧ ∀ j, j < l.length → cs[j]? = some (.p (.v (.int kd (l.getD j 0))))
  | [], l, h => by simp [selInt] at h; subst h; exact ⟨rfl, fun j hj => by simp at hj⟩
  | .p (.v (.int k' n)) :: cs, l, h => by
    simp only [selInt] at h
    cases hd : decide (k' = kd) with
    | false => rw [hd] at h; simp at h
    | true =>
      rw [hd] at h
      cases hs : selInt kd cs with
      | none => rw [hs] at h; simp at h
      | some r =>
        rw [hs] at h
        simp at h
        subst h
        obtain ⟨h1, h2⟩ := selInt_spec hs
        have : k' = kd := by simpa using hd
        subst this
        refine ⟨by simp [h1], fun j hj => ?_⟩
        cases j with
        | zero => simp
        | succ j => simpa using h2 j (by simpa using hj)
  | .p (.v (.bool _)) :: _, _, h => by simp [selInt] at h
  | .p (.v (.float _ _)) :: _, _, h => by simp [selInt] at h
  | .p (.v (.complex _ _ _)) :: _, _, h => by simp [selInt] at h
  | .p (.v (.string _)) :: _, _, h => by simp [selInt] at h
  | .p (.v (.pointer _)) :: _, _, h => by simp [selInt] at h
  | .p (.v (.slice _ _ _)) :: _, _, h => by simp [selInt] at h
  | .p (.v (.map _)) :: _, _, h => by simp [selInt] at h
  | .p (.v (.chan _)) :: _, _, h => by simp [selInt] at h
  | .p (.v (.func _ _ _)) :: _, _, h => by simp [selInt] at h
  | .p (.v .nilFunc) :: _, _, h => by simp [selInt] at h
  | .p (.v (.iface _ _)) :: _, _, h => by simp [selInt] at h
  | .p (.v .nilIface) :: _, _, h => by simp [selInt] at h
  | .p (.v (.agg _)) :: _, _, h => by simp [selInt] at h
  | .p (.v (.tuple _)) :: _, _, h => by simp [selInt] at h
  | .p (.sl _ _) :: _, _, h => by simp [selInt] at h
  | .p (.ifc _ _) :: _, _, h => by simp [selInt] at h
  | .p (.ifa _ _) :: _, _, h => by simp [selInt] at h
  | .nils :: _, _, h => by simp [selInt] at h
  | .ptr _ _ :: _, _, h => by simp [selInt] at h
  | .ep _ _ _ :: _, _, h => by simp [selInt] at h
  | .os _ :: _, _, h => by simp [selInt] at h
  | .bs _ _ _ _ :: _, _, h => by simp [selInt] at h
  | .ip _ :: _, _, h => by simp [selInt] at h
  | .fn _ _ :: _, _, h => by simp [selInt] at h
  | .itp _ :: _, _, h => by simp [selInt] at h
  | .mp _ :: _, _, h => by simp [selInt] at h
theorem bigInts_mkV {n : Nat} {e : TypeId} {cs : List CV} {kd : IntKind} {l : List Int} {i : Nat} {k : AV → Option α} (hb : bigInts P n e cs = some (kd, l)) (hsz : szOf P e = some 1) (hi : i < l.length) :
    l.length = cs.length ∧ mkV P e (seg cs (i * 1) 1) k = k (.c (.p (.v (.int kd (l.getD i 0))))) := by
  unfold bigInts at hb
  split at hb
  · rename_i k' hn hu
    split at hb
    · rename_i l' hs
      injection hb with hb; injection hb with e1 e2; subst e1; subst e2
      obtain ⟨h1, h2⟩ := selInt_spec hs
      refine ⟨h1, ?_⟩
      have ha : aggTy P e = some false := by unfold aggTy; rw [hu]
      have hget := h2 i hi
      have hlt : i < cs.length := by omega
      have hseg : seg cs (i * 1) 1 = [.p (.v (.int k' (l'.getD i 0)))] := by
        unfold seg
        rw [Nat.mul_one]
        rw [List.getElem?_eq_getElem hlt] at hget
        injection hget with hget
        rw [List.drop_eq_getElem_cons hlt, hget]
        rfl
      unfold mkV
      rw [ha, hsz, hseg]
      rfl
    · cases hb
  · cases hb
theorem loadAV_sound {t : TypeId} {a : AV} {k : AV → Option α} {r : α} (hR : Rel P S w0 M0 M φ h w) (hk : loadAV P h t a k = some r) {a' : Value} (ha : RepA M φ a' a) :
    ∃ v u, k v = some r ∧ (Instr.loadAt t a').run P w = .ok u w ∧ RepA M φ u v := by
  unfold loadAV at hk
  split at hk
  · rename_i l off
    split at hk
    · rename_i cs q n hl hn
      obtain ⟨hlen, hk⟩ : off + n ≤ cs.length ∧ mkV P t (seg cs off n) k = some r := by
        split at hk
        · rename_i kd xs hbig
          split at hk
          · rename_i hn1
            subst hn1
            obtain ⟨hlt, hk⟩ := chk_inv hk
            obtain ⟨h1, h2⟩ := bigInts_mkV hbig hn hlt (k := k)
            rw [Nat.mul_one] at h2
            exact ⟨by omega, by rw [h2]; exact hk⟩
          · cases hk
        · exact chk_inv hk
      have hO := hR.obj l _ hl
      cases hO with
      | box b vs e hφ hh hr hlive hfr =>
        cases ha with
        | c ha =>
          have hp : a' = .pointer (some ⟨b, off, none⟩) := by
            cases ha with
            | ptr h1 => rw [hφ] at h1; injection h1 with h1; injection h1 with h1; rw [h1]
          subst hp
          obtain ⟨v, u, h1, h2, h3⟩ := mkV_load (w := w) hk (seg_rep hr off n) (b := b) (o := off) (fun j u hu => by
            rw [cell_of_row w b _ _ e (0, 0) hh]
            have := seg_get _ _ _ _ _ hu
            simpa using this)
          exact ⟨v, u, h1, by simp [Instr.loadAt, Instr.sureAddr, h2], h3⟩
    · cases hk
  · rename_i l i off
    split at hk
    · rename_i e n f q sz hl hn
      obtain ⟨hi, hk⟩ := chk_inv hk
      split at hk
      · rename_i hlen
        have hO := hR.obj l _ hl
        cases hO with
        | row v sz' cells hφ hsz h0 ho hl' hr hlive hfr =>
          cases ha with
          | c ha =>
            cases ha with
            | ep h1 =>
              rename_i g n' cap sz2
              rw [hφ] at h1; injection h1 with h1; injection h1 with h1 h2
              subst h1; subst h2
              have hcell := own_cells ho (g := g) rfl
              have hel := row_elem ho.1 hl' hr hi
              obtain ⟨v, u, h1, h2, h3⟩ := mkV_load (w := w) (M := M) (φ := φ) hk (seg_rep hel.toC off sz) (b := g) (o := i * sz' + off) (fun j u hu => by
                have h5 := seg_get _ _ _ _ _ (seg_get _ _ _ _ _ hu)
                rw [show i * sz' + off + j = i * sz' + (off + j) by omega]
                exact hcell _ u h5)
              exact ⟨v, u, h1, by simp [Instr.loadAt, Instr.sureAddr, h2], h3⟩
      · cases hk
    · rename_i xs sz hl hn
      split at hk
      · rename_i cs hcs
        split at hk
        · rename_i hlen
          have hO := hR.obj l _ hl
          cases hO with
          | rrow b sz' vs e hφ hh hlen' hl' hr hlive =>
            cases ha with
            | c ha =>
              cases ha with
              | ep h1 =>
                rename_i g n' cap sz2
                rw [hφ] at h1; injection h1 with h1; injection h1 with h1 h2
                injection h1 with h1 h4 h5
                injection h1 with h1
                injection h1 with h1
                subst h1; subst h2
                have hi : i < xs.length := (List.getElem?_eq_some_iff.1 hcs).1
                have hfit : i * sz' + sz' ≤ vs.length := by rw [hlen', ← Nat.succ_mul]; exact Nat.mul_le_mul_right _ hi
                have hel : RepCs M φ (seg vs (i * sz') sz') cs := ⟨by rw [hl' i cs hcs]; unfold seg; rw [List.length_take, List.length_drop]; omega, fun j v x hv hx => hr i j v cs x hcs (seg_get _ _ _ _ _ hv) hx⟩
                obtain ⟨v, u, h1, h2, h3⟩ := mkV_load (w := w) (M := M) (φ := φ) hk (seg_rep hel off sz) (b := b) (o := i * sz' + off) (fun j u hu => by
                  have h5 := seg_get _ _ _ _ _ (seg_get _ _ _ _ _ hu)
                  rw [show i * sz' + off + j = i * sz' + (off + j) by omega, cell_of_row w b _ _ e (0, 0) hh]
                  simpa using h5)
                exact ⟨v, u, h1, by simp [Instr.loadAt, Instr.sureAddr, h2], h3⟩
        · cases hk
      · cases hk
    · cases hk
  · rename_i cs
    split at hk
    · rename_i n hn
      split at hk
      · rename_i hlen
        cases ha with
        | c ha =>
          cases ha with
          | ip c hM hc =>
            rename_i b o
            have hrep : RepPs M ((List.range cs.length).map c) cs := ⟨by simp, fun j v x hv hx => by
              rw [List.getElem?_map] at hv
              cases hj : (List.range cs.length)[j]? with
              | none => rw [hj] at hv; simp at hv
              | some jj =>
                rw [hj] at hv
                simp at hv
                have : jj = j := by rw [List.getElem?_range (by have := (List.getElem?_eq_some_iff.1 hx).1; exact this)] at hj; injection hj with hj; exact hj.symm
                subst this
                subst hv
                exact hc jj x hx⟩
            obtain ⟨v, u, h1, h2, h3⟩ := mkV_load (w := w) (M := M) (φ := φ) hk (seg_rep hrep.toC 0 n) (b := b) (o := o) (fun j u hu => by
              have h5 := seg_get _ _ _ _ _ hu
              rw [Nat.zero_add, List.getElem?_map] at h5
              cases hj : (List.range cs.length)[j]? with
              | none => rw [hj] at h5; simp at h5
              | some jj =>
                have hlt : j < cs.length := by have := (List.getElem?_eq_some_iff.1 hj).1; simpa using this
                rw [List.getElem?_range hlt] at hj
                injection hj with hj
                rw [List.getElem?_range hlt] at h5
                simp at h5
                rw [← h5]
                exact hR.agr _ _ _ (hM j hlt))
            exact ⟨v, u, h1, by simp [Instr.loadAt, Instr.sureAddr, h2], h3⟩
      · cases hk
    · cases hk
  · cases hk

theorem grown_setRow (w : World) (g : Nat) (cs : Array Value) : w.grownBy (w.setRow g cs) (some g) :=
  ⟨rfl, rfl, rfl, by simp, fun k _ hk => setRow_other w g k _ (fun e => hk (by rw [e]))⟩

theorem run_storeVar {t n : Nat} (hn : szOf P t = some n) {x : Value} {us : List Value} (hx : x.cells = us.toArray) (hl : us.length = n) (A : Addr) : (storeVar t A x).run P w = (storeCells A us).run P w := by
  unfold storeVar
  simp [szOf_run hn, hx, hl]

/-- What is stored, behind a row's change. -/
theorem storeAV_sound {t : TypeId} {a x : AV} {k : KV α} {r : α} (hR : Rel P S w0 M0 M φ h w) (hk : storeAV P h t a x k = some r) {a' x' : Value} (ha : RepA M φ a' a) (hx : RepA M φ x' x) :
    ∃ v d w', k v d = some r ∧ (Instr.storeAt t a' x').run P w = .ok () w' ∧ Leaves P S w0 M0 M φ h d undef v w' := by
  unfold storeAV at hk
  split at hk
  · rename_i cs n hcs hn
    split at hk
    · rename_i hlen
      obtain ⟨us, hus, hrep⟩ := hx.cells hcs
      split at hk
      · rename_i l off
        split at hk
        · rename_i ds hl
          obtain ⟨hfit, hk⟩ := chk_inv hk
          have hO := hR.obj l _ hl
          cases hO with
          | box b vs e hφ hh hr hlive hfr =>
            cases ha with
            | c ha =>
              have hp : a' = .pointer (some ⟨b, off, none⟩) := by
                cases ha with
                | ptr h1 => rw [hφ] at h1; injection h1 with h1; injection h1 with h1; rw [h1]
              subst hp
              have hul : us.length = n := by rw [hrep.1, hlen]
              have hfit' : off + us.length ≤ vs.length := by rw [hul, hr.1]; exact hfit
              have hst := run_storeCells_at P b off e us 0 vs.toArray w hh (by simpa using hfit') hrep.one
              refine ⟨_, _, w.setRow b (vs.toArray.toList.take (off + 0) ++ us ++ vs.toArray.toList.drop (off + 0 + us.length)).toArray, hk, ?_, M, φ, .refl _, .refl _, ?_, .undef⟩
              · have e1 := run_storeVar (P := P) (w := w) hn hus hul ⟨b, off, none⟩
                simp only [Instr.storeAt, Instr.sureAddr, Sem.run_bind, Sem.run_pure, Result.andThen_ok]
                exact e1.trans hst
              · have hlt : l < h.length := (List.getElem?_eq_some_iff.1 hl).1
                simp only [applyD, if_pos hlt]
                refine hR.setO hl rfl hφ rfl (hlive rfl) (grown_setRow w b _) (.box b (placeAt vs off us) e hφ ?_ ?_ hlive (by simp))
                · rw [setRow_heap w b _ _ e (0, 0) hh]
                  simp [placeAt]
                · unfold placeAt
                  have := ((hr.take off).append hrep).append (hr.drop (off + us.length))
                  rw [hrep.1] at this ⊢
                  exact this
        · cases hk
      · rename_i l i off
        split at hk
        · rename_i e m f ps hl hps
          obtain ⟨hi, hk⟩ := chk_inv hk
          split at hk
          · rename_i hfit
            have hO := hR.obj l _ hl
            cases hO with
            | row v sz cells hφ hsz h0 ho hl' hr hlive hfr =>
              cases ha with
              | c ha =>
                cases ha with
                | ep h1 =>
                  rename_i g n' cap sz2
                  rw [hφ] at h1; injection h1 with h1; injection h1 with h1 h2
                  subst h1; subst h2
                  have hprep := pures_rep hps hrep
                  have hul : us.length = n := by rw [hrep.1, hlen]
                  have hpl : ps.length = n := by rw [← hprep.1, hul]
                  have hfsz : off + n ≤ sz := by have := hl' i hi; omega
                  have hcl : cells.length = m * sz := ho.1
                  have hrow : i * sz + sz ≤ m * sz := by rw [← Nat.succ_mul]; exact Nat.mul_le_mul_right _ hi
                  rcases ho.2 with ⟨e1, _⟩ | ⟨g2, cap2, cur, e1, hb2, hh, hnc, hcm, hcs2, htake⟩
                  · cases e1
                  · injection e1 with e1 e2 e3
                    injection e1 with e1
                    injection e1 with e1 _ _
                    obtain rfl : g = g2 := e1
                    obtain rfl : m = n' := e2.symm
                    obtain rfl : cap = cap2 := e3
                    have hcap : m * sz ≤ cur.size := by rw [hcs2]; exact Nat.mul_le_mul_right _ hnc
                    have hst := run_storeCells_at P g (i * sz + off) e us 0 cur w hh (by omega) hrep.one
                    refine ⟨_, _, w.setRow g (cur.toList.take (i * sz + off + 0) ++ us ++ cur.toList.drop (i * sz + off + 0 + us.length)).toArray, hk, ?_, M, φ, .refl _, .refl _, ?_, .undef⟩
                    · have e1 := run_storeVar (P := P) (w := w) hn hus hul ⟨g, i * sz + off, none⟩
                      simp only [Instr.storeAt, Instr.sureAddr, Sem.run_bind, Sem.run_pure, Result.andThen_ok]
                      exact e1.trans hst
                    · have hlt : l < h.length := (List.getElem?_eq_some_iff.1 hl).1
                      simp only [applyD, if_pos hlt]
                      have hnew : (cur.toList.take (i * sz + off + 0) ++ us ++ cur.toList.drop (i * sz + off + 0 + us.length)) = placeAt cur.toList (i * sz + off) us := by simp [placeAt]
                      have hcfit : i * sz + off + us.length ≤ cells.length := by omega
                      have hkl : (placeAt cells (i * sz + off) us).length = m * sz := by rw [placeAt_length _ _ _ hcfit, hcl]
                      refine hR.setO hl rfl hφ rfl (hlive rfl g rfl) (grown_setRow w g _) (.row _ sz (placeAt cells (i * sz + off) us) hφ hsz h0 ?_ ?_ ?_ hlive (by simp))
                      · refine ⟨hkl, .inr ⟨g, cap, _, rfl, hb2, setRow_heap w g _ _ e (0, 0) hh, hnc, hcm, ?_, ?_⟩⟩
                        · rw [hnew]; simp only [List.size_toArray]; rw [placeAt_length _ _ _ (by simp; omega)]; simpa using hcs2
                        · rw [hnew]
                          apply List.ext_getElem?
                          intro q
                          rw [List.getElem?_take, placeAt_get _ _ _ (by simp; omega), placeAt_get _ _ _ hcfit, ← htake, List.getElem?_take]
                          by_cases hq : q < m * sz
                          · simp only [hq, if_true]
                          · rw [if_neg hq, if_neg (by omega), if_neg (by omega), if_neg hq]
                      · intro i2 hi2
                        unfold setF
                        by_cases e : i2 = i
                        · subst e; rw [if_pos rfl, placeAt_length _ _ _ (by rw [hpl]; omega)]; exact hl' i2 hi
                        · rw [if_neg e]; exact hl' i2 hi2
                      · intro i2 j u y hi2 hu hy
                        have hj : j < sz := by
                          have h7 := (List.getElem?_eq_some_iff.1 hy).1
                          unfold setF at h7
                          split at h7
                          · rename_i e; subst e; rw [placeAt_length _ _ _ (by rw [hpl]; omega), hl' i2 hi] at h7; exact h7
                          · rw [hl' i2 hi2] at h7; exact h7
                        rw [placeAt_get _ _ _ hcfit] at hu
                        unfold setF at hy
                        by_cases e : i2 = i
                        · subst e
                          rw [if_pos rfl, placeAt_get _ _ _ (by rw [hpl]; omega)] at hy
                          by_cases h1 : j < off
                          · rw [if_pos (by omega)] at hu
                            rw [if_pos h1] at hy
                            exact hr i2 j u y hi hu hy
                          · rw [if_neg (by omega)] at hu
                            rw [if_neg h1] at hy
                            by_cases h2 : j < off + n
                            · rw [if_pos (by omega)] at hu
                              rw [if_pos (by omega)] at hy
                              rw [show i2 * sz + j - (i2 * sz + off) = j - off by omega] at hu
                              exact hprep.2 _ u y hu hy
                            · rw [if_neg (by omega)] at hu
                              rw [if_neg (by omega)] at hy
                              exact hr i2 j u y hi hu hy
                        · rw [if_neg e] at hy
                          have hout : i2 * sz + j < i * sz + off ∨ i * sz + off + us.length ≤ i2 * sz + j := by
                            rcases Nat.lt_or_gt_of_ne e with h1 | h1
                            · have : i2 * sz + sz ≤ i * sz := by rw [← Nat.succ_mul]; exact Nat.mul_le_mul_right _ h1
                              omega
                            · have : i * sz + sz ≤ i2 * sz := by rw [← Nat.succ_mul]; exact Nat.mul_le_mul_right _ h1
                              omega
                          rcases hout with h1 | h1
                          · rw [if_pos h1] at hu; exact hr i2 j u y hi2 hu hy
                          · rw [if_neg (by omega), if_neg (by omega)] at hu; exact hr i2 j u y hi2 hu hy
          · cases hk
        · cases hk
      · cases hk
    · cases hk
  · cases hk
end
end Go.Fx
