/- The small interpreter's slices against the model's: reading, freezing, appending, making. -/
import Derived.Test.YtokdkmlpfkeeaaaFx3
import Derived.Laws.OwnMore
import Derived.Laws.MakeOwn
import Derived.Laws.Slices
import Derived.Laws.Strings
import Derived.Lib.AppendStr
set_option linter.unusedVariables false
set_option linter.unusedSimpArgs false
namespace Go.Fx
open Go.RowKit

section
variable {P : Program} {S : Nat → Prop} {w0 w w' : World} {M0 M M' : Mem} {φ φ' : Phi} {h : Hp} {α : Type}

/-- What a slice's elements are, in the world as it is now. -/
def Reads (M : Mem) (w : World) (v : Value) (n : Nat) (f : Nat → List PV) : Prop :=
  ∃ (a : Option Addr) (cap b o sz : Nat) (c : Nat → Nat → Value), v = .slice a n cap ∧ n ≤ cap ∧ (0 < n → a = some ⟨b, o, none⟩) ∧ (∀ i : Nat, i < n → (f i).length = sz) ∧
    (∀ i j : Nat, i < n → j < sz → w.cell? ⟨b, o + (i * sz + j), none⟩ = some (c i j)) ∧ (∀ (i j : Nat) (x : PV), i < n → (f i)[j]? = some x → RepP M (c i j) x)

theorem RepP.reads (hR : Rel P S w0 M0 M φ h w) {v : Value} {n : Nat} {f : Nat → List PV} (hv : RepP M v (.sl n f)) : Reads M w v n f := by
  cases hv with
  | sl a cap b o sz c hn ha hl hM hc => exact ⟨a, cap, b, o, sz, c, rfl, hn, ha, hl, fun i j hi hj => hR.agr _ _ _ (hM i j hi hj), hc⟩
theorem Reads.zero {M : Mem} {w : World} {a : Option Addr} {cap : Nat} (f : Nat → List PV) : Reads M w (.slice a 0 cap) 0 f := ⟨a, cap, 0, 0, 0, fun _ _ => .bool true, rfl, Nat.zero_le _, fun h => by omega, fun i hi => by omega, fun i j hi => by omega, fun i j x hi => by omega⟩

theorem rowOf_get : ∀ {xs : List (List CV)} {ys : List (List PV)}, rowOf xs = some ys → ys.length = xs.length ∧ ∀ (i : Nat) (c : List CV), xs[i]? = some c → ∃ p, ys[i]? = some p ∧ pures c = some p
  | [], ys, h => by simp [rowOf] at h; subst h; simp
  | x :: xs, ys, h => by
    simp only [rowOf] at h
    split at h
    · rename_i c r hc hr
      injection h with h; subst h
      obtain ⟨h1, h2⟩ := rowOf_get hr
      refine ⟨by simp [h1], fun i c' hi => ?_⟩
      cases i with
      | zero => simp at hi; subst hi; exact ⟨c, rfl, hc⟩
      | succ i => simp at hi; obtain ⟨p, hp, hq⟩ := h2 i c' hi; exact ⟨p, by simpa using hp, hq⟩
    · cases h
theorem chunks_length {β : Type} (n : Nat) : ∀ (k : Nat) (l : List β), (chunks n k l).length = k
  | 0, _ => rfl
  | k + 1, l => by simp [chunks, chunks_length n k]
theorem chunks_get {β : Type} (n : Nat) : ∀ (k : Nat) (l : List β) (i : Nat), i < k → (chunks n k l)[i]? = some ((l.drop (i * n)).take n)
  | 0, _, i, h => by omega
  | k + 1, l, 0, _ => by simp [chunks]
  | k + 1, l, i + 1, h => by
    simp only [chunks, List.getElem?_cons_succ]
    rw [chunks_get n k _ i (by omega), List.drop_drop, Nat.succ_mul, Nat.add_comm n]
theorem pures_length : ∀ {cs : List CV} {ps : List PV}, pures cs = some ps → ps.length = cs.length := by
  intro cs
  induction cs with
  | nil => intro ps h; simp [pures] at h; subst h; rfl
  | cons c cs ih =>
    intro ps h
    cases c with
    | p y =>
      simp only [pures] at h
      cases hp : pures cs with
      | none => rw [hp] at h; simp at h
      | some r => rw [hp] at h; simp at h; subst h; simp [ih hp]
    | _ => simp [pures] at h

theorem elems_reads (hR : Rel P S w0 M0 M φ h w) {v : Value} {s : CV} {n : Nat} {f : Nat → List PV} (hs : s.isStr = false) (he : elems h s = some (n, f)) (hv : RepC M φ v s) : Reads M w v n f := by
  cases hv with
  | p hp =>
    rename_i y
    cases y with
    | sl n' f' => simp [elems] at he; obtain ⟨rfl, rfl⟩ := he; exact hp.reads hR
    | v x => cases x <;> first | (simp [elems] at he; done) | (simp [CV.isStr] at hs)
    | ifc => simp [elems] at he
    | ifa => simp [elems] at he
  | nils => simp [elems] at he; obtain ⟨rfl, rfl⟩ := he; exact Reads.zero _
  | os hφ h1 =>
    rename_i l sz
    simp only [elems] at he
    split at he
    · rename_i e n' f' q hl
      injection he with he; injection he with e1 e2; subst e1; subst e2
      cases hR.obj l _ hl with
      | row v' sz' cells hφ' hsz h0 ho hl' hr hlive hfr =>
        rw [hφ] at hφ'; injection hφ' with hφ'; injection hφ' with e1 e2; subst e1; subst e2
        rcases ho.2 with ⟨rfl, rfl⟩ | ⟨g, cap, cur, rfl, hb2, hh, hnc, hcm, hcs2, htake⟩
        · exact Reads.zero _
        · have hcell := own_cells ho (g := g) rfl
          refine ⟨_, cap, g, 0, sz, fun i j => cells.getD (i * sz + j) (.bool true), rfl, hnc, fun _ => rfl, hl', fun i j hi hj => ?_, fun i j x hi hx => ?_⟩
          · have hlt : i * sz + j < cells.length := by rw [ho.1]; have : i * sz + sz ≤ n' * sz := by { rw [← Nat.succ_mul]; exact Nat.mul_le_mul_right _ hi }; omega
            rw [Nat.zero_add]
            refine hcell _ _ ?_
            simp [List.getD_eq_getElem?_getD, hlt]
          · have hj : j < sz := by have := (List.getElem?_eq_some_iff.1 hx).1; rw [hl' i hi] at this; exact this
            have hlt : i * sz + j < cells.length := by rw [ho.1]; have : i * sz + sz ≤ n' * sz := by { rw [← Nat.succ_mul]; exact Nat.mul_le_mul_right _ hi }; omega
            refine hr i j _ x hi ?_ hx
            simp [List.getD_eq_getElem?_getD, hlt]
    · cases he
  | bs hφ hn =>
    rename_i l b off sz n' cap
    simp only [elems] at he
    split at he
    · rename_i cs q hl
      split at he
      · rename_i hfit
        split at he
        · rename_i xs hxs
          injection he with he; injection he with e1 e2; subst e1; subst e2
          cases hR.obj l _ hl with
          | box b' vs e hφ' hh hr hlive hfr =>
            rw [hφ] at hφ'; injection hφ' with hφ'; injection hφ' with e1; subst e1
            obtain ⟨h1, h2⟩ := rowOf_get hxs
            rw [chunks_length] at h1
            have key : ∀ i, i < n' → ∃ p, xs[i]? = some p ∧ pures (((cs.drop off).drop (i * sz)).take sz) = some p := fun i hi => h2 i _ (chunks_get sz n' (cs.drop off) i hi)
            have hin : ∀ i, i < n' → i * sz + sz ≤ n' * sz := fun i hi => by rw [← Nat.succ_mul]; exact Nat.mul_le_mul_right _ hi
            refine ⟨_, cap, b, off, sz, fun i j => vs.getD (off + (i * sz + j)) (.bool true), rfl, hn, fun _ => rfl, fun i hi => ?_, fun i j hi hj => ?_, fun i j x hi hx => ?_⟩
            · obtain ⟨p, hp, hq⟩ := key i hi
              have := hin i hi
              simp only [litF, List.getD_eq_getElem?_getD, hp, Option.getD_some]
              rw [pures_length hq, List.length_take, List.length_drop, List.length_drop]
              omega
            · have := hin i hi
              have hlt : off + (i * sz + j) < vs.length := by rw [hr.1]; omega
              rw [cell_of_row w b _ _ e (0, 0) hh]
              simp [List.getD_eq_getElem?_getD, hlt]
            · obtain ⟨p, hp, hq⟩ := key i hi
              have hi' := hin i hi
              simp only [litF, List.getD_eq_getElem?_getD, hp, Option.getD_some] at hx
              have hrep := pures_rep (M := M) hq (((hr.drop off).drop (i * sz)).take sz)
              have hj : j < p.length := (List.getElem?_eq_some_iff.1 hx).1
              have hpl := pures_length hq
              rw [List.length_take, List.length_drop, List.length_drop] at hpl
              have hlt : off + (i * sz + j) < vs.length := by rw [hr.1]; omega
              refine hrep.2 j _ x ?_ hx
              rw [List.getElem?_take, if_pos (by omega), List.getElem?_drop, List.getElem?_drop]
              simp [List.getD_eq_getElem?_getD, hlt]
        · cases he
      · cases he
    · cases he
  | _ => simp [elems] at he

/-- What lasts, with the cells of a block as they are now. -/
def addMem (M : Mem) (w : World) (g N : Nat) : Mem := fun b o => if b = g ∧ o < N then w.cell? ⟨b, o, none⟩ else M b o

theorem addMem_le (hR : Rel P S w0 M0 M φ h w) (g N : Nat) : M.le (addMem M w g N) := by
  intro b o v hv
  unfold addMem
  split
  · exact hR.agr b o v hv
  · exact hv

theorem applyD_one {l : Nat} {o : Ob} (hl : l < h.length) : applyD h [(l, o)] = h.set l o := by simp [applyD, hl]

/-- A slice becomes plain data: what it leads to lasts. -/
theorem freeze_sound (hR : Rel P S w0 M0 M φ h w) {v : Value} {s : CV} {n : Nat} {f : Nat → List PV} (hs : s.isStr = false) (he : elems h s = some (n, f)) (hv : RepC M φ v s) :
    ∃ N, M.le N ∧ Rel P S w0 M0 N φ (applyD h (frozenBy h s)) w ∧ RepP N v (.sl n f) := by
  have hreads := elems_reads hR hs he hv
  cases hv with
  | p hp =>
    rename_i y
    cases y with
    | sl n' f' => simp [elems] at he; obtain ⟨rfl, rfl⟩ := he; exact ⟨M, .refl _, by simpa [frozenBy, applyD] using hR, hp⟩
    | v x => cases x <;> first | (simp [elems] at he; done) | (simp [CV.isStr] at hs)
    | ifc => simp [elems] at he
    | ifa => simp [elems] at he
  | nils =>
    simp [elems] at he; obtain ⟨rfl, rfl⟩ := he
    exact ⟨M, .refl _, by simpa [frozenBy, applyD] using hR, .sl none 0 0 0 0 (fun _ _ => .bool true) (Nat.le_refl _) (fun h => by omega) (fun i hi => by omega) (fun i j hi => by omega) (fun i j x hi => by omega)⟩
  | os hφ h1 =>
    rename_i l sz
    simp only [elems] at he
    split at he
    · rename_i e n' f' q hl
      injection he with he; injection he with e1 e2; subst e1; subst e2
      have hlt : l < h.length := (List.getElem?_eq_some_iff.1 hl).1
      cases hR.obj l _ hl with
      | row v' sz' cells hφ' hsz h0 ho hl' hr hlive hfr =>
        rw [hφ] at hφ'; injection hφ' with hφ'; injection hφ' with e1 e2; subst e1; subst e2
        rcases ho.2 with ⟨rfl, rfl⟩ | ⟨g, cap, cur, rfl, hb2, hh, hnc, hcm, hcs2, htake⟩
        · refine ⟨M, .refl _, ?_, .sl none 0 0 0 0 (fun _ _ => .bool true) (Nat.le_refl _) (fun h => by omega) (fun i hi => by omega) (fun i j hi => by omega) (fun i j x hi => by omega)⟩
          cases q with
          | false => simpa [frozenBy, hl, applyD] using hR
          | true =>
            simp only [frozenBy, hl]
            rw [applyD_one hlt]
            exact hR.freeze hl rfl M (.refl _) (fun b k v hv => .inl hv) rfl (.row _ sz cells hφ hsz h0 ho hl' hr (by simp) (fun _ g hg => by simp [Value.ownBlock] at hg))
        · have hcell := own_cells ho (g := g) rfl
          have hin : ∀ i, i < n' → i * sz + sz ≤ n' * sz := fun i hi => by rw [← Nat.succ_mul]; exact Nat.mul_le_mul_right _ hi
          have build : ∀ N : Mem, M.le N → (∀ o, o < n' * sz → N g o = cells[o]?) → RepP N (.slice (some ⟨g, 0, none⟩) n' cap) (.sl n' f') := by
            intro N hMN hN
            refine .sl _ cap g 0 sz (fun i j => cells.getD (i * sz + j) (.bool true)) hnc (fun _ => rfl) hl' (fun i j hi hj => ?_) (fun i j x hi hx => ?_)
            · have := hin i hi
              have hlt : i * sz + j < cells.length := by rw [ho.1]; omega
              rw [Nat.zero_add, hN _ (by omega)]
              simp [List.getD_eq_getElem?_getD, hlt]
            · have := hin i hi
              have hj : j < sz := by have := (List.getElem?_eq_some_iff.1 hx).1; rw [hl' i hi] at this; exact this
              have hlt : i * sz + j < cells.length := by rw [ho.1]; omega
              refine (hr i j _ x hi ?_ hx).mono hMN
              simp [List.getD_eq_getElem?_getD, hlt]
          cases q with
          | false => exact ⟨M, .refl _, by simpa [frozenBy, hl, applyD] using hR, build M (.refl _) (hfr rfl g rfl)⟩
          | true =>
            have hMN := addMem_le hR g (n' * sz)
            have hN : ∀ o, o < n' * sz → addMem M w g (n' * sz) g o = cells[o]? := by
              intro o ho'
              unfold addMem
              rw [if_pos ⟨rfl, ho'⟩]
              have hlt : o < cells.length := by rw [ho.1]; exact ho'
              rw [List.getElem?_eq_getElem hlt]
              exact hcell _ _ (List.getElem?_eq_getElem hlt)
            refine ⟨_, hMN, ?_, build _ hMN hN⟩
            simp only [frozenBy, hl]
            rw [applyD_one hlt]
            refine hR.freeze hl rfl _ hMN (fun b k v hv => ?_) rfl (.row _ sz cells hφ hsz h0 ho hl' (fun i j u x hi hu hx => (hr i j u x hi hu hx).mono hMN) (by simp) (fun _ g' hg' o ho' => ?_))
            · unfold addMem at hv
              split at hv
              · rename_i hc
                exact .inr ⟨_, hφ, by simp [Loc.blk, Value.ownBlock, hc.1], hv⟩
              · exact .inl hv
            · simp [Value.ownBlock] at hg'; subst hg'; exact hN o ho'
    · cases he
  | bs hφ hn =>
    rename_i l b off sz n' cap
    simp only [elems] at he
    split at he
    · rename_i cs q hl
      split at he
      · rename_i hfit
        split at he
        · rename_i xs hxs
          injection he with he; injection he with e1 e2; subst e1; subst e2
          have hlt : l < h.length := (List.getElem?_eq_some_iff.1 hl).1
          cases hR.obj l _ hl with
          | box b' vs e hφ' hh hr hlive hfr =>
            rw [hφ] at hφ'; injection hφ' with hφ'; injection hφ' with e1; subst e1
            obtain ⟨a, cap', b2, o2, sz2, c, hv2, hnc2, ha2, hl2, hcell2, hrep2⟩ := hreads
            have hcells : ∀ o u, vs[o]? = some u → w.cell? ⟨b, o, none⟩ = some u := fun o u hu => by rw [cell_of_row w b _ _ e (0, 0) hh]; simpa using hu
            have build : ∀ N : Mem, M.le N → (∀ o, o < vs.length → N b o = vs[o]?) → RepP N (.slice (some ⟨b, off, none⟩) n' cap) (.sl n' (litF xs)) := by
              intro N hMN hN
              injection hv2 with hva hvn hvc
              refine .sl _ cap b2 o2 sz2 c hn ?_ hl2 (fun i j hi hj => ?_) (fun i j x hi hx => (hrep2 i j x hi hx).mono hMN)
              · intro h0; rw [hva]; exact ha2 h0
              · have h0 : 0 < n' := by omega
                have := ha2 h0
                rw [← hva] at this
                injection this with this
                injection this with e1 e2
                subst e1; subst e2
                have hcc := hcell2 i j hi hj
                have hkk : (vs.toArray)[off + (i * sz2 + j)]? = some (c i j) := by rw [← cell_of_row w b _ _ e (0, 0) hh]; exact hcc
                have hkk' : vs[off + (i * sz2 + j)]? = some (c i j) := by simpa using hkk
                rw [hN _ (List.getElem?_eq_some_iff.1 hkk').1, hkk']
            cases q with
            | false => exact ⟨M, .refl _, by simpa [frozenBy, hl, applyD] using hR, build M (.refl _) (hfr rfl)⟩
            | true =>
              have hMN := addMem_le hR b vs.length
              have hN : ∀ o, o < vs.length → addMem M w b vs.length b o = vs[o]? := by
                intro o ho'
                unfold addMem
                rw [if_pos ⟨rfl, ho'⟩, List.getElem?_eq_getElem ho']
                exact hcells _ _ (List.getElem?_eq_getElem ho')
              refine ⟨_, hMN, ?_, build _ hMN hN⟩
              simp only [frozenBy, hl]
              rw [applyD_one hlt]
              refine hR.freeze hl rfl _ hMN (fun b' k v hv => ?_) rfl (.box b vs e hφ hh (hr.mono hMN (.refl _)) (by simp) (fun _ => hN))
              unfold addMem at hv
              split at hv
              · rename_i hc
                exact .inr ⟨_, hφ, by simp [Loc.blk, hc.1], hv⟩
              · exact .inl hv
        · cases he
      · cases he
    · cases he
  | _ => simp [elems] at he
end
end Go.Fx
