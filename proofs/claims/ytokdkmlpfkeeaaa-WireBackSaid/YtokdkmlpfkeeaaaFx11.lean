/- The small interpreter's operations against the model's: copies, lengths, interfaces, texts gone through; any operation that is no call. -/
import Derived.Test.YtokdkmlpfkeeaaaFx10
set_option linter.unusedVariables false
set_option linter.unusedSimpArgs false
namespace Go.Fx
open Go.RowKit Go.Lib

section
variable {P : Program} {S : Nat → Prop} {w0 w w' : World} {M0 M M' : Mem} {φ φ' : Phi} {h : Hp} {α : Type}

theorem copyCs_get (m : Nat) (g : Nat → List PV) : ∀ (n i : Nat) (cs : List CV) (q : Nat), (copyCs m g i n cs)[q]? = if q < n then (cs[q]?).map (fun c => if i + q < m then cell1 (g (i + q)) else c) else cs[q]?
  | 0, i, cs, q => by simp [copyCs]
  | n + 1, i, [], q => by simp [copyCs]
  | n + 1, i, c :: cs, 0 => by simp [copyCs]
  | n + 1, i, c :: cs, q + 1 => by
    simp only [copyCs, List.getElem?_cons_succ]
    rw [copyCs_get m g n (i + 1) cs q]
    by_cases hq : q < n
    · rw [if_pos hq, if_pos (by omega), show i + 1 + q = i + (q + 1) by omega]
    · rw [if_neg hq, if_neg (by omega)]
theorem copyCs_length (m : Nat) (g : Nat → List PV) : ∀ (n i : Nat) (cs : List CV), (copyCs m g i n cs).length = cs.length
  | 0, i, cs => by simp [copyCs]
  | n + 1, i, [] => by simp [copyCs]
  | n + 1, i, c :: cs => by simp [copyCs, copyCs_length m g n]

theorem copyAV_sound {ts : Array TypeId} {ty : TypeId} {s x : AV} {k : KV α} {r : α} (hR : Rel P S w0 M0 M φ h w) (hts : ts.size = 2) (hk : copyAV P h ts s x k = some r) {s' x' : Value} (hs : RepA M φ s' s) (hx : RepA M φ x' x) :
    ∃ v d v' w', k v d = some r ∧ (Builtin.copy_ ts ty #[s', x']).run P w = .ok v' w' ∧ Leaves P S w0 M0 M φ h d v' v w' := by
  unfold copyAV at hk
  split at hk
  · rename_i t l off sz n x ht
    split at hk
    · rename_i cs m g e hl hel hu
      split at hk
      · rename_i he
        split at hk
        · rename_i hc
          obtain ⟨hfit, hstr, hsz, hg0⟩ := hc
          subst hsz
          cases hs with
          | c hs => cases hs with
            | bs hφ hn =>
              rename_i b cap
              cases hx with
              | c hx =>
                obtain ⟨a, cap2, b2, o2, sz2, c, rfl, hcap2, ha2, hl2, hcell2, hrep2⟩ := elems_reads hR hstr hel hx
                cases hR.obj l _ hl with
                | box b' vs e' hφ' hh hr hlive hfr =>
                  rw [hφ] at hφ'; injection hφ' with hφ'; injection hφ' with e1; subst e1
                  have hmin : min m n ≤ m := Nat.min_le_left _ _
                  have h1 : 0 < m → sz2 = 1 := fun hm => by
                    rcases hg0 with h5 | h5
                    · rw [← h5]; exact (hl2 0 hm).symm
                    · omega
                  -- what is read
                  have hfirst : (Builtin.firstCells 1 (min m n) (.slice a m cap2)).run P w = .ok (flat 1 (min m n) c).toArray w := by
                    by_cases hz : min m n = 0
                    · rw [hz]
                      cases a <;> simp [Builtin.firstCells, flat, loadCells, loadCellsFrom]
                    · have hm : 0 < m := by omega
                      rw [ha2 hm]
                      refine run_firstCells_some (P := P) w 1 (min m n) ⟨b2, o2, none⟩ m cap2 _ (flat_length _ _ _) (fun j u hu' => ?_)
                      obtain ⟨i, jj, hi, hj, rfl, rfl⟩ := flat_inv hu'
                      rw [add_at]
                      have e1 := h1 hm
                      have := hcell2 i jj (by omega) (by omega)
                      rw [e1] at this
                      exact this
                  have hone : ∀ u ∈ flat 1 (min m n) c, u.oneCell' = true := by
                    intro u hu'
                    obtain ⟨q, hq⟩ := List.mem_iff_getElem?.1 hu'
                    obtain ⟨i, jj, hi, hj, rfl, rfl⟩ := flat_inv hq
                    have e1 := h1 (by omega)
                    have hlt : jj < (g i).length := by rw [hl2 i (by omega), e1]; omega
                    exact (hrep2 i jj _ (by omega) (List.getElem?_eq_getElem hlt)).one
                  have hfl : (flat 1 (min m n) c).length = min m n := by rw [flat_length, Nat.mul_one]
                  have hvl : vs.length = cs.length := hr.1
                  have hst := run_storeCells_at P b off e' (flat 1 (min m n) c) 0 vs.toArray w hh (by rw [hfl]; simp; omega) hone
                  have hts' : ts[0]? = some t := ht
                  obtain ⟨W, hW⟩ : ∃ W, W = w.setRow b (vs.toArray.toList.take (off + 0) ++ flat 1 (min m n) c ++ vs.toArray.toList.drop (off + 0 + (flat 1 (min m n) c).length)).toArray := ⟨_, rfl⟩
                  rw [← hW] at hst
                  refine ⟨_, _, .int .i64 (min m n : Nat), W, hk, ?_, M, φ, .refl _, .refl _, ?_, .c (.p (.v rfl))⟩
                  · unfold Builtin.copy_
                    simp only [hts', List.getElem?_toArray, List.getElem?_cons_zero, List.getElem?_cons_succ, Sem.run_bind, run_underlying hu, Result.andThen_ok, Builtin.lenOf, Sem.run_pure, szOf_run he]
                    rw [show Nat.min m n = min m n from rfl, hfirst]
                    simp only [Result.andThen_ok]
                    rw [hst]
                    rfl
                  · have hlt : l < h.length := (List.getElem?_eq_some_iff.1 hl).1
                    simp only [applyD, if_pos hlt]
                    rw [hW]
                    refine hR.setO hl rfl hφ rfl (hlive rfl) (grown_setRow w b _) (.box b (placeAt vs off (flat 1 (min m n) c)) e' hφ ?_ ⟨?_, fun j v y hv hy => ?_⟩ hlive (by simp))
                    · rw [setRow_heap w b _ _ e' (0, 0) hh]
                      simp [placeAt]
                    · rw [placeAt_length _ _ _ (by rw [hfl]; omega)]
                      simp [copyCs_length]
                      omega
                    · rw [placeAt_get _ _ _ (by rw [hfl]; omega), hfl] at hv
                      by_cases hj : j < off
                      · rw [if_pos hj] at hv
                        rw [List.getElem?_append_left (by rw [List.length_take]; omega), List.getElem?_take, if_pos hj] at hy
                        exact hr.2 j v y hv hy
                      · rw [if_neg hj] at hv
                        rw [List.getElem?_append_right (by rw [List.length_take]; omega), List.length_take, show min off cs.length = off by omega, copyCs_get] at hy
                        by_cases hj2 : j < off + min m n
                        · rw [if_pos hj2] at hv
                          rw [if_pos (by omega)] at hy
                          cases hcc : (cs.drop off)[j - off]? with
                          | none => rw [hcc] at hy; simp at hy
                          | some c0 =>
                            rw [hcc] at hy
                            simp only [Option.map_some, Nat.zero_add, Option.some.injEq] at hy
                            rw [if_pos (by omega)] at hy
                            subst hy
                            have hi : j - off < min m n := by omega
                            have hv' : (flat 1 (min m n) c)[(j - off) * 1 + 0]? = some v := by simpa using hv
                            rw [flat_get hi (by omega)] at hv'
                            injection hv' with hv'
                            have hlen := hl2 (j - off) (by omega)
                            rw [h1 (by omega)] at hlen
                            obtain ⟨p, hp⟩ : ∃ p, g (j - off) = [p] := by
                              cases hgg : g (j - off) with
                              | nil => rw [hgg] at hlen; simp at hlen
                              | cons p ps =>
                                cases ps with
                                | nil => exact ⟨p, rfl⟩
                                | cons q qs => rw [hgg] at hlen; simp at hlen
                            rw [hp]
                            rw [← hv']
                            exact .p (hrep2 (j - off) 0 p (by omega) (by rw [hp]; rfl))
                        · rw [if_neg hj2] at hv
                          by_cases hj3 : j - off < n
                          · rw [if_pos hj3, List.getElem?_drop] at hy
                            cases hcc : cs[off + (j - off)]? with
                            | none => rw [hcc] at hy; simp at hy
                            | some c0 =>
                              rw [hcc] at hy
                              simp only [Option.map_some, Nat.zero_add, Option.some.injEq] at hy
                              rw [if_neg (by omega)] at hy
                              subst hy
                              rw [show off + (j - off) = j by omega] at hcc
                              exact hr.2 j v _ hv hcc
                          · rw [if_neg hj3, List.getElem?_drop, show off + (j - off) = j by omega] at hy
                            exact hr.2 j v y hv hy
        · cases hk
      · cases hk
    · cases hk
  · cases hk

theorem lenOf_run {t ty e : TypeId} {s : CV} {n : Nat} {v : Value} (hR : Rel P S w0 M0 M φ h w) (hu : P.underlying t = some (.slice e)) (hn : lenOf h s = some n) (hv : RepC M φ v s) : (Builtin.len_ #[t] ty #[v]).run P w = .ok (goInt n) w := by
  have key : ∃ a c, v = .slice a n c := by
    cases hv with
    | p hp =>
      rename_i y
      cases y with
      | sl n' f' => simp [lenOf] at hn; subst hn; cases hp; exact ⟨_, _, rfl⟩
      | _ => simp [lenOf] at hn
    | nils => simp [lenOf] at hn; subst hn; exact ⟨none, 0, rfl⟩
    | os hφ h1 =>
      rename_i l sz
      simp only [lenOf] at hn
      split at hn
      · rename_i e' n' f' q hl
        injection hn with hn; subst hn
        cases hR.obj l _ hl with
        | row v' sz' cells hφ' hsz h0 ho hl' hr hlive hfr =>
          rw [hφ] at hφ'; injection hφ' with hφ'; injection hφ' with e1 e2; subst e1
          rcases ho.2 with ⟨rfl, rfl⟩ | ⟨g, cap, cur, rfl, _⟩
          · exact ⟨_, _, rfl⟩
          · exact ⟨_, _, rfl⟩
      · rename_i xs hl
        injection hn with hn; subst hn
        cases hR.obj l _ hl with
        | rrow b sz' vs e2 hφ' hh hlen hl' hr hlive =>
          rw [hφ] at hφ'; injection hφ' with hφ'; injection hφ' with e1 e3; subst e1
          exact ⟨_, _, rfl⟩
      · cases hn
    | bs hφ hn' => simp [lenOf] at hn; subst hn; exact ⟨_, _, rfl⟩
    | _ => simp [lenOf] at hn
  obtain ⟨a, c, rfl⟩ := key
  simp [Builtin.len_, run_underlying hu]
end
end Go.Fx
