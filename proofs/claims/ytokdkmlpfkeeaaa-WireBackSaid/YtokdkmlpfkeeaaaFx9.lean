/- The small interpreter's operations against the model's: literals, made rows, texts and bytes, interfaces. -/
import Derived.Test.YtokdkmlpfkeeaaaFx8
set_option linter.unusedVariables false
set_option linter.unusedSimpArgs false
namespace Go.Fx
open Go.RowKit Go.Lib

section
variable {P : Program} {S : Nat → Prop} {w0 w w' : World} {M0 M M' : Mem} {φ φ' : Phi} {h : Hp} {α : Type}

theorem reps_length {β : Type} (z : List β) : ∀ k, (reps k z).length = k * z.length
  | 0 => by simp [reps]
  | k + 1 => by simp [reps, reps_length z k, Nat.succ_mul]; omega
theorem reps_get {β : Type} (z : List β) (hz : 0 < z.length) : ∀ (k q : Nat), q < k * z.length → (reps k z)[q]? = z[q % z.length]?
  | 0, q, h => by simp at h
  | k + 1, q, h => by
    simp only [reps]
    by_cases hq : q < z.length
    · rw [List.getElem?_append_left hq, Nat.mod_eq_of_lt hq]
    · have h2 : (k + 1) * z.length = k * z.length + z.length := Nat.succ_mul _ _
      rw [List.getElem?_append_right (by omega), reps_get z hz k _ (by omega)]
      congr 1
      exact (Nat.mod_eq_sub_mod (by omega)).symm
theorem modCells_get (z : Array Value) (N q : Nat) (hz : 0 < z.size) (hq : q < N) : ((Array.range N).map (z[· % z.size]!))[q]? = z[q % z.size]? := by
  rw [Array.getElem?_map, Array.getElem?_range, if_pos hq]
  have : q % z.size < z.size := Nat.mod_lt _ hz
  simp [this]
theorem modCells_rep {z : Array Value} {zs : List CV} (hr : RepCs M φ z.toList zs) (hz : 0 < zs.length) (len : Nat) : RepCs M φ ((Array.range (len * zs.length)).map (z[· % z.size]!)).toList (reps len zs) := by
  have hs : z.size = zs.length := by have := hr.1; simpa using this
  refine ⟨by simp [reps_length], fun j v x hv hx => ?_⟩
  have hj : j < len * zs.length := by have := (List.getElem?_eq_some_iff.1 hx).1; rwa [reps_length] at this
  rw [reps_get zs hz len j hj] at hx
  have hv' : ((Array.range (len * zs.length)).map (z[· % z.size]!))[j]? = some v := by rw [← Array.getElem?_toList]; exact hv
  rw [modCells_get z _ j (by omega) hj] at hv'
  exact hr.2 (j % zs.length) v x (by rw [← hs]; simpa using hv') hx

/-- Cells in rows of one size. -/
theorem chunk_rep {n len : Nat} {cs : List CV} {cv : List Value} (hr : RepCs M φ cv cs) (hl : cs.length = len * n) {i : Nat} {c : List CV} (hc : (chunks n len cs)[i]? = some c) :
    i < len ∧ c.length = n ∧ RepCs M φ (seg cv (i * n) n) c := by
  have hi : i < len := by have := (List.getElem?_eq_some_iff.1 hc).1; rwa [chunks_length] at this
  rw [chunks_get n len cs i hi] at hc
  injection hc with hc
  subst hc
  have hin : i * n + n ≤ len * n := by rw [← Nat.succ_mul]; exact Nat.mul_le_mul_right _ hi
  exact ⟨hi, by rw [List.length_take, List.length_drop]; omega, (hr.drop _).take _⟩

theorem buildRow_sound {t : TypeId} {len : Nat} {parts : List (Nat × AV)} {k : KV α} {r : α} (hR : Rel P S w0 M0 M φ h w) (hk : buildRow P h.length t len parts k = some r) {pv : List (Nat × Value)}
    (hl : pv.length = parts.length) (hp : ∀ (j : Nat) (a : Nat × Value) (b : Nat × AV), pv[j]? = some a → parts[j]? = some b → a.1 = b.1 ∧ RepA M φ a.2 b.2) :
    ∃ v d v' w', k v d = some r ∧ (Instr.buildSlice t len pv.toArray).run P w = .ok v' w' ∧ Leaves P S w0 M0 M φ h d v' v w' := by
  unfold buildRow at hk
  split at hk
  · rename_i e hu
    split at hk
    · rename_i n zs hn hz
      split at hk
      · rename_i hc
        obtain ⟨h24, hn0, hzl⟩ := hc
        split at hk
        · rename_i cs hf
          -- the zero cells
          have hzero : ∃ (zv : List Value) (z : Array Value), RepCs M φ zv (reps len zs) ∧ (len * n = 0 → z = #[]) ∧ (¬ len * n = 0 → ∃ u, (∀ W, (zeroValue e).run P W = .ok u W) ∧ u.cells = z) ∧
              zv.toArray = (Array.range (len * n)).map fun q => z[q % z.size]! := by
            by_cases h0 : len = 0
            · subst h0
              exact ⟨[], #[], by simp [reps, RepCs.nil], fun _ => rfl, fun h => absurd (by simp) h, by simp⟩
            · rw [if_neg h0] at hz
              have hzn : zs.length = n := hzl.resolve_left h0
              obtain ⟨i, z, hi, hzz, habs⟩ := zeroCs_inv hz
              have hne : ¬ len * n = 0 := by
                intro e0
                rcases Nat.mul_eq_zero.1 e0 with e1 | e1 <;> omega
              have hrz : RepCs M φ z.cells.toList zs := absCs_rep habs
              refine ⟨_, z.cells, modCells_rep hrz (by omega) len, fun h => absurd h hne, fun _ => ⟨z, fun W => by simp [zeroValue, typeInfo, hi, hzz], rfl⟩, ?_⟩
              rw [hzn]
          obtain ⟨zv, zz, hzrep, hz0, hzrun, hzv⟩ := hzero
          obtain ⟨cv, hcv, hr⟩ := fill_rep hf hzrep hl hp
          rw [hzv] at hcv
          have hcl : cs.length = len * n := by
            have h1 : ∀ (parts : List (Nat × AV)) (zs cs : List CV), fillCs (fun i => some (i * n, n)) zs parts = some cs → cs.length = zs.length := by
              intro parts
              induction parts with
              | nil => intro zs cs h; simp [fillCs] at h; rw [h]
              | cons a parts ih =>
                intro zs cs h
                obtain ⟨i, x⟩ := a
                simp only [fillCs] at h
                split at h
                · split at h
                  · rename_i hcc
                    rename_i hx1 hx2
                    have := ih _ _ h
                    rw [this, placeAt_length]
                    injection hx1 with hx1
                    injection hx1 with e1 e2
                    omega
                  · cases h
                · cases h
            rw [h1 _ _ _ hf, reps_length]
            rcases hzl with e0 | e0
            · subst e0; simp
            · rw [e0]
          have hcvl : cv.length = len * n := by rw [hr.1, hcl]
          have hrun : (Instr.buildSlice t len pv.toArray).run P w = .ok (.slice (some ⟨w.heap.size, 0, none⟩) len len) (w.alloc (.cells cv.toArray e)) := by
            unfold Instr.buildSlice
            have h24' : ¬ (len * n > 2 ^ 24) := by omega
            by_cases h0 : len * n = 0
            · have e0 := hz0 h0
              subst e0
              simp only [Sem.run_bind, run_underlying hu, Result.andThen_ok, szOf_run hn, if_neg h24', Sem.run_pure, if_pos h0, hcv]
              simp [newRow]
            · obtain ⟨u, hu1, hu2⟩ := hzrun h0
              subst hu2
              simp only [Sem.run_bind, run_underlying hu, Result.andThen_ok, szOf_run hn, if_neg h24', Sem.run_pure, if_neg h0, hu1, hcv]
              simp [newRow]
          have hle := setPhi_upto (x := Loc.row (.slice (some ⟨w.heap.size, 0, none⟩) len len) n) (dom_none hR)
          have hφn : setPhi φ h.length (.row (.slice (some ⟨w.heap.size, 0, none⟩) len len) n) h.length = some (.row (.slice (some ⟨w.heap.size, 0, none⟩) len len) n) := by unfold setPhi; rw [if_pos rfl]
          have hmax : len ≤ maxLen := by
            have : len ≤ len * n := Nat.le_mul_of_pos_right _ hn0
            unfold maxLen; omega
          have push : ∀ o : Ob, ObjAt P M (setPhi φ h.length (.row (.slice (some ⟨w.heap.size, 0, none⟩) len len) n)) (w.alloc (.cells cv.toArray e)) h.length o →
              Leaves P S w0 M0 M φ h [(h.length, o)] (.slice (some ⟨w.heap.size, 0, none⟩) len len) (.c (.os h.length)) (w.alloc (.cells cv.toArray e)) := by
            intro o ho
            refine ⟨M, _, .refl _, hle, ?_, .c (.os hφn rfl)⟩
            have := hR.push (w' := w.alloc (.cells cv.toArray e)) none none (fun l hl => by cases hl) (fun _ => rfl) (World.grownBy_alloc w _ none) (fun b hb => by cases hb) (o := o)
              (fun b hb => .inl (by simp [Loc.blk, Value.ownBlock] at hb; omega)) (fun b hb => by simp [Loc.blk, Value.ownBlock] at hb; simp; omega) ho
            simpa [applyD, killed] using this
          split at hk
          · rename_i xs hxs
            refine ⟨_, _, _, _, hk, hrun, push _ ?_⟩
            obtain ⟨hxl, hxg⟩ := rowOf_get hxs
            rw [chunks_length] at hxl
            have key : ∀ i, i < len → ∃ p, xs[i]? = some p ∧ p.length = n ∧ RepPs M (seg cv (i * n) n) p := by
              intro i hi
              have hci : ∃ c, (chunks n len cs)[i]? = some c := ⟨_, chunks_get n len cs i hi⟩
              obtain ⟨c, hc⟩ := hci
              obtain ⟨_, hcl', hcr⟩ := chunk_rep (M := M) (φ := φ) hr hcl hc
              obtain ⟨p, hp', hpp⟩ := hxg i c hc
              exact ⟨p, hp', by rw [pures_length hpp, hcl'], pures_rep hpp hcr⟩
            refine .row _ n cv hφn hn hn0 ?_ (fun i hi => ?_) (fun i j u x hi hu hx => ?_) (fun _ g hg o => memNone hR (by simp [Value.ownBlock] at hg; omega) o) (by simp)
            · have := World.ownsRow_lit (base := 0) (e := e) (size := n) w cv.toArray len (Nat.zero_le _) hmax (by simpa using hcvl)
              simpa using this
            · obtain ⟨p, hp', hpl, _⟩ := key i hi
              simp [litF, List.getD_eq_getElem?_getD, hp', hpl]
            · obtain ⟨p, hp', hpl, hpr⟩ := key i hi
              simp only [litF, List.getD_eq_getElem?_getD, hp', Option.getD_some] at hx
              have hj : j < n := by have := (List.getElem?_eq_some_iff.1 hx).1; omega
              refine hpr.2 j u x ?_ hx
              unfold seg
              rw [List.getElem?_take, if_pos hj, List.getElem?_drop]
              exact hu
          · refine ⟨_, _, _, _, hk, hrun, push _ ?_⟩
            have hlen' : (chunks n len cs).length = len := chunks_length _ _ _
            refine .rrow w.heap.size n cv e (by rw [hlen']; exact hφn) (heap_alloc_new w _) (by rw [hlen']; exact hcvl) (fun i c hc => (chunk_rep (M := M) (φ := φ) hr hcl hc).2.1) (fun i j u c x hc hu hx => ?_) (fun o => memNone hR (Nat.le_refl _) o)
            obtain ⟨hi, hcl', hcr⟩ := chunk_rep (M := M) (φ := φ) hr hcl hc
            have hj : j < n := by have := (List.getElem?_eq_some_iff.1 hx).1; omega
            refine (hcr.2 j u x ?_ hx).mono (.refl _) hle.1
            unfold seg
            rw [List.getElem?_take, if_pos hj, List.getElem?_drop]
            exact hu
        · cases hk
      · cases hk
    · cases hk
  · cases hk
end
end Go.Fx
