/- The small interpreter's operations against the model's: slices that grow, are made, cut and indexed. -/
import Derived.Test.YtokdkmlpfkeeaaaFx5
set_option linter.unusedVariables false
set_option linter.unusedSimpArgs false
namespace Go.Fx
open Go.RowKit Go.Lib

section
variable {P : Program} {S : Nat → Prop} {w0 w w' : World} {M0 M M' : Mem} {φ φ' : Phi} {h : Hp} {α : Type}

/-- The cells of a row, one behind the other. -/
def flat (sz m : Nat) (c : Nat → Nat → Value) : List Value := (List.range (m * sz)).map fun q => c (q / sz) (q % sz)
theorem flat_length (sz m : Nat) (c : Nat → Nat → Value) : (flat sz m c).length = m * sz := by simp [flat]
theorem flat_get {sz m : Nat} {c : Nat → Nat → Value} {i j : Nat} (hi : i < m) (hj : j < sz) : (flat sz m c)[i * sz + j]? = some (c i j) := by
  have hin : i * sz + sz ≤ m * sz := by rw [← Nat.succ_mul]; exact Nat.mul_le_mul_right _ hi
  unfold flat
  rw [List.getElem?_map, List.getElem?_range (by omega)]
  simp only [Option.map_some]
  have h1 : (i * sz + j) / sz = i := by rw [Nat.mul_comm, Nat.mul_add_div (by omega), Nat.div_eq_of_lt hj]; omega
  have h2 : (i * sz + j) % sz = j := by rw [Nat.mul_comm, Nat.mul_add_mod, Nat.mod_eq_of_lt hj]
  rw [h1, h2]
theorem flat_inv {sz m q : Nat} {c : Nat → Nat → Value} {u : Value} (h : (flat sz m c)[q]? = some u) : ∃ i j, i < m ∧ j < sz ∧ q = i * sz + j ∧ u = c i j := by
  have hq : q < m * sz := by have := (List.getElem?_eq_some_iff.1 h).1; rwa [flat_length] at this
  have hsz : 0 < sz := by
    rcases Nat.eq_zero_or_pos sz with e | e
    · subst e; simp at hq
    · exact e
  refine ⟨q / sz, q % sz, by rw [Nat.div_lt_iff_lt_mul hsz]; exact hq, Nat.mod_lt _ hsz, by rw [Nat.mul_comm]; exact (Nat.div_add_mod q sz).symm, ?_⟩
  unfold flat at h
  rw [List.getElem?_map, List.getElem?_range hq] at h
  simpa using h.symm

theorem Reads.src {v : Value} {m sz : Nat} {g : Nat → List PV} (hr : Reads M w v m g) (hsz : (g 0).length = sz ∨ m = 0) :
    ∃ c : Nat → Nat → Value, Src P w sz v m (flat sz m c) ∧ (∀ i : Nat, i < m → (g i).length = sz) ∧ (∀ (i j : Nat) (x : PV), i < m → (g i)[j]? = some x → RepP M (c i j) x) := by
  obtain ⟨a, cap, b, o, sz', c, rfl, hcap, ha, hl, hcell, hrep⟩ := hr
  by_cases hm : m = 0
  · subst hm
    refine ⟨c, ⟨fun w'' => by simp [Builtin.lenOf], fun w'' hw => ?_, by simp [flat], by simp [flat]⟩, fun i hi => by omega, fun i j x hi => by omega⟩
    cases a <;> simp [Builtin.firstCells, flat, loadCells, loadCellsFrom]
  · have hs : sz' = sz := by
      rcases hsz with h1 | h1
      · rw [← h1]; exact (hl 0 (by omega)).symm
      · omega
    subst hs
    rw [ha (by omega)]
    have hcells : ∀ w'' : World, (∀ b : Nat, w''.heap[b]? = w.heap[b]?) → ∀ q u, (flat sz' m c)[q]? = some u → w''.cell? ((⟨b, o, none⟩ : Addr).add q) = some u := by
      intro w'' hw q u hq
      obtain ⟨i, j, hi, hj, rfl, rfl⟩ := flat_inv hq
      rw [add_at]
      have := hcell i j hi hj
      rw [← this]
      exact World.cell?_of_block (hw b)
    refine ⟨c, ⟨fun w'' => by simp [Builtin.lenOf], fun w'' hw => run_firstCells_some (P := P) w'' sz' m ⟨b, o, none⟩ m cap _ (flat_length _ _ _) (hcells w'' hw), flat_length _ _ _, fun u hu => ?_⟩, hl, hrep⟩
    obtain ⟨q, hq⟩ := List.mem_iff_getElem?.1 hu
    obtain ⟨i, j, hi, hj, rfl, rfl⟩ := flat_inv hq
    have hlt : j < (g i).length := by rw [hl i hi]; exact hj
    exact (hrep i j _ hi (List.getElem?_eq_getElem hlt)).one

theorem strSrc (P : Program) (w : World) (s : ByteArray) : Src P w 1 (.string s) s.size (strCells s) ∧ (∀ i : Nat, i < s.size → (strF s i).length = 1) ∧
    (∀ (i j : Nat) (u : Value) (x : PV), i < s.size → (strCells s)[i * 1 + j]? = some u → (strF s i)[j]? = some x → RepP M u x) := by
  refine ⟨⟨fun w'' => by simp [Builtin.lenOf], fun w'' _ => run_firstCells_string (P := P) w'' 1 s, by rw [strCells_length, Nat.mul_one], strCells_oneCell s⟩, fun i hi => rfl, fun i j u x hi hu hx => ?_⟩
  have hj : j = 0 := by have := (List.getElem?_eq_some_iff.1 hx).1; simp [strF] at this; omega
  subst hj
  simp [strF] at hx
  subst hx
  rw [Nat.mul_one, Nat.add_zero] at hu
  have : u = .int .u8 (byteAt s i) := by
    unfold strCells at hu
    rw [List.getElem?_map] at hu
    have hlt : i < s.data.toList.length := by simpa using hi
    rw [List.getElem?_eq_getElem hlt] at hu
    simp at hu
    rw [← hu]
    unfold byteAt
    have h' : i < s.data.size := hi
    rw [Array.getD_eq_getD_getElem?, Array.getElem?_eq_getElem h']
    rfl
  subst this
  exact .v rfl

theorem absCs_length : ∀ {xs : List Value} {cs : List CV}, absCs xs = some cs → cs.length = xs.length
  | [], cs, h => by simp [absCs] at h; subst h; rfl
  | x :: l, cs, h => by
    simp only [absCs] at h
    split at h
    · rename_i c r hc hr
      injection h with h; subst h
      simp [absCs_length hr]
    · cases h
theorem zeroCs_inv {t : TypeId} {cs : List CV} (hz : zeroCs P t = some cs) : ∃ i z, P.info? t = some i ∧ i.zero = some z ∧ absCs z.cells.toList = some cs := by
  unfold zeroCs at hz
  split at hz
  · rename_i i hi
    split at hz
    · rename_i z hzz
      exact ⟨i, z, hi, hzz, hz⟩
    · cases hz
  · cases hz

theorem appendAV_sound {b : Nat} {ts : Array TypeId} {ty : TypeId} {s x : AV} {k : KV α} {r : α} (hR : Rel P S w0 M0 M φ h w) (hb : b = h.length) (hts : ts.size = 2) (hk : appendAV P h b ts s x k = some r) {s' x' : Value} (hs : RepA M φ s' s) (hx : RepA M φ x' x) :
    ∃ v d v' w', k v d = some r ∧ (Builtin.append_ ts ty #[s', x']).run P w = .ok v' w' ∧ Leaves P S w0 M0 M φ h d v' v w' := by
  subst hb
  unfold appendAV at hk
  split at hk
  · rename_i t u s x ht hu
    split at hk
    · rename_i e hut
      split at hk
      · rename_i i zs m g n f d hi hz hel hgr
        split at hk
        · rename_i hc
          obtain ⟨hsz, hzl, hsrc, hg0⟩ := hc
          obtain ⟨⟨hbytes, h63⟩, hk⟩ := chk_inv hk
          obtain ⟨i', z, hi', hzz, habs⟩ := zeroCs_inv hz
          rw [hi] at hi'; injection hi' with hi'; subst hi'
          have hzs : z.cells.size = i.size := by rw [← hzl, absCs_length habs]; simp
          have hts' : ts = #[t, u] := by
            apply Array.ext
            · simpa using hts
            · intro j h1 h2
              have : j = 0 ∨ j = 1 := by simp at h2; omega
              rcases this with rfl | rfl
              · simpa [Array.getElem?_eq_getElem h1] using ht
              · simpa [Array.getElem?_eq_getElem h1] using hu
          subst hts'
          cases hs with
          | c hs =>
            cases hx with
            | c hx =>
              have hszOf : szOf P e = some i.size := by unfold szOf; rw [hi]
              -- the source
              have hsource : ∃ (du : TypeDesc) (news : List Value), P.underlying u = some du ∧ ((∃ e', du = .slice e') ∨ du = .string) ∧ Src P w i.size x' m news ∧ (∀ j : Nat, j < m → (g j).length = i.size) ∧
                  (∀ (a j : Nat) (v : Value) (y : PV), a < m → news[a * i.size + j]? = some v → (g a)[j]? = some y → RepP M v y) := by
                unfold srcOk at hsrc
                by_cases hstr : x.isStr = true
                · rw [if_pos hstr] at hsrc
                  simp only [Bool.and_eq_true] at hsrc
                  have hdu : P.underlying u = some .string := by
                    have := hsrc.1
                    unfold isStrTy at this
                    split at this
                    · assumption
                    · cases this
                  have h1 : i.size = 1 := by
                    have := hsrc.2
                    unfold isU8 at this
                    split at this
                    · simp only [Bool.and_eq_true, beq_iff_eq] at this; exact this.1
                    · cases this
                  cases x with
                  | p y =>
                    cases y with
                    | v y =>
                      cases y with
                      | string str =>
                        simp [elems] at hel
                        obtain ⟨rfl, rfl⟩ := hel
                        cases hx with
                        | p hx => cases hx with
                          | v _ =>
                            rw [h1]
                            obtain ⟨a1, a2, a3⟩ := strSrc (M := M) P w str
                            exact ⟨_, _, hdu, .inr rfl, a1, a2, a3⟩
                      | _ => simp [CV.isStr] at hstr
                    | _ => simp [CV.isStr] at hstr
                  | _ => simp [CV.isStr] at hstr
                · have hstr' : x.isStr = false := by simpa using hstr
                  rw [if_neg hstr] at hsrc
                  have hut2 : u = t := by simpa using hsrc
                  subst hut2
                  obtain ⟨c, a1, a2, a3⟩ := (elems_reads hR hstr' hel hx).src (P := P) hg0
                  refine ⟨_, _, hut, .inl ⟨e, rfl⟩, a1, a2, fun a j v y ha hv hy => ?_⟩
                  have hj : j < i.size := by have := (List.getElem?_eq_some_iff.1 hy).1; rw [a2 a ha] at this; exact this
                  rw [flat_get ha hj] at hv
                  injection hv with hv
                  rw [← hv]
                  exact a3 a j y ha hy
              obtain ⟨du, news, hdu, hdus, hsrcs, hgl, hgr'⟩ := hsource
              -- the row that grows
              have hbase : ∃ cells, w.ownsRow 0 e i.size s' n cells ∧ (∀ a : Nat, a < n → (f a).length = i.size) ∧ (∀ (a j : Nat) (v : Value) (y : PV), a < n → cells[a * i.size + j]? = some v → (f a)[j]? = some y → RepP M v y) ∧
                  ((s = .nils ∧ d = [] ∧ s'.ownBlock = none) ∨ (∃ l x0, s = .os l ∧ d = [(l, .dead)] ∧ h[l]? = some (.row e n f true) ∧ φ l = some x0 ∧ x0.blk = s'.ownBlock ∧ ∀ q, s'.ownBlock = some q → ∀ o, M q o = none)) := by
                unfold grows at hgr
                split at hgr
                · injection hgr with hgr; injection hgr with e1 e2; injection e2 with e2 e3
                  subst e1; subst e2; subst e3
                  cases hs
                  exact ⟨[], World.ownsRow_nil w 0 e i.size, fun a ha => by omega, fun a j v y ha => by omega, .inl ⟨rfl, rfl, rfl⟩⟩
                · rename_i l
                  split at hgr
                  · rename_i e' n' f' hl
                    split at hgr
                    · rename_i hee
                      subst hee
                      injection hgr with hgr; injection hgr with e1 e2; injection e2 with e2 e3
                      subst e1; subst e2; subst e3
                      cases hs with
                      | os hφ h1 =>
                        cases hR.obj l _ hl with
                        | row v sz cells hφ' hsz' h0 ho hl' hr hlive hfr =>
                          rw [hφ] at hφ'; injection hφ' with hφ'; injection hφ' with e1 e2; subst e1; subst e2
                          rw [hszOf] at hsz'; injection hsz' with hsz'; subst hsz'
                          exact ⟨cells, ho, hl', hr, .inr ⟨l, _, rfl, rfl, hl, hφ, rfl, hlive rfl⟩⟩
                    · cases hgr
                  · cases hgr
                · cases hgr
              obtain ⟨cells, hown, hfl, hfr, hcase⟩ := hbase
              obtain ⟨v', w', hrun, hown', hgrown, hblk⟩ := append_src (ty := ty) hut hdu hdus hi hzz hzs hsz hown hsrcs h63 hbytes
              have hnewobj : ∀ φ' : Phi, φ' h.length = some (.row v' i.size) → (∀ q, s'.ownBlock = some q → ∀ o, M q o = none) → ObjAt P M φ' w' h.length (.row e (n + m) (catF n f g) true) := by
                intro φ' hφ' hMn
                refine .row v' i.size (cells ++ news) hφ' hszOf hsz hown' ?_ ?_ ?_ (by simp)
                · intro a ha
                  unfold catF
                  split
                  · rename_i h1; exact hfl a h1
                  · exact hgl _ (by omega)
                · intro a j v y ha hv hy
                  unfold catF at hy
                  split at hy
                  · rename_i h1
                    have hj : j < i.size := by have := (List.getElem?_eq_some_iff.1 hy).1; rw [hfl a h1] at this; exact this
                    have hin : a * i.size + i.size ≤ n * i.size := by rw [← Nat.succ_mul]; exact Nat.mul_le_mul_right _ h1
                    rw [List.getElem?_append_left (by rw [hown.1]; omega)] at hv
                    exact hfr a j v y h1 hv hy
                  · rename_i h1
                    have hle : n * i.size ≤ a * i.size := Nat.mul_le_mul_right _ (by omega)
                    rw [List.getElem?_append_right (by rw [hown.1]; omega), hown.1] at hv
                    refine hgr' (a - n) j v y (by omega) ?_ hy
                    rw [Nat.sub_mul, ← hv]
                    congr 1; omega
                · intro _ q hq o
                  rcases hblk q hq with h1 | h1
                  · cases hM : M q o with
                    | none => rfl
                    | some v => have := block_lt (hR.agr q o v hM); omega
                  · exact hMn q h1.symm o
              have hlt' : ∀ q, (Loc.row v' i.size).blk = some q → q < w'.heap.size := fun q hq => (hown'.lt q hq).2
              have hvv : RepC M (setPhi φ h.length (.row v' i.size)) v' (.os h.length) := by
                refine .os (sz := i.size) (by unfold setPhi; rw [if_pos rfl]) ?_
                rcases hown'.2 with ⟨rfl, _⟩ | ⟨_, _, _, rfl, _⟩ <;> rfl
              rcases hcase with ⟨rfl, rfl, hnone⟩ | ⟨l, x0, rfl, rfl, hl, hφ, hblk0, hMn⟩
              · refine ⟨_, _, v', w', hk, hrun, M, setPhi φ h.length (.row v' i.size), .refl _, setPhi_upto (dom_none hR), ?_, .c hvv⟩
                have := hR.push (w' := w') none none (fun l hl => by cases hl) (fun _ => rfl) (by rw [hnone] at hgrown; exact hgrown) (fun b hb => by cases hb) (o := .row e (n + m) (catF n f g) true) (x := .row v' i.size)
                  (fun b hb => (hblk b hb).imp id (fun e => by rw [hnone] at e; exact e)) hlt' (hnewobj _ (by unfold setPhi; rw [if_pos rfl]) (fun q hq => by rw [hnone] at hq; cases hq))
                simpa [applyD, killed] using this
              · have hlt : l < h.length := (List.getElem?_eq_some_iff.1 hl).1
                refine ⟨_, _, v', w', hk, hrun, M, setPhi φ h.length (.row v' i.size), .refl _, setPhi_upto (dom_none hR), ?_, .c hvv⟩
                have := hR.push (w' := w') (some l) s'.ownBlock (fun l' hl' => by injection hl' with hl'; subst hl'; exact ⟨_, x0, hl, rfl, hφ, hblk0⟩) (fun e => by cases e) hgrown hMn (o := .row e (n + m) (catF n f g) true) (x := .row v' i.size)
                  (fun b hb => hblk b hb) hlt' (hnewobj _ (by unfold setPhi; rw [if_pos rfl]) hMn)
                simpa [applyD, killed, hlt] using this
        · cases hk
      · cases hk
    · cases hk
  · cases hk
end
end Go.Fx
