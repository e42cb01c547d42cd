/- The small interpreter's operations against the model's: made rows, copies, conversions, interfaces, texts gone through. -/
import Derived.Test.YtokdkmlpfkeeaaaFx9
set_option linter.unusedVariables false
set_option linter.unusedSimpArgs false
namespace Go.Fx
open Go.RowKit Go.Lib

section
variable {P : Program} {S : Nat → Prop} {w0 w w' : World} {M0 M M' : Mem} {φ φ' : Phi} {h : Hp} {α : Type}

theorem pures_one {cs : List CV} {ps : List PV} (hp : pures cs = some ps) : cs = ps.map CV.p := by
  induction cs generalizing ps with
  | nil => simp [pures] at hp; subst hp; rfl
  | cons c cs ih =>
    cases c with
    | p y =>
      simp only [pures] at hp
      cases h2 : pures cs with
      | none => rw [h2] at hp; simp at hp
      | some r => rw [h2] at hp; simp at hp; subst hp; simp [ih h2]
    | _ => simp [pures] at hp

theorem makeSliceAV_sound {t : TypeId} {l c : AV} {k : KV α} {r : α} (hR : Rel P S w0 M0 M φ h w) (hk : makeSliceAV P h.length t l c k = some r) {l' c' : Value} (hl : RepA M φ l' l) (hc : RepA M φ c' c) :
    ∃ v d v' w', k v d = some r ∧ (Instr.makeSlice t l' c').run P w = .ok v' w' ∧ Leaves P S w0 M0 M φ h d v' v w' := by
  unfold makeSliceAV at hk
  split at hk
  · rename_i e n m hu hn hm
    obtain ⟨kl, rfl⟩ := intOf_rep hn hl
    obtain ⟨kc, rfl⟩ := intOf_rep hm hc
    split at hk
    · rename_i i zs hi hz
      split at hk
      · rename_i ps hps
        split at hk
        · rename_i hsz
          obtain ⟨⟨h1, h2, h3, h4⟩, hk2⟩ := chk_inv hk
          clear hk
          subst h1
          obtain ⟨i', z, hi', hzz, habs⟩ := zeroCs_inv hz
          rw [hi] at hi'; injection hi' with hi'; subst hi'
          have hnn : n = ((n.toNat : Nat) : Int) := (Int.toNat_of_nonneg h2).symm
          have hb : i.bytes * n.toNat ≤ 281474976710656 := by
            have : ((i.bytes * n.toNat : Nat) : Int) ≤ 281474976710656 := by
              rw [Int.natCast_mul, ← hnn, Int.mul_comm]; exact h3
            omega
          obtain ⟨w', hrun, hown, hg⟩ := run_make_full (P := P) w 0 t e i z i.size hu hi hzz rfl kl kc n.toNat hb (by unfold maxLen; omega) (Nat.zero_le _)
          rw [← hnn] at hrun
          have hszOf : szOf P e = some i.size := by unfold szOf; rw [hi]
          have hle := setPhi_upto (x := Loc.row (.slice (some ⟨w.heap.size, 0, none⟩) n.toNat n.toNat) i.size) (dom_none hR)
          have hφn : setPhi φ h.length (.row (.slice (some ⟨w.heap.size, 0, none⟩) n.toNat n.toNat) i.size) h.length = some (.row (.slice (some ⟨w.heap.size, 0, none⟩) n.toNat n.toNat) i.size) := by unfold setPhi; rw [if_pos rfl]
          refine ⟨_, _, _, w', hk2, hrun, M, _, .refl _, hle, ?_, .c (.os hφn rfl)⟩
          have hzl : z.cells.size = i.size := by rw [← hsz.2, absCs_length habs]; simp
          have hrz : RepPs M z.cells.toList ps := pures_rep (M := M) (φ := φ) hps (absCs_rep habs)
          have := hR.push (w' := w') none none (fun l hl => by cases hl) (fun _ => rfl) hg (fun b hb => by cases hb) (o := .row e n.toNat (fun _ => ps) true)
            (x := .row (.slice (some ⟨w.heap.size, 0, none⟩) n.toNat n.toNat) i.size) (fun b hb => .inl (by simp [Loc.blk, Value.ownBlock] at hb; omega)) (fun b hb => (hown.lt b hb).2)
            (.row _ i.size _ hφn hszOf hsz.1 hown (fun j hj => by rw [pures_length hps, hsz.2]) (fun a j u x ha hu' hx => ?_) (fun _ g hg o => memNone hR (by simp [Value.ownBlock] at hg; omega) o) (by simp))
          · simpa [applyD, killed] using this
          · have hj : j < i.size := by have h7 := (List.getElem?_eq_some_iff.1 hx).1; rw [pures_length hps, hsz.2] at h7; exact h7
            have hin : a * i.size + i.size ≤ n.toNat * i.size := by rw [← Nat.succ_mul]; exact Nat.mul_le_mul_right _ ha
            have hu2 : (madeCells z.cells (n.toNat * i.size))[a * i.size + j]? = some u := by rw [← Array.getElem?_toList]; exact hu'
            unfold madeCells at hu2
            rw [modCells_get _ _ _ (by omega) (by omega), hzl] at hu2
            have h2 : (a * i.size + j) % i.size = j := by rw [Nat.mul_comm, Nat.mul_add_mod, Nat.mod_eq_of_lt hj]
            rw [h2] at hu2
            exact hrz.2 j u x (by rw [Array.getElem?_toList]; exact hu2) hx
        · cases hk
      · cases hk
    · cases hk
  · cases hk

theorem RepP.v_inv {M : Mem} {x y : Value} (h : RepP M x (.v y)) : x = y := by cases h; rfl

theorem byteOf_inv {x : List PV} {b : UInt8} (hb : byteOf x = some b) : ∃ n : Int, x = [.v (.int .u8 n)] ∧ b = UInt8.ofNat n.toNat := by
  unfold byteOf at hb
  split at hb
  · rename_i n
    split at hb
    · injection hb with hb; exact ⟨n, rfl, hb.symm⟩
    · cases hb
  · cases hb

theorem fold_push (l : List Int) : ∀ acc : ByteArray, l.foldl (fun r n => r.push (UInt8.ofNat n.toNat)) acc = ⟨acc.data ++ (l.map fun n => UInt8.ofNat n.toNat).toArray⟩ := by
  induction l with
  | nil => intro acc; simp
  | cons n l ih =>
    intro acc
    simp only [List.foldl_cons, ih, List.map_cons]
    congr 1
    simp [ByteArray.push]

theorem text_run {e : TypeId} {n : Nat} {f : Nat → List PV} {v : Value} (hr : Reads M w v n f) (hok : bytesOk n f = true) : (Conv.bytesToString v).run P w = .ok (.string (textOf n f)) w := by
  obtain ⟨a, cap, b, o, sz, c, rfl, hcap, ha, hl, hcell, hrep⟩ := hr
  unfold bytesOk at hok
  rw [List.all_eq_true] at hok
  have hb : ∀ i, i < n → ∃ m : Int, f i = [.v (.int .u8 m)] ∧ byteOf (f i) = some (UInt8.ofNat m.toNat) ∧ c i 0 = .int .u8 m := by
    intro i hi
    have h1 := hok i (List.mem_range.2 hi)
    cases h2 : byteOf (f i) with
    | none => rw [h2] at h1; cases h1
    | some q =>
      obtain ⟨m, h3, h4⟩ := byteOf_inv h2
      refine ⟨m, h3, by rw [h4], ?_⟩
      exact (hrep i 0 (.v (.int .u8 m)) hi (by rw [h3]; rfl)).v_inv
  by_cases hn : n = 0
  · subst hn
    cases a with
    | none => simp [Conv.bytesToString, textOf]; rfl
    | some a =>
      have := run_bytesToString (P := P) w a 0 cap [] (by simp [loadCells, loadCellsFrom])
      rw [this]
      rfl
  · have hA := ha (by omega)
    subst hA
    have hsz : sz = 1 := by
      obtain ⟨m, h3, _, _⟩ := hb 0 (by omega)
      have := hl 0 (by omega)
      rw [h3] at this
      simpa using this.symm
    subst hsz
    have hns : ∃ ns : List Int, (loadCells ⟨b, o, none⟩ n).run P w = .ok (ns.map (Value.int .u8)).toArray w ∧ ns.map (fun m => UInt8.ofNat m.toNat) = (List.range n).map fun i => (byteOf (f i)).getD 0 := by
      refine ⟨(List.range n).map fun i => match c i 0 with | .int _ m => m | _ => 0, ?_, ?_⟩
      · rw [run_loadCells (P := P) (w := w) ⟨b, o, none⟩ n (fun i => c i 0) (fun j hj => by
          rw [add_at]
          have := hcell j 0 hj (by omega)
          simpa using this)]
        congr 2
        rw [List.map_map]
        apply List.map_congr_left
        intro i hi
        obtain ⟨m, _, _, h5⟩ := hb i (List.mem_range.1 hi)
        simp [h5]
      · rw [List.map_map]
        apply List.map_congr_left
        intro i hi
        obtain ⟨m, _, h4, h5⟩ := hb i (List.mem_range.1 hi)
        simp [h4, h5]
    obtain ⟨ns, h1, h2⟩ := hns
    rw [run_bytesToString (P := P) w _ n cap ns h1, fold_push]
    congr 2
    unfold textOf
    rw [h2]
    simp

/-- Cells of a new block last from now on. -/
theorem Rel.newMem (hR : Rel P S w0 M0 M φ h w) (hg : w.grownBy w' none) (N : Mem) (hle : M.le N) (hN : ∀ b o v, N b o = some v → M b o = some v ∨ (w.heap.size ≤ b ∧ w'.cell? ⟨b, o, none⟩ = some v)) : Rel P S w0 M0 N φ h w' := by
  refine ⟨hR.mem.trans hle, ?_, ?_, hR.sep, hR.own, hR.dom, hg.os.trans hR.os, hg.tape.trans hR.tape, hg.output.trans hR.output, Nat.le_trans hR.size hg.size, ?_, ?_, hR.eqs⟩
  · intro b o v hv
    rcases hN b o v hv with h1 | ⟨_, h1⟩
    · have h2 := hR.agr b o v h1
      exact (World.cell?_of_block (a := ⟨b, o, none⟩) (hg.block b (block_lt h2) (by simp))).trans h2
    · exact h1
  · intro l o ho
    by_cases ha : o.alive = true
    · refine (hR.obj l o ho).keep hle (.refl _) (fun y b hy hb => hg.block b (hR.blk_lt ho ha hy hb) (by simp)) (fun _ y b hy hb q hq => ?_)
      cases hn : N b q with
      | none => rfl
      | some v =>
        rcases hN b q v hn with h1 | ⟨h1, _⟩
        · rw [hq] at h1; cases h1
        · have := hR.blk_lt ho ha hy hb; omega
    · cases o <;> simp [Ob.alive] at ha
      exact .dead
  · intro b hb hS
    rw [hg.block b (Nat.lt_of_lt_of_le hb hR.size) (by simp)]
    exact hR.old b hb hS
  · intro b o v hv
    rcases hN b o v hv with h1 | ⟨h1, _⟩
    · exact hR.new b o v h1
    · exact .inr (.inr (Nat.le_trans hR.size h1))

theorem mark_run (arr : Array Value) (e : TypeId) : (markStringish ⟨w.heap.size, 0, none⟩).run P (w.alloc (.cells arr e)) = .ok () ((w.alloc (.cells arr e)).freeze ⟨w.heap.size, arr.size, none⟩ 1) := by
  have h1 : (w.alloc (.cells arr e)).shape? w.heap.size = some (e, arr.size) := by
    unfold World.shape?
    rw [heap_alloc_new]
  unfold markStringish
  simp only [Sem.run_bind, run_shape, Result.andThen_ok]
  rw [h1]
  rfl

/-- An object that isn't looked at any more. -/
theorem Rel.kill (hR : Rel P S w0 M0 M φ h w) {l : Nat} (hl : l < h.length) : Rel P S w0 M0 M φ (h.set l .dead) w := by
  have hget : ∀ (l' : Nat) (q' : Ob), (h.set l .dead)[l']? = some q' → q'.alive = true → h[l']? = some q' := by
    intro l' q' hq' ha
    by_cases e : l' = l
    · subst e; rw [List.getElem?_set_self hl] at hq'; injection hq' with hq'; subst hq'; simp [Ob.alive] at ha
    · rwa [List.getElem?_set_ne (Ne.symm e)] at hq'
  refine ⟨hR.mem, hR.agr, fun l' o ho => ?_, fun l1 l2 q1 q2 y1 y2 b h1 h2 a1 a2 => hR.sep l1 l2 q1 q2 y1 y2 b (hget _ _ h1 a1) (hget _ _ h2 a2) a1 a2, fun l' o x b ho ha => hR.own l' o x b (hget _ _ ho ha) ha, fun l y hy => by rw [List.length_set]; exact hR.dom l y hy, hR.os, hR.tape, hR.output, hR.size, hR.old, hR.new, hR.eqs⟩
  by_cases ha : o.alive = true
  · exact hR.obj l' o (hget _ _ ho ha)
  · cases o <;> simp [Ob.alive] at ha
    exact .dead
/-- A block's mark: its cells stay. -/
theorem Rel.mark (hR : Rel P S w0 M0 M φ h w) {g : Nat} (hother : ∀ b, b ≠ g → w'.heap[b]? = w.heap[b]?) (hcell : ∀ o, w'.cell? ⟨g, o, none⟩ = w.cell? ⟨g, o, none⟩) (hsize : w'.heap.size = w.heap.size) (hos : w'.os = w.os) (htape : w'.tape = w.tape) (hout : w'.output = w.output)
    (hno : ∀ l o x, h[l]? = some o → o.alive = true → φ l = some x → x.blk ≠ some g) (hg : S g ∨ w0.heap.size ≤ g) : Rel P S w0 M0 M φ h w' := by
  refine ⟨hR.mem, ?_, ?_, hR.sep, hR.own, hR.dom, hos.trans hR.os, htape.trans hR.tape, hout.trans hR.output, by rw [hsize]; exact hR.size, ?_, hR.new, hR.eqs⟩
  · intro b o v hv
    have h1 := hR.agr b o v hv
    by_cases e : b = g
    · subst e; rw [hcell]; exact h1
    · exact (World.cell?_of_block (a := ⟨b, o, none⟩) (hother b e)).trans h1
  · intro l o ho
    by_cases ha : o.alive = true
    · exact (hR.obj l o ho).keep (.refl _) (.refl _) (fun y b hy hb => hother b (fun e => hno l o y ho ha hy (by rw [← e]; exact hb))) (fun _ _ _ _ _ _ hz => hz)
    · cases o <;> simp [Ob.alive] at ha
      exact .dead
  · intro b hb hS
    rw [hother b (fun e => by subst e; rcases hg with h1 | h1; exact hS h1; omega)]
    exact hR.old b hb hS
theorem convertAV_sound {src dst : TypeId} {x : AV} {k : KV α} {r : α} (hR : Rel P S w0 M0 M φ h w) (hk : convertAV P h src dst x k = some r) {x' : Value} (hx : RepA M φ x' x) :
    ∃ v d v' w', k v d = some r ∧ (convert src dst x').run P w = .ok v' w' ∧ Leaves P S w0 M0 M φ h d v' v w' := by
  unfold convertAV at hk
  split at hk
  · rename_i e s hs hd
    split at hk
    · rename_i he
      split at hk
      · rename_i hsz
        rw [sval_rep hx]
        -- a new block with the bytes
        obtain ⟨cap, hcap⟩ : ∃ cap, cap = grownCap w s.size 0 e := ⟨_, rfl⟩
        have hge : s.size ≤ cap := by rw [hcap]; exact grownCap_ge w s.size 0 e
        obtain ⟨arr, harr⟩ : ∃ arr : Array Value, arr = s.data.map (fun (b : UInt8) => Value.int .u8 (b.toNat : Int)) ++ Array.replicate (cap - s.size) (Value.int .u8 0) := ⟨_, rfl⟩
        let blk : Obj := .cells arr e
        let W : World := (w.drew.alloc blk).freeze ⟨w.heap.size, arr.size, none⟩ 1
        have hheap : ∀ b, b < w.heap.size → W.heap[b]? = w.heap[b]? := by
          intro b hb
          simp only [W, World.freeze, Nat.one_ne_zero, if_false, Array.getElem?_modify]
          rw [if_neg (by omega)]
          exact Below.heap_alloc w.drew _ b hb
        have hnew : ∃ fr, W.heap[w.heap.size]? = some (.cells arr e fr) := by
          simp only [W, World.freeze, Nat.one_ne_zero, if_false, Array.getElem?_modify, if_true]
          rw [show (w.drew.alloc blk).heap[w.heap.size]? = some blk from heap_alloc_new w.drew blk]
          exact ⟨_, rfl⟩
        obtain ⟨fr, hnew⟩ := hnew
        have hg : w.grownBy W none := ⟨rfl, rfl, rfl, by simp [W, World.freeze], fun b hb _ => hheap b hb⟩
        have hcell : ∀ i, i < s.size → W.cell? ⟨w.heap.size, i, none⟩ = some (.int .u8 (byteAt s i)) := by
          intro i hi
          rw [cell_of_row W _ i _ e fr hnew]
          have hi' : i < s.data.size := hi
          rw [harr]
          rw [Array.getElem?_append_left (by simpa using hi')]
          simp only [byteAt, Array.getElem?_map, Array.getD_eq_getD_getElem?, Array.getElem?_eq_getElem hi']
          rfl
        let N : Mem := fun b o => if b = w.heap.size ∧ o < s.size then some (.int .u8 (byteAt s o)) else M b o
        have hle : M.le N := by
          intro b o v hv
          simp only [N]
          rw [if_neg]
          · exact hv
          · intro hc
            have := memNone hR (b := b) (by omega) o
            rw [this] at hv; cases hv
        have hRN := hR.newMem hg N hle (fun b o v hv => by
          simp only [N] at hv
          split at hv
          · rename_i hc
            injection hv with hv
            refine .inr ⟨by omega, ?_⟩
            rw [hc.1, ← hv]
            exact hcell o hc.2
          · exact .inl hv)
        refine ⟨_, _, .slice (some ⟨w.heap.size, 0, none⟩) s.size cap, W, hk, ?_, N, φ, hle, .refl _, by simpa [applyD] using hRN, .c (.p (.sl _ cap w.heap.size 0 1 (fun i _ => .int .u8 (byteAt s i)) hge (fun _ => rfl) (fun i hi => rfl) (fun i j hi hj => ?_) (fun i j x hi hx => ?_)))⟩
        · have hms := mark_run (P := P) (w := w.drew) arr e
          have hgc : (Question.appendCap s.size 0 e).cut (w.tape w.drawn (Question.appendCap s.size 0 e)) = cap := hcap.symm
          simp only [convert, Sem.run_bind, run_underlying hs, run_underlying hd, run_underlying he, Result.andThen_ok, Conv.stringToBytes, run_choose, Question.forced, Bool.false_eq_true, if_false, hgc, newRow, run_newObj, Sem.run_pure, ← harr]
          refine Eq.trans (congrArg (fun z : Result Unit => z.andThen _) hms) ?_
          rfl
        · have hj0 : j = 0 := Nat.lt_one_iff.1 hj
          subst hj0
          simp only [N]
          simp only [Nat.mul_one, Nat.add_zero, Nat.zero_add]
          rw [if_pos ⟨trivial, hi⟩]
        · have : j = 0 := by have := (List.getElem?_eq_some_iff.1 hx).1; simp [strF] at this; omega
          subst this
          simp [strF] at hx
          subst hx
          exact .v rfl
      · cases hk
    · cases hk
  · rename_i e x hs hd
    split at hk
    · rename_i he
      split at hk
      · cases hk
      · rename_i hstr
        split at hk
        · rename_i n f hel
          obtain ⟨hok, hk⟩ := chk_inv hk
          cases hx with
          | c hx =>
            have hr := elems_reads hR (by simpa using hstr) hel hx
            refine ⟨_, _, _, w, hk, ?_, Leaves.same hR (.c (.p (.v rfl)))⟩
            have := text_run (P := P) (e := e) hr hok
            obtain ⟨a, cap, b, o, sz, c, rfl, _⟩ := hr
            rw [run_convert_bytes_string w src dst e a n cap hs he hd]
            exact this
        · cases hk
    · cases hk
  · rename_i e1 e l hs hd
    split at hk
    · rename_i e2 n f hl he
      split at hk
      · rename_i hc
        obtain ⟨rfl, hn⟩ := hc
        have ee : e1 = e := by rw [hs] at hd; injection hd with hd; injection hd
        subst ee
        cases hx with
        | c hx =>
          have hx0 := hx
          cases hx with
          | os hφ h1 =>
            have hO := hR.obj l _ hl
            cases hO with
            | row v sz cells hφ2 hsz h0 ho hl' hr hlive hfr =>
              rw [hφ] at hφ2; injection hφ2 with hφ2; injection hφ2 with hv hz
              subst hv; subst hz
              rcases ho.2 with ⟨_, h00⟩ | ⟨g, cap, cur, rfl, hb0, hg, hle, hmax, hcur, htake⟩
              · omega
              · obtain ⟨N, hMN, hRN, hrep⟩ := freeze_sound hR (s := .os l) (n := n) (f := f) rfl (by simp only [elems, hl]) hx0
                have hfz : frozenBy h (.os l) = [(l, .row e2 n f false)] := by simp only [frozenBy, hl]
                have hlt : l < h.length := (List.getElem?_eq_some_iff.1 hl).1
                rw [hfz] at hRN
                simp only [applyD, if_pos hlt] at hRN
                have hRK := hRN.kill (l := l) (by rw [List.length_set]; exact hlt)
                rw [List.set_set] at hRK
                have hsh : w.shape? g = some (e2, cur.size) := by unfold World.shape?; rw [hg]
                refine ⟨_, _, .slice (some ⟨g, 0, none⟩) n cap, w.freeze ⟨g, cur.size, none⟩ 1, hk, ?_, N, φ, hMN, .refl _, ?_, .c (.p hrep)⟩
                · simp only [convert, Sem.run_bind, run_underlying hs, run_underlying hd, run_underlying he, Result.andThen_ok, beq_self_eq_true]
                  have hms : (markStringish ⟨g, 0, none⟩).run P w = .ok () (w.freeze ⟨g, cur.size, none⟩ 1) := by
                    unfold markStringish
                    simp only [Sem.run_bind, run_shape, Result.andThen_ok]
                    rw [hsh]
                    rfl
                  refine Eq.trans (congrArg (fun z : Result Unit => z.andThen _) hms) ?_
                  rfl
                · simp only [applyD, if_pos hlt]
                  have hgl : g < w.heap.size := (Array.getElem?_eq_some_iff.1 hg).1
                  refine hRK.mark (g := g) (fun b hb => ?_) (fun o => ?_) (by simp [World.freeze]) rfl rfl rfl (fun l' o x hl2 ha hx2 hb => ?_) ?_
                  · simp only [World.freeze, Nat.one_ne_zero, if_false, Array.getElem?_modify]
                    rw [if_neg (fun e => hb e.symm)]
                  · unfold World.cell?
                    simp only [World.freeze, Nat.one_ne_zero, if_false, Array.getElem?_modify, if_true, hg]
                    rfl
                  · have hne : l' ≠ l := fun e => by
                      subst e; rw [List.getElem?_set_self hlt] at hl2; injection hl2 with hl2; subst hl2; simp [Ob.alive] at ha
                    rw [List.getElem?_set_ne (Ne.symm hne)] at hl2
                    exact hne (hR.sep l' l o _ x _ g hl2 hl ha rfl hx2 hφ hb rfl)
                  · exact hR.own l _ _ g hl rfl hφ rfl
      · cases hk
    · cases hk
  · rename_i d t n hs' hs hd
    rw [sval_rep hx]
    refine ⟨_, _, _, w, hk, ?_, Leaves.same hR (.c (.p (.v rfl)))⟩
    simp only [convert, Sem.run_bind, run_underlying hs, run_underlying hd, Result.andThen_ok]
    rfl
  · exact pure1_sound hR hk hx
  · cases hk
end
end Go.Fx
