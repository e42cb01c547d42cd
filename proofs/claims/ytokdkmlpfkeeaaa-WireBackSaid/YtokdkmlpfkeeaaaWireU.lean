import Derived.RangeFuncNested
import Derived.RangeFuncBound
import Derived.RangeFuncCalls
import Derived.RangeFuncLeaves
import Derived.Shelf.Abstract
import Derived.Shelf.RegionOpen
import Derived.WalkKit
import Derived.OwnWalkIn
import Derived.TacticsInMore
import Derived.LoopNIn
import Derived.LoopIn
import Derived.RangeFuncBox
import Derived.RegionTactic
import Derived.ChangeAlike
import Derived.Test.YtokdkmlpfkeeaaaProg
namespace Go.Proofs
open Go.RowKit Go.Shelf
attribute [local go_sem] Oper.semAt_some
namespace Wu
def upto {α : Type} (f : Nat → α) (k : Nat) : List α := (List.range k).map f
theorem upto_succ {α : Type} (f : Nat → α) (k : Nat) : upto f (k + 1) = upto f k ++ [f k] := by simp [upto, List.range_succ]
theorem upto_length {α : Type} (f : Nat → α) (k : Nat) : (upto f k).length = k := by simp [upto]
abbrev bk (zs : Nat → Int) (len : Nat) (j : Nat) : Int × Int := (((len - 1 - j : Nat) : Int), zs (len - 1 - j))
/-- What a round keeps: whatever lay below, and the box of the slice. -/
def Kb (n₀ Bs : Nat) (W W' : World) : Prop := Below n₀ W W' ∧ ∀ v, W.cell? ⟨Bs, 0, none⟩ = some v → W'.cell? ⟨Bs, 0, none⟩ = some v
theorem Kb.refl (n₀ Bs : Nat) (W : World) : Kb n₀ Bs W W := ⟨Below.refl _ _, fun _ h => h⟩
theorem Kb.trans {n₀ Bs : Nat} {A B C : World} (h : Kb n₀ Bs A B) (k : Kb n₀ Bs B C) : Kb n₀ Bs A C := ⟨h.1.trans k.1, fun v hv => k.2 v (h.2 v hv)⟩
set_option maxRecDepth 100000 in
set_option maxHeartbeats 2000000 in
theorem back1_in (F : Fence) (n : Nat) (h7 : F.fn 91) (hro : F.round = none) (hn : 1 ≤ n) (l Bs n₀ b off len cap : Nat) (zs : Nat → Int) (hreach : len ≤ 1000000) (hb : b < n₀) (J Jx : List (Int × Int) → World → Prop)
    (hY : ∀ pre x W, J pre W → pre.length < len → YieldAt F (n - 1) Try.prog l #[.int .i64 x.1, .int .u8 x.2] W fun e W' =>
      (e = .returned (.bool true) ∧ J (pre ++ [x]) W' ∧ Kb n₀ Bs W W') ∨ (e = .returned (.bool false) ∧ Jx (pre ++ [x]) W'))
    (W : World) (hBs : W.cell? ⟨Bs, 0, none⟩ = some (.slice (some ⟨b, off, none⟩) len cap)) (hc : ∀ j, j < len → W.cell? ⟨b, off + j, none⟩ = some (.int .u8 (zs j))) (h0 : J [] W) :
    CallsIn F n Try.prog 91 #[.func (.yield l) #[] #[], .pointer (some ⟨Bs, 0, none⟩)] W fun e W' => (∃ v, e = .returned v) ∧
      ((∃ ys, ys = upto (bk zs len) len ∧ J ys W') ∨ (∃ pre, (∃ k, k ≤ len ∧ pre = upto (bk zs len) k) ∧ Jx pre W')) := by
  refine callsIn_of_wp Try.func91 rfl h7 ?_ hro
  simp only [Try.ntmps91, List.size_toArray, List.length_cons, List.length_nil, Nat.reduceAdd, Nat.reduceSub, Array.replicate_succ, Array.replicate_zero, List.push_toArray, List.append_toArray, List.nil_append, List.cons_append]
  gi_wp2
  gi_loopw [3] (fun i wr => ∃ k : Nat, k ≤ len ∧ i = .int .i64 ((len : Int) - 1 - k) ∧ J (upto (bk zs len) k) wr ∧ Kb n₀ Bs W wr)
    (fun i _ => (intOf i + 1).toNat)
  case atStart => exact ⟨0, Nat.zero_le _, by first | rfl | simp, h0, Kb.refl _ _ _⟩
  case round =>
    obtain ⟨k, hk, rfl, hJs, hnx⟩ := hrel
    have hBs' := hnx.2 _ hBs
    by_cases hlt : k < len
    · have hcx' : wr.cell? ⟨b, off + (len - 1 - k), none⟩ = some (.int .u8 (zs (len - 1 - k))) := (hnx.1.cell (p := ⟨b, off + (len - 1 - k), none⟩) hb).trans (hc _ (by omega))
      obtain ⟨fn, tmps, assign, body, hy, hR⟩ := hY _ (bk zs len k) wr hJs (by rw [upto_length]; exact hlt)
      dsimp only at hy
      have e1 : (len : Int) - 1 - (k : Int) = ((len - 1 - k : Nat) : Int) := by omega
      rw [e1]
      gi_wp2
      refine hR.mono ?_
      rintro e W3 (⟨rfl, hJ3, hk3⟩ | ⟨rfl, hJx3⟩)
      · gi_wp2
        go_roundw
        case rel => exact ⟨k + 1, by omega, by first | (simp; done) | (simp; omega), by rw [upto_succ]; exact hJ3, hnx.trans hk3⟩
        case measure => first | (simp [intOf]; done) | (simp [intOf]; omega)
      · gi_wp2
        refine bodyPost_ret (results_none rfl _ _ _) rfl ?_
        exact ⟨⟨_, rfl⟩, .inr ⟨_, ⟨k + 1, by omega, (upto_succ _ _).symm⟩, hJx3⟩⟩
    · obtain rfl : k = len := by omega
      gi_wp2
      go_end0
      exact ⟨⟨_, rfl⟩, .inl ⟨_, rfl, hJs⟩⟩
set_option maxRecDepth 100000 in
set_option maxHeartbeats 2000000 in
theorem right_in (F : Fence) (n : Nat) (h : F.fn 77) (hro : F.round = none) (a : Option Addr) (len cap : Nat) (at' : Int) (h1 : 0 ≤ at') (h2 : at' ≤ len) (w : World) :
    CallsIn F n Try.prog 77 #[.agg #[.slice a len cap, .int .i64 at', .int .i64 0]] w fun e w' => e = .returned (.bool true) ∧ Below w.heap.size w w' := by
  refine callsIn_of_wp Try.func77 rfl h ?_ hro
  simp only [Try.ntmps77, List.size_toArray, List.length_cons, List.length_nil, Nat.reduceAdd, Nat.reduceSub, Array.replicate_succ, Array.replicate_zero, List.push_toArray, List.append_toArray, List.nil_append, List.cons_append]
  gi_wp2
  refine bodyPost_ret (results_tmp rfl _ _ _) rfl ⟨?_, (Below.refl _ w).alloc (Nat.le_refl _) _⟩
  simp
theorem World.alloc2_old (w : World) (o p : Obj) : ((w.alloc o).alloc p).heap[w.heap.size]? = some o := (Below.heap_alloc (w.alloc o) p w.heap.size (by simp)).trans (World.alloc_heap_new w o)
theorem World.alloc2_new (w : World) (o p : Obj) : ((w.alloc o).alloc p).heap[w.heap.size + 1]? = some p := by
  have := World.alloc_heap_new (w.alloc o) p
  rwa [World.size_alloc] at this
theorem cell_of_blk {w : World} {b : Nat} {xs : Array Value} {t : TypeId} {fr : Nat × Nat} (h : w.heap[b]? = some (.cells xs t fr)) (i : Nat) : w.cell? ⟨b, i, none⟩ = xs[i]? := by
  simp [World.cell?, h]
theorem cell_putObj {W : World} {l Bs : Nat} {o' : Obj} (hne : l ≠ Bs) : (W.putObj l o').cell? ⟨Bs, 0, none⟩ = W.cell? ⟨Bs, 0, none⟩ := by
  have : (W.putObj l o').heap[Bs]? = W.heap[Bs]? := World.putObj_heap_other hne.symm
  simp [World.cell?, this]
theorem below2 {w w1 : World} {o p : Obj} (h : Below ((w.alloc o).alloc p).heap.size ((w.alloc o).alloc p) w1) : Below w.heap.size w w1 :=
  (((Below.refl w.heap.size w).alloc (Nat.le_refl _) o).alloc (by simp) p).trans (h.mono (by simp; omega))
theorem back_stops (F : Fence) (n : Nat) (h91 : F.fn 91) (hro : F.round = none) (hn : 1 ≤ n) (Bs n₀ b off len cap : Nat) (zs : Nat → Int) (hreach : len ≤ 1000000) (w : World) (hBs : Bs < w.heap.size) (hn₀ : n₀ ≤ w.heap.size) (hb : b < n₀)
    (hc : w.cell? ⟨Bs, 0, none⟩ = some (.slice (some ⟨b, off, none⟩) len cap)) (hcs : ∀ j, j < len → w.cell? ⟨b, off + j, none⟩ = some (.int .u8 (zs j))) :
    SeqStopsK F n Try.prog 91 #[.pointer (some ⟨Bs, 0, none⟩)] (fun x : Int × Int => #[Value.int .i64 x.1, Value.int .u8 x.2]) (Kb n₀ Bs) (fun ys => ys = upto (bk zs len) len) (fun pre => ∃ k, k ≤ len ∧ pre = upto (bk zs len) k) len w := fun l J Jx W hW _ _ hY h0 =>
  back1_in F n h91 hro hn l Bs n₀ b off len cap zs hreach hb J Jx hY W ((hW.cell (p := ⟨Bs, 0, none⟩) hBs).trans hc) (fun j hj => (hW.cell (p := ⟨b, off + j, none⟩) (Nat.lt_of_lt_of_le hb hn₀)).trans (hcs j hj)) h0
set_option maxHeartbeats 1000000 in
theorem back_in (F : Fence) (n : Nat) (h5 : F.fn 80) (hro : F.round = none) (a : Option Addr) (len cap : Nat) (w : World) :
    CallsIn F n Try.prog 80 #[.slice a len cap] w fun e w' => e = .returned (.func (.func 91) #[] #[.pointer (some ⟨w.heap.size, 0, none⟩)]) ∧ w' = w.alloc (.cells #[.slice a len cap] 57) := by
  refine callsIn_of_wp Try.func80 rfl h5 ?_ hro
  simp only [Try.ntmps80, List.size_toArray, List.length_cons, List.length_nil, Nat.reduceAdd, Nat.reduceSub, Array.replicate_succ, Array.replicate_zero, List.push_toArray, List.append_toArray, List.nil_append, List.cons_append]
  gi_wp2
  go_ret
  exact ⟨rfl, rfl⟩
/-- Seven bits more. -/
def eatB (n x : Int) : Int := bits .or .u64 (IntKind.wrap .u64 (n * 128)) (IntKind.wrap .u64 (bits .andNot .u8 x 128))
def eatAll (l : List (Int × Int)) : Int := l.foldl (fun n x => eatB n x.2) 0
theorem eatAll_snoc (pre : List (Int × Int)) (x : Int × Int) : eatAll (pre ++ [x]) = eatB (eatAll pre) x.2 := by simp [eatAll]
set_option maxRecDepth 100000 in
set_option maxHeartbeats 2000000 in
theorem Uint_in (F : Fence) (n : Nat) (h56 : F.fn 56) (h77 : F.fn 77) (h79 : F.fn 79) (h80 : F.fn 80) (h91 : F.fn 91) (hro : F.round = none) (hn : 3 ≤ n) (b off len cap : Nat) (at' : Int) (k : Nat) (h1 : 0 ≤ at') (h2 : at' + k ≤ len) (hk : 1 ≤ k) (hlen : len ≤ 1000000) (hcap : len ≤ cap) (zs : Nat → Int)
    (w : World) (hb : b < w.heap.size) (hc : ∀ j, j < len → w.cell? ⟨b, off + j, none⟩ = some (.int .u8 (zs j)))
    (hsize : ∀ W, Below w.heap.size w W → CallsIn F (n - 1) Try.prog 79 #[.slice (some ⟨b, off + at'.toNat, none⟩) (len - at'.toNat) (cap - at'.toNat)] W fun e w' => e = .returned (.tuple #[.int .i64 k, .int .i64 0]) ∧ Below W.heap.size W w') :
    CallsIn F n Try.prog 56 #[.agg #[.slice (some ⟨b, off, none⟩) len cap, .int .i64 at', .int .i64 0]] w fun e w' =>
      e = .returned (.tuple #[.agg #[.slice (some ⟨b, off, none⟩) len cap, .int .i64 (at' + k), .int .i64 0], .int .u64 (eatAll (upto (bk (fun j => zs (j + at'.toNat)) k) k))]) ∧ Below w.heap.size w w' := by
  have hn1 : 1 ≤ n := by omega
  refine callsIn_of_wp_marks Try.func56 rfl h56 ?_ hro
  simp only [Try.ntmps56, List.size_toArray, List.length_cons, List.length_nil, Nat.reduceAdd, Nat.reduceSub, Array.replicate_succ, Array.replicate_zero, List.push_toArray, List.append_toArray, List.nil_append, List.cons_append]
  gi_wp2_with (first
    | (gi_at_call 77; refine (right_in F (n - 1) h77 hro _ _ _ _ h1 (by omega) _).mono ?_; rintro e w1 ⟨rfl, hb1⟩
       have d0 := (hb1.block w.heap.size (by simp; omega)).trans (World.alloc2_old w _ _)
       have d1 := (hb1.block (w.heap.size + 1) (by simp)).trans (World.alloc2_new w _ _)
       have c0 := cell_of_blk d0 0
       have c1 := cell_of_blk d0 1
       have c2 := cell_of_blk d0 2
       simp only [List.getElem?_toArray, List.getElem?_cons_zero, List.getElem?_cons_succ] at c0 c1 c2
       have hB1 : Below w.heap.size w w1 := below2 hb1)
    | (gi_at_call 79; refine (hsize w1 hB1).mono ?_; rintro e w2 ⟨rfl, hb2⟩
       have hs1 := hb1.size
       simp only [World.size_alloc] at hs1
       have hs2 := hb2.size
       have g0 := (hb2.block w.heap.size (by omega)).trans d0
       have g1 := (hb2.block (w.heap.size + 1) (by omega)).trans d1
       have q0 := (Below.heap_alloc w2 (.cells #[.int .u64 0] 72) w.heap.size (by omega)).trans g0
       have q1 := (Below.heap_alloc w2 (.cells #[.int .u64 0] 72) (w.heap.size + 1) (by omega)).trans g1
       have k0 := cell_of_blk q0 0
       have k1 := cell_of_blk q0 1
       have k2 := cell_of_blk q0 2
       simp only [List.getElem?_toArray, List.getElem?_cons_zero, List.getElem?_cons_succ] at k0 k1 k2)
    | (gi_at_call 80; refine (back_in F (n - 1) h80 hro _ _ _ _).mono ?_; rintro e w3 ⟨rfl, hw3⟩)
    | fail)
  subst hw3
  have hatn : off + at'.toNat = off + at'.toNat := rfl
  have hB2 : Below w.heap.size w w2 := hB1.trans (hb2.mono (by omega))
  have hB3 : Below w.heap.size w (w2.alloc (.cells #[.int .u64 0] 72)) := hB2.alloc (by omega) _
  have eL : (at' + (k : Int)).toNat - at'.toNat = k := by omega
  rw [eL]
  have bxN := Boxed.new w2 72 (.int .u64 0)
  have bxS := Boxed.new (w2.alloc (.cells #[.int .u64 0] 72)) 57 (.slice (some ⟨b, off + at'.toNat, none⟩) k (cap - at'.toNat))
  rw [World.size_alloc] at bxS
  refine wpIn_rangeFunc_ownG hro hn1 (gf := 91) (lb := #[.pointer (some ⟨w2.heap.size + 1, 0, none⟩)]) ?ev h91 (enters_of Try.func91 (by kernel_rfl) rfl)
    (back_stops F (n - 1) h91 hro (by omega) (w2.heap.size + 1) w2.heap.size b (off + at'.toNat) k (cap - at'.toNat) (fun j => zs (j + at'.toNat)) (by omega) _ (by simp) (by simp; omega) (by omega) ?cs ?cells)
    (fun h k => h.trans k) ?kb (Below.refl _ _) (fun _ => rfl)
    (fun pre W => (W.cell? ⟨w2.heap.size, 0, none⟩ = some (.int .u64 (eatAll pre)) ∧ W.frozen? ⟨w2.heap.size, 0, none⟩ = false) ∧ Below w2.heap.size w2 W)
    (fun _ _ _ => False)
    (OwnFrom.and (Own.from (fun s A B row hs hg hr => ⟨cell_kept hs.1 hg hr, (frozen_kept hs.1 hg hr).trans hs.2⟩) _) (ownFrom_below (Nat.le_refl _) (by simp; omega)))
    (fun _ _ _ _ _ hs _ _ => hs) ?init (fun x => { tmps := #[Value.agg #[Value.slice (some ⟨b, off, none⟩) len cap, Value.int IntKind.i64 at', Value.int IntKind.i64 0], Value.pointer (some ⟨w.heap.size, 0, none⟩), Value.pointer (some ⟨w.heap.size + 1, 0, none⟩), Value.int IntKind.u64 0, Value.int IntKind.i64 k, Value.int IntKind.i64 0, Value.pointer (some ⟨w2.heap.size, 0, none⟩), undef, Value.int IntKind.u8 x.2, Value.agg #[Value.slice (some ⟨b, off, none⟩) len cap, Value.int IntKind.i64 at', Value.int IntKind.i64 0], Value.bool true, Value.bool false, undef, undef, Value.tuple #[Value.int IntKind.i64 k, Value.int IntKind.i64 0], Value.pointer (some ⟨w.heap.size, 0, none⟩), Value.slice (some ⟨b, off, none⟩) len cap, Value.pointer (some ⟨w.heap.size, 1, none⟩), Value.int IntKind.i64 at', Value.slice (some ⟨b, off + at'.toNat, none⟩) (len - at'.toNat) (cap - at'.toNat), Value.tuple #[Value.int IntKind.i64 k, Value.int IntKind.i64 0], Value.int IntKind.i64 k, Value.int IntKind.i64 0, Value.int IntKind.i64 0, Value.bool false, undef, undef, undef, Value.pointer (some ⟨w.heap.size, 0, none⟩), Value.slice (some ⟨b, off, none⟩) len cap, Value.pointer (some ⟨w.heap.size, 1, none⟩), Value.int IntKind.i64 at', Value.pointer (some ⟨w.heap.size, 1, none⟩), Value.int IntKind.i64 at', Value.int IntKind.i64 k, Value.int IntKind.i64 (at' + k), Value.slice (some ⟨b, off + at'.toNat, none⟩) (k) (cap - at'.toNat), Value.func (Fn.func 91) #[] #[Value.pointer (some ⟨w2.heap.size + 1, 0, none⟩)], Value.int IntKind.i64 x.1, Value.int IntKind.u8 x.2, undef, undef, undef, undef, undef, undef, undef, undef, undef, undef, undef, undef, undef], defers := [] }) ?assign ?body ?done ?stop
  case stop => rintro D c pre W _ _ h _; exact h.elim
  case ev => rfl
  case assign =>
    intro l x W K hK
    gi_wp2
    exact hK
  case init => exact ⟨⟨(bxN.alloc _).cell, (bxN.alloc _).frozen⟩, ((Below.refl w2.heap.size w2).alloc (Nat.le_refl _) _).alloc (by simp) _⟩
  case kb =>
    intro W l o o' hl h hcs hw
    exact ⟨belowK_b (w := w2) (Nat.le_refl _) W l o o' (by simp at hl; omega) h hcs hw, fun v hv => by
      rw [← hv]
      exact cell_putObj (fun e => by subst e; rw [World.cell?, h] at hv; cases o <;> first | (simp [Obj.isCells] at hcs; done) | (simp at hv; done))⟩
  case cs => exact bxS.cell
  case cells =>
    intro j hj
    have h3 := (hB3.alloc (by simp; omega) (.cells #[.slice (some ⟨b, off + at'.toNat, none⟩) k (cap - at'.toNat)] 57)).cell (p := ⟨b, off + at'.toNat + j, none⟩) hb
    refine h3.trans ?_
    · have := hc (j + at'.toNat) (by omega)
      rwa [show off + (j + at'.toNat) = off + at'.toNat + j by omega] at this
  case body =>
    rintro l pre x W ⟨⟨hcn, hfn⟩, hBn⟩ _
    gi_wp2
    refine ⟨(KeepsOthers.setCell _ _ _).from _, ⟨(Below.refl w2.heap.size W).setCell (p := ⟨w2.heap.size, 0, none⟩) (Nat.le_refl _) _, fun v hv => ?_⟩, ⟨?_, by rw [World.frozen?_setCell]; exact hfn⟩, hBn.setCell (p := ⟨w2.heap.size, 0, none⟩) (Nat.le_refl _) _⟩
    · exact Eq.trans (World.cell?_setCell_other W _ _ _ (fun e => by injection e with e; omega)) hv
    · rw [eatAll_snoc]; exact World.cell?_setCell_same' _ _ _ (by rw [hcn]; rfl)
  case done =>
    rintro D ys W hD rfl ⟨⟨hcn, hfn⟩, hBn⟩ hK
    have u0 := (hBn.block w.heap.size (by omega)).trans g0
    have u1 := (hBn.block (w.heap.size + 1) (by omega)).trans g1
    have v0 := cell_of_blk u0 0
    have v1 := cell_of_blk u0 1
    have v2 := cell_of_blk u0 2
    simp only [List.getElem?_toArray, List.getElem?_cons_zero, List.getElem?_cons_succ] at v0 v1 v2
    have fz0 : W.frozen? ⟨w.heap.size, 1, none⟩ = false := by simp [World.frozen?, u0]
    have y0 := cell_of_blk u1 0
    have y1 := cell_of_blk u1 1
    have y2 := cell_of_blk u1 2
    simp only [List.getElem?_toArray, List.getElem?_cons_zero, List.getElem?_cons_succ] at y0 y1 y2
    have fy0 : W.frozen? ⟨w.heap.size + 1, 0, none⟩ = false := by simp [World.frozen?, u1]
    have fy1 : W.frozen? ⟨w.heap.size + 1, 1, none⟩ = false := by simp [World.frozen?, u1]
    have fy2 : W.frozen? ⟨w.heap.size + 1, 2, none⟩ = false := by simp [World.frozen?, u1]
    have p0 : ∀ z : Value, (W.setCell ⟨w.heap.size, 1, none⟩ z).cell? ⟨w.heap.size, 0, none⟩ = some (.slice (some ⟨b, off, none⟩) len cap) := fun z => (World.cell?_setCell_other W _ _ _ (fun e => by injection e with e e; omega)).trans v0
    have p1 : ∀ z : Value, (W.setCell ⟨w.heap.size, 1, none⟩ z).cell? ⟨w.heap.size, 1, none⟩ = some z := fun z => World.cell?_setCell_same W _ _ v1
    have p2 : ∀ z : Value, (W.setCell ⟨w.heap.size, 1, none⟩ z).cell? ⟨w.heap.size, 2, none⟩ = some (.int .i64 0) := fun z => (World.cell?_setCell_other W _ _ _ (fun e => by injection e with e e; omega)).trans v2
    have p3 : ∀ z : Value, (W.setCell ⟨w.heap.size, 1, none⟩ z).cell? ⟨w2.heap.size, 0, none⟩ = some (.int .u64 (eatAll (upto (bk (fun j => zs (j + at'.toNat)) k) k))) := fun z => (World.cell?_setCell_other W _ _ _ (fun e => by injection e with e e; omega)).trans hcn
    have p4 : ∀ z : Value, (W.setCell ⟨w.heap.size, 1, none⟩ z).cell? ⟨w.heap.size + 1, 0, none⟩ = some (.slice none 0 0) := fun z => (World.cell?_setCell_other W _ _ _ (fun e => by injection e with e e; omega)).trans y0
    have p5 : ∀ z : Value, (W.setCell ⟨w.heap.size, 1, none⟩ z).cell? ⟨w.heap.size + 1, 1, none⟩ = some (.int .i64 0) := fun z => (World.cell?_setCell_other W _ _ _ (fun e => by injection e with e e; omega)).trans y1
    have p6 : ∀ z : Value, (W.setCell ⟨w.heap.size, 1, none⟩ z).cell? ⟨w.heap.size + 1, 2, none⟩ = some (.int .i64 0) := fun z => (World.cell?_setCell_other W _ _ _ (fun e => by injection e with e e; omega)).trans y2
    gi_wp2
    gi_region
    all_goals rename_i hgo
    all_goals refine hgo _ _ ?_
    all_goals gi_wp2
    all_goals
      have hsW := hBn.size
      simp only [World.size_alloc] at hD
      have hK' : ((((W.setCell ⟨w.heap.size, 1, none⟩ (Value.int IntKind.i64 (at' + ↑k))).setCell ⟨w.heap.size + 1, 0, none⟩ (Value.slice (some { block := b, off := off }) len cap)).setCell ⟨w.heap.size + 1, 1, none⟩ (Value.int IntKind.i64 (at' + ↑k))).setCell ⟨w.heap.size + 1, 2, none⟩ (Value.int IntKind.i64 0)).drew.heap[D]? = some (.deferred (some [])) :=
        (Below.heap_setCell _ _ _ _ (by show D ≠ w.heap.size + 1; omega)).trans ((Below.heap_setCell _ _ _ _ (by show D ≠ w.heap.size + 1; omega)).trans ((Below.heap_setCell _ _ _ _ (by show D ≠ w.heap.size + 1; omega)).trans ((Below.heap_setCell _ _ _ _ (by show D ≠ w.heap.size; omega)).trans hK)))
      refine ⟨by simp, .inl ⟨_, _, rfl, run_takeDeferred hK', ?_⟩⟩
      have hother : ∀ (Z : World) (i : Nat), (Z.putObj D (.deferred none)).cell? ⟨w.heap.size + 1, i, none⟩ = Z.cell? ⟨w.heap.size + 1, i, none⟩ := fun Z i => World.cell?_of_block (World.putObj_heap_other (k := w.heap.size + 1) (by omega))
      refine ⟨_, ?_, rfl, ?_⟩
      · simp [results, Try.f56, go_sem, hother, p4, p5, p6]
      · have hBW : Below w.heap.size w W := hB2.trans (hBn.mono (by omega))
        refine Below.trans ?_ (belowK_b (w := w) (Nat.le_refl _) _ D _ _ (by omega) hK' rfl rfl)
        exact ((((hBW.setCell (p := ⟨w.heap.size, 1, none⟩) (Nat.le_refl _) _).setCell (p := ⟨w.heap.size + 1, 0, none⟩) (Nat.le_succ _) _).setCell (p := ⟨w.heap.size + 1, 1, none⟩) (Nat.le_succ _) _).setCell (p := ⟨w.heap.size + 1, 2, none⟩) (Nat.le_succ _) _).drew
end Wu
end Go.Proofs
