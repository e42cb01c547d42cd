-- PRINTED BY print.sh 35421559b90ae4d0a3588c463048766b98c2df88dd9212a6774a882060cdf62d: not written by this session
import Derived.Test.YtaodejfbmnoelaaPCountBackx0
namespace Go.Proofs.Ytaodejfbmnoelaa.PCountBack
open Go.RowKit Go.Proofs.YtaodejfbmnoelaaW.PrintWords Go.Proofs.YtaodejfbmnoelaaW.PrintLast Go.Proofs.YtaodejfbmnoelaaW.PrintMore
attribute [local go_sem] max2_int min2_int max_two min_two max_three min_three max_four min_four   -- for this text's walks alone
set_option linter.unusedVariables false
set_option linter.unusedSimpArgs false

/-! ### count_Hold: function 17 -/
def count_Hold.f (a0 : Int) : Option (Int) := some (mn (mx a0 0) 1099511627776)
set_option maxHeartbeats 8000000 in
set_option maxRecDepth 100000 in
theorem count_Hold.calls (a0 : Int) (r : Int) (w : World) (h : count_Hold.f a0 = some r) :
    Calls Try.prog 17 #[.int .i64 a0] w fun e w' => e = .returned (.int .i64 r) ∧ Below w.heap.size w w' := by
  have HB := Aside0.mk (Below.refl w.heap.size w)
  have H : (some (mn (mx a0 0) 1099511627776)) = some r := h
  clear h
  obtain ⟨ji2, hji2⟩ : ∃ j_ : Int, (mx a0 0) = j_ := ⟨_, rfl⟩
  replace H : (some (mn (ji2) 1099511627776)) = some r := by first | (rw [hji2] at H; exact H) | (simp only [hji2] at H ⊢; exact H)
  (try (have hji2l : 0 ≤ ji2 := by (rw [← hji2]; unfold mx; (repeat' split) <;> omega)))
  (try (have hji2m : 0 ≤ ji2 := by omega))
  have hji2_ : (if a0 < 0 then 0 else a0) = ji2 := hji2
  obtain ⟨ji3, hji3⟩ : ∃ j_ : Int, (mn (ji2) 1099511627776) = j_ := ⟨_, rfl⟩
  replace H : (some ji3) = some r := by first | (rw [hji3] at H; exact H) | (simp only [hji3] at H ⊢; exact H)
  have hji3_ : (if 1099511627776 < (ji2) then 1099511627776 else (ji2)) = ji3 := hji3
  obtain rfl := Option.some.inj H
  go_enter Try.func17, Try.ntmps17
  go_wp2
  go_ret
  exact ⟨by first | rfl | (simp [errW_none, errW_some] <;> rfl) | (simp only [← hji2, ← hji3]; first | rfl | (simp [errW_none, errW_some] <;> rfl)) | (simp [*, errW_none, errW_some] <;> rfl), by repeat (first | (with_reducible first | exact HB.out | apply below_alloc | apply pw_below_drewN | apply below_drew1) | exact HB.out)⟩

/-! ### count_Up: function 19 -/
def count_Up.f (a0 : Int) (a1 : Int) : Option (Int) := (count_Hold.f a0).bind fun t101 => ((count_Hold.f a1).bind fun t102 => ((count_Hold.f (wrap64 (t101 + t102))).bind fun t103 => (some t103)))
set_option maxHeartbeats 8000000 in
set_option maxRecDepth 100000 in
theorem count_Up.calls (a0 : Int) (a1 : Int) (r : Int) (w : World) (h : count_Up.f a0 a1 = some r) :
    Calls Try.prog 19 #[.int .i64 a0, .int .i64 a1] w fun e w' => e = .returned (.int .i64 r) ∧ Below w.heap.size w w' := by
  have HB := Aside0.mk (Below.refl w.heap.size w)
  have H : ((count_Hold.f a0).bind fun t101 => ((count_Hold.f a1).bind fun t102 => ((count_Hold.f (wrap64 (t101 + t102))).bind fun t103 => (some t103)))) = some r := h
  clear h
  replace H := Option.bind_eq_some_iff.mp H
  obtain ⟨t101, A30, H⟩ := H
  replace H : ((count_Hold.f a1).bind fun t102 => ((count_Hold.f (wrap64 (t101 + t102))).bind fun t103 => (some t103))) = some r := H
  have A3 := Aside0.mk A30
  clear A30
  replace H := Option.bind_eq_some_iff.mp H
  obtain ⟨t102, A40, H⟩ := H
  replace H : ((count_Hold.f (wrap64 (t101 + t102))).bind fun t103 => (some t103)) = some r := H
  have A4 := Aside0.mk A40
  clear A40
  replace H := Option.bind_eq_some_iff.mp H
  obtain ⟨t103, A50, H⟩ := H
  replace H : (some t103) = some r := H
  have A5 := Aside0.mk A50
  clear A50
  obtain rfl := Option.some.inj H
  go_enter Try.func19, Try.ntmps19
  go_wp2_with (first | ((with_reducible refine gate_callee (f := 17) rfl ?_); refine goesL_ (some 6) rfl rfl Try.func17 (by kernel_rfl) rfl #[.int .i64 a0] rfl (by (try simp only [List.map_toArray, List.map_cons, List.map_nil]); first | done | rfl | (simp only [List.length_drop, List.length_take]; rfl)) ?_; (with_reducible refine (count_Hold.calls a0 t101 _ A3.out).mono ?_); rintro e w6 ⟨rfl, hb⟩; refine ⟨_, rfl, ?_⟩; have n0_ := Aside0.mk (below_step (by repeat (first | (with_reducible first | exact HB.out | apply below_alloc | apply pw_below_drewN | apply below_drew1) | exact HB.out)) hb); clear HB; have HB := n0_; clear n0_; (try clear hb); (try clear hb2); (try clear hk); (try clear hi)) | ((with_reducible refine gate_callee (f := 17) rfl ?_); refine goesL_ (some 8) rfl rfl Try.func17 (by kernel_rfl) rfl #[.int .i64 a1] rfl (by (try simp only [List.map_toArray, List.map_cons, List.map_nil]); first | done | rfl | (simp only [List.length_drop, List.length_take]; rfl)) ?_; (with_reducible refine (count_Hold.calls a1 t102 _ A4.out).mono ?_); rintro e w7 ⟨rfl, hb⟩; refine ⟨_, rfl, ?_⟩; have n0_ := Aside0.mk (below_step (by repeat (first | (with_reducible first | exact HB.out | apply below_alloc | apply pw_below_drewN | apply below_drew1) | exact HB.out)) hb); clear HB; have HB := n0_; clear n0_; (try clear hb); (try clear hb2); (try clear hk); (try clear hi)) | ((with_reducible refine gate_callee (f := 17) rfl ?_); refine goesL_ (some 10) rfl rfl Try.func17 (by kernel_rfl) rfl #[.int .i64 (wrap64 (t101 + t102))] rfl (by (try simp only [List.map_toArray, List.map_cons, List.map_nil]); first | done | rfl | (simp only [List.length_drop, List.length_take]; rfl)) ?_; (with_reducible refine (count_Hold.calls (wrap64 (t101 + t102)) t103 _ A5.out).mono ?_); rintro e w8 ⟨rfl, hb⟩; refine ⟨_, rfl, ?_⟩; have n0_ := Aside0.mk (below_step (by repeat (first | (with_reducible first | exact HB.out | apply below_alloc | apply pw_below_drewN | apply below_drew1) | exact HB.out)) hb); clear HB; have HB := n0_; clear n0_; (try clear hb); (try clear hb2); (try clear hk); (try clear hi)))
  go_ret
  exact ⟨by first | rfl | (simp [errW_none, errW_some] <;> rfl) | (simp [*, errW_none, errW_some] <;> rfl), by repeat (first | (with_reducible first | exact HB.out | apply below_alloc | apply pw_below_drewN | apply below_drew1) | exact HB.out)⟩

/-! ### count_Down: function 20 -/
def count_Down.f (a0 : Int) (a1 : Int) : Option (Int) := (count_Hold.f a0).bind fun t104 => ((count_Hold.f a1).bind fun t105 => ((count_Hold.f (wrap64 (t104 - t105))).bind fun t106 => (some t106)))
set_option maxHeartbeats 8000000 in
set_option maxRecDepth 100000 in
theorem count_Down.calls (a0 : Int) (a1 : Int) (r : Int) (w : World) (h : count_Down.f a0 a1 = some r) :
    Calls Try.prog 20 #[.int .i64 a0, .int .i64 a1] w fun e w' => e = .returned (.int .i64 r) ∧ Below w.heap.size w w' := by
  have HB := Aside0.mk (Below.refl w.heap.size w)
  have H : ((count_Hold.f a0).bind fun t104 => ((count_Hold.f a1).bind fun t105 => ((count_Hold.f (wrap64 (t104 - t105))).bind fun t106 => (some t106)))) = some r := h
  clear h
  replace H := Option.bind_eq_some_iff.mp H
  obtain ⟨t104, A30, H⟩ := H
  replace H : ((count_Hold.f a1).bind fun t105 => ((count_Hold.f (wrap64 (t104 - t105))).bind fun t106 => (some t106))) = some r := H
  have A3 := Aside0.mk A30
  clear A30
  replace H := Option.bind_eq_some_iff.mp H
  obtain ⟨t105, A40, H⟩ := H
  replace H : ((count_Hold.f (wrap64 (t104 - t105))).bind fun t106 => (some t106)) = some r := H
  have A4 := Aside0.mk A40
  clear A40
  replace H := Option.bind_eq_some_iff.mp H
  obtain ⟨t106, A50, H⟩ := H
  replace H : (some t106) = some r := H
  have A5 := Aside0.mk A50
  clear A50
  obtain rfl := Option.some.inj H
  go_enter Try.func20, Try.ntmps20
  go_wp2_with (first | ((with_reducible refine gate_callee (f := 17) rfl ?_); refine goesL_ (some 6) rfl rfl Try.func17 (by kernel_rfl) rfl #[.int .i64 a0] rfl (by (try simp only [List.map_toArray, List.map_cons, List.map_nil]); first | done | rfl | (simp only [List.length_drop, List.length_take]; rfl)) ?_; (with_reducible refine (count_Hold.calls a0 t104 _ A3.out).mono ?_); rintro e w6 ⟨rfl, hb⟩; refine ⟨_, rfl, ?_⟩; have n0_ := Aside0.mk (below_step (by repeat (first | (with_reducible first | exact HB.out | apply below_alloc | apply pw_below_drewN | apply below_drew1) | exact HB.out)) hb); clear HB; have HB := n0_; clear n0_; (try clear hb); (try clear hb2); (try clear hk); (try clear hi)) | ((with_reducible refine gate_callee (f := 17) rfl ?_); refine goesL_ (some 8) rfl rfl Try.func17 (by kernel_rfl) rfl #[.int .i64 a1] rfl (by (try simp only [List.map_toArray, List.map_cons, List.map_nil]); first | done | rfl | (simp only [List.length_drop, List.length_take]; rfl)) ?_; (with_reducible refine (count_Hold.calls a1 t105 _ A4.out).mono ?_); rintro e w7 ⟨rfl, hb⟩; refine ⟨_, rfl, ?_⟩; have n0_ := Aside0.mk (below_step (by repeat (first | (with_reducible first | exact HB.out | apply below_alloc | apply pw_below_drewN | apply below_drew1) | exact HB.out)) hb); clear HB; have HB := n0_; clear n0_; (try clear hb); (try clear hb2); (try clear hk); (try clear hi)) | ((with_reducible refine gate_callee (f := 17) rfl ?_); refine goesL_ (some 10) rfl rfl Try.func17 (by kernel_rfl) rfl #[.int .i64 (wrap64 (t104 - t105))] rfl (by (try simp only [List.map_toArray, List.map_cons, List.map_nil]); first | done | rfl | (simp only [List.length_drop, List.length_take]; rfl)) ?_; (with_reducible refine (count_Hold.calls (wrap64 (t104 - t105)) t106 _ A5.out).mono ?_); rintro e w8 ⟨rfl, hb⟩; refine ⟨_, rfl, ?_⟩; have n0_ := Aside0.mk (below_step (by repeat (first | (with_reducible first | exact HB.out | apply below_alloc | apply pw_below_drewN | apply below_drew1) | exact HB.out)) hb); clear HB; have HB := n0_; clear n0_; (try clear hb); (try clear hb2); (try clear hk); (try clear hi)))
  go_ret
  exact ⟨by first | rfl | (simp [errW_none, errW_some] <;> rfl) | (simp [*, errW_none, errW_some] <;> rfl), by repeat (first | (with_reducible first | exact HB.out | apply below_alloc | apply pw_below_drewN | apply below_drew1) | exact HB.out)⟩

/-! ### count_Total: function 22 -/
def count_Total.l0 : Nat → Int → List Int → Int → Int → Option (Int)
  | 0, _, _, _, _ => none
  | k + 1, x3, x6, x7, x8 => if x8 < x7 then (if 0 ≤ x8 then (if x8 < (x6.length : Int) then ((count_Up.f x3 (rd x6 x8)).bind fun t108 => (count_Total.l0 k t108 x6 x7 (wrap64 (x8 + 1)))) else (none)) else (none)) else (some x3)
def count_Total.f (k : Nat) (l0 : List Int) : Option (Int) := count_Total.l0 k 0 l0 (l0.length : Int) 0
theorem count_Total.mono_l : ∀ k, (∀ y0 y1 y2 y3, LeO (count_Total.l0 k y0 y1 y2 y3) (count_Total.l0 (k + 1) y0 y1 y2 y3))
  | 0 => fun _ _ _ _ r h => by simp [count_Total.l0] at h
  | k + 1 => by
    have ih0 := count_Total.mono_l k
    · intro y0 y1 y2 y3
      unfold count_Total.l0
      repeat' first
      | (with_reducible exact ih0 _ _ _ _)
      | (with_reducible exact LeO.refl _)
      | (with_reducible exact LeO.none _)
      | (with_reducible refine LeO.ite ?_ ?_)
      | (with_reducible refine LeO.bind ?_ (fun _ => ?_))
      | exact ih0 _ _ _ _
      | exact LeO.none _
      | refine LeO.ite ?_ ?_
      | refine LeO.bind ?_ (fun _ => ?_)
theorem count_Total.mono : ∀ a0 k, LeO (count_Total.f k a0) (count_Total.f (k + 1) a0) := by
  intro a0 k
  have ih0 := count_Total.mono_l k
  unfold count_Total.f
  repeat' first
      | (with_reducible exact ih0 _ _ _ _)
      | (with_reducible exact LeO.refl _)
      | (with_reducible exact LeO.none _)
      | (with_reducible refine LeO.ite ?_ ?_)
      | (with_reducible refine LeO.bind ?_ (fun _ => ?_))
      | exact ih0 _ _ _ _
      | exact LeO.none _
      | refine LeO.ite ?_ ?_
      | refine LeO.bind ?_ (fun _ => ?_)
set_option maxHeartbeats 8000000 in
set_option maxRecDepth 100000 in
theorem count_Total.calls (k : Nat) (A0 : Option Addr) (c0 : Nat) (l0 : List Int) (r : Int) (w : World) (hr0 : Kd.C (Kd.int .i64) w A0 l0.length l0) (hc0 : l0.length ≤ c0) (h : count_Total.f k l0 = some r) :
    Calls Try.prog 22 #[.slice A0 l0.length c0] w fun e w' => e = .returned (.int .i64 r) ∧ Below w.heap.size w w' := by
  have HR0 := Aside0.mk hr0
  have HC0 := Aside0.mk hc0
  clear hr0 hc0
  have HB := Aside0.mk (Below.refl w.heap.size w)
  have H : (count_Total.l0 k 0 l0 (l0.length : Int) 0) = some r := h
  clear h
  have H' := Aside0.mk H
  clear H
  go_enter Try.func22, Try.ntmps22
  go_wp2
  go_loopg [3, 8] k (fun kq v3 v8 w' => ∃ (x3_1 : Int) (x8_1 : Int), v3 = .int .i64 x3_1 ∧ v8 = .int .i64 x8_1 ∧ Aside0 (count_Total.l0 kq x3_1 l0 (l0.length : Int) x8_1 = some r) ∧ Aside0 (kq ≤ k) ∧ Aside0 (Below w.heap.size w w'))
  case atStart => exact ⟨(0), (0), (by first | rfl | (simp; done) | (simp [*]; done)), (by first | rfl | (simp; done) | (simp [*]; done)), H', ⟨Nat.le_refl _⟩, ⟨by repeat (first | (with_reducible first | exact HB.out | apply below_alloc | apply pw_below_drewN | apply below_drew1) | exact HB.out)⟩⟩
  case round =>
    clear H'
    obtain ⟨x3_1, x8_1, rfl, rfl, HA, HK1, HB⟩ := hrel
    cases gk with
    | zero => exact absurd HA.out (by simp [count_Total.l0])
    | succ k1 =>
      have H := HA.out
      clear HA
      simp only [count_Total.l0] at H
      by_cases c2 : x8_1 < (l0.length : Int)
      · rw [if_pos c2] at H
        have c2b0 : decide (x8_1 < (l0.length : Int)) = true := decide_eq_true c2
        clear c2
        by_cases c3 : 0 ≤ x8_1
        · rw [if_pos c3] at H
          have c3b0 : decide (0 ≤ x8_1) = true := decide_eq_true c3
          clear c3
          by_cases c4 : x8_1 < (l0.length : Int)
          · rw [if_pos c4] at H
            have c4b0 : decide (x8_1 < (l0.length : Int)) = true := decide_eq_true c4
            clear c4
            replace H := Option.bind_eq_some_iff.mp H
            obtain ⟨t108, A50, H⟩ := H
            replace H : (count_Total.l0 k1 t108 l0 (l0.length : Int) (wrap64 (x8_1 + 1))) = some r := H
            have A5 := Aside0.mk A50
            clear A50
            have H' := Aside0.mk H
            clear H
            have p107 : 0 ≤ (x8_1 : Int) := of_decide_eq_true (by first | (with_reducible assumption) | assumption)
            have q107 : x8_1 < (l0.length : Int) := of_decide_eq_true (by first | (with_reducible assumption) | assumption)
            obtain ⟨ad107, e107, hx107_0⟩ := Kd.at_int HR0.out x8_1 p107 q107
            cases e107
            replace hx107_0 := (HB.out.cell (World.block_lt_of_cell? w _ hx107_0)).trans hx107_0
            replace p107 := eq_true p107
            replace q107 := eq_true q107
            go_wp2_with (first | ((with_reducible refine gate_callee (f := 19) rfl ?_); refine goesL_ (some 14) rfl rfl Try.func19 (by kernel_rfl) rfl #[.int .i64 x3_1, .int .i64 (rd l0 x8_1)] rfl (by (try simp only [List.map_toArray, List.map_cons, List.map_nil]); first | done | rfl | (simp only [List.length_drop, List.length_take]; rfl)) ?_; (with_reducible refine (count_Up.calls x3_1 (rd l0 x8_1) t108 _ A5.out).mono ?_); rintro e w6 ⟨rfl, hb⟩; refine ⟨_, rfl, ?_⟩; have n0_ := Aside0.mk (below_step (by repeat (first | (with_reducible first | exact HB.out | apply below_alloc | apply pw_below_drewN | apply below_drew1) | exact HB.out)) hb); clear HB; have HB := n0_; clear n0_; (try clear hb); (try clear hb2); (try clear hk); (try clear hi)))
            go_roundg k1
            case measure => have := HK1.out; omega
            case rel => exact ⟨(t108), (wrap64 (x8_1 + 1)), (by first | rfl | (simp; done) | (simp [*]; done)), (by first | rfl | (simp; done) | (simp [*]; done)), H', ⟨by have := HK1.out; omega⟩, ⟨by repeat (first | (with_reducible first | exact HB.out | apply below_alloc | apply pw_below_drewN | apply below_drew1) | exact HB.out)⟩⟩
          · rw [if_neg c4] at H
            exact absurd H (by simp)
        · rw [if_neg c3] at H
          exact absurd H (by simp)
      · rw [if_neg c2] at H
        have c2b0 : decide (x8_1 < (l0.length : Int)) = false := decide_eq_false c2
        clear c2
        obtain rfl := Option.some.inj H
        go_wp2
        go_ret
        exact ⟨by first | rfl | (simp [errW_none, errW_some] <;> rfl) | (simp [*, errW_none, errW_some] <;> rfl), by repeat (first | (with_reducible first | exact HB.out | apply below_alloc | apply pw_below_drewN | apply below_drew1) | exact HB.out)⟩

/-! ### fuseboxlaw01_awake: function 15 -/
def fuseboxlaw01_awake.f (k : Nat)  : Option (Bool) := (count_Hold.f 7).bind fun t109 => (if t109 = 7 then ((count_Up.f 1099511627776 5).bind fun t110 => (if t110 = 1099511627776 then ((count_Down.f 9 5).bind fun t111 => (if t111 = 4 then ((count_Total.f k (([1, 2, 3] : List Int))).bind fun t115 => (some (t115 == 6))) else (some false))) else (some false))) else (some false))
theorem fuseboxlaw01_awake.mono : ∀ k, LeO (fuseboxlaw01_awake.f k ) (fuseboxlaw01_awake.f (k + 1) ) := by
  intro  k
  unfold fuseboxlaw01_awake.f
  repeat' first
      | (with_reducible exact count_Total.mono _ _)
      | (with_reducible exact LeO.refl _)
      | (with_reducible exact LeO.none _)
      | (with_reducible refine LeO.ite ?_ ?_)
      | (with_reducible refine LeO.bind ?_ (fun _ => ?_))
      | exact count_Total.mono _ _
      | exact LeO.none _
      | refine LeO.ite ?_ ?_
      | refine LeO.bind ?_ (fun _ => ?_)
set_option maxHeartbeats 8000000 in
set_option maxRecDepth 100000 in
theorem fuseboxlaw01_awake.calls (k : Nat)  (r : Bool) (w : World) (h : fuseboxlaw01_awake.f k  = some r) :
    Calls Try.prog 15 #[] w fun e w' => e = .returned (.bool r) ∧ Below w.heap.size w w' := by
  have HB := Aside0.mk (Below.refl w.heap.size w)
  have H : ((count_Hold.f 7).bind fun t109 => (if t109 = 7 then ((count_Up.f 1099511627776 5).bind fun t110 => (if t110 = 1099511627776 then ((count_Down.f 9 5).bind fun t111 => (if t111 = 4 then ((count_Total.f k (([1, 2, 3] : List Int))).bind fun t115 => (some (t115 == 6))) else (some false))) else (some false))) else (some false))) = some r := h
  clear h
  replace H := Option.bind_eq_some_iff.mp H
  obtain ⟨t109, A10, H⟩ := H
  replace H : (if t109 = 7 then ((count_Up.f 1099511627776 5).bind fun t110 => (if t110 = 1099511627776 then ((count_Down.f 9 5).bind fun t111 => (if t111 = 4 then ((count_Total.f k (([1, 2, 3] : List Int))).bind fun t115 => (some (t115 == 6))) else (some false))) else (some false))) else (some false)) = some r := H
  have A1 := Aside0.mk A10
  clear A10
  by_cases c2 : t109 = 7
  · rw [if_pos c2] at H
    have c2b0 : (t109 == 7) = true := beq_iff_eq.mpr c2
    have c2b1 : (t109 != 7) = false := bne_eq_false_iff_eq.mpr c2
    clear c2
    replace H := Option.bind_eq_some_iff.mp H
    obtain ⟨t110, A30, H⟩ := H
    replace H : (if t110 = 1099511627776 then ((count_Down.f 9 5).bind fun t111 => (if t111 = 4 then ((count_Total.f k (([1, 2, 3] : List Int))).bind fun t115 => (some (t115 == 6))) else (some false))) else (some false)) = some r := H
    have A3 := Aside0.mk A30
    clear A30
    by_cases c4 : t110 = 1099511627776
    · rw [if_pos c4] at H
      have c4b0 : (t110 == 1099511627776) = true := beq_iff_eq.mpr c4
      have c4b1 : (t110 != 1099511627776) = false := bne_eq_false_iff_eq.mpr c4
      clear c4
      replace H := Option.bind_eq_some_iff.mp H
      obtain ⟨t111, A50, H⟩ := H
      replace H : (if t111 = 4 then ((count_Total.f k (([1, 2, 3] : List Int))).bind fun t115 => (some (t115 == 6))) else (some false)) = some r := H
      have A5 := Aside0.mk A50
      clear A50
      by_cases c6 : t111 = 4
      · rw [if_pos c6] at H
        have c6b0 : (t111 == 4) = true := beq_iff_eq.mpr c6
        have c6b1 : (t111 != 4) = false := bne_eq_false_iff_eq.mpr c6
        clear c6
        obtain ⟨y112, hy112⟩ : ∃ y_ : List Int, y_ = (([1, 2, 3] : List Int)) := ⟨_, rfl⟩
        replace H : ((count_Total.f k y112).bind fun t115 => (some (t115 == 6))) = some r := by first | (rw [hy112]; with_reducible exact H) | (have H2_ := (Option.bind_some _ _).symm.trans H; rw [hy112]; with_reducible exact H2_) | (have H2_ := (Option.bind_some _ _).symm.trans H; with_reducible exact H2_) | with_reducible exact H | (rw [hy112]; exact H) | exact H
        have Ny112 := Aside0.mk hy112
        clear hy112
        replace H := Option.bind_eq_some_iff.mp H
        obtain ⟨t115, A70, H⟩ := H
        replace H : (some (t115 == 6)) = some r := H
        have A7 := Aside0.mk A70
        clear A70
        obtain rfl := Option.some.inj H
        go_enter Try.func15, Try.ntmps15
        go_wp2_with (first | ((with_reducible refine gate_callee (f := 17) rfl ?_); refine goesL_ (some 1) rfl rfl Try.func17 (by kernel_rfl) rfl #[.int .i64 7] rfl (by (try simp only [List.map_toArray, List.map_cons, List.map_nil]); first | done | rfl | (simp only [List.length_drop, List.length_take]; rfl)) ?_; (with_reducible refine (count_Hold.calls 7 t109 _ A1.out).mono ?_); rintro e w8 ⟨rfl, hb⟩; refine ⟨_, rfl, ?_⟩; have n0_ := Aside0.mk (below_step (by repeat (first | (with_reducible first | exact HB.out | apply below_alloc | apply pw_below_drewN | apply below_drew1) | exact HB.out)) hb); clear HB; have HB := n0_; clear n0_; (try clear hb); (try clear hb2); (try clear hk); (try clear hi)) | (go_at_call 19; (with_reducible refine (count_Up.calls 1099511627776 5 t110 _ A3.out).mono ?_); rintro e w9 ⟨rfl, hb⟩; have n0_ := Aside0.mk (below_step (by repeat (first | (with_reducible first | exact HB.out | apply below_alloc | apply pw_below_drewN | apply below_drew1) | exact HB.out)) hb); clear HB; have HB := n0_; clear n0_; (try clear hb); (try clear hb2); (try clear hk); (try clear hi)) | (go_at_call 20; (with_reducible refine (count_Down.calls 9 5 t111 _ A5.out).mono ?_); rintro e w10 ⟨rfl, hb⟩; have n0_ := Aside0.mk (below_step (by repeat (first | (with_reducible first | exact HB.out | apply below_alloc | apply pw_below_drewN | apply below_drew1) | exact HB.out)) hb); clear HB; have HB := n0_; clear n0_; (try clear hb); (try clear hb2); (try clear hk); (try clear hi)) | ((with_reducible refine gate_dst (N := 12) rfl ?_); (try (refine gate_guard (by rfl) ?_; dsimp only)); refine Kd.R_lit (Kd.int .i64) _ 2 ?hg (N := 12) ?hd (xs := ([1, 2, 3] : List Int)) (inner := [.int .i64 1, .int .i64 2, .int .i64 3]) (ok := fun _ => True) (okp := fun _ => True) ?hr ?hp (fun _ hk => hk) trivial (Below.refl _ _) (Nat.le_refl _) (by simp) ?_; (case hd => rfl); (case hg => rfl); (case hr => first | (go_simp; done) | (go_simp; rfl)); (case hp => exact (Reps.one (show Kd.M (Kd.int .i64) _ _ _ 1 [.int .i64 1] from rfl) (Reps.one (show Kd.M (Kd.int .i64) _ _ _ 2 [.int .i64 2] from rfl) (Reps.one (show Kd.M (Kd.int .i64) _ _ _ 3 [.int .i64 3] from rfl) (Reps.none _ _))))); intro v113 w11 ho12 hb hg_ hnew_; clear hg_ hnew_; (first | rw [← Ny112.out] at ho12 | (simp only [Int.reduceToNat] at ho12; rw [← Ny112.out] at ho12)); have n0_ := Aside0.mk (Kd.R_lower ho12 (below_size (by repeat (first | (with_reducible first | exact HB.out | apply below_alloc | apply pw_below_drewN | apply below_drew1) | exact HB.out)))); have n1_ := Aside0.mk (below_step (by repeat (first | (with_reducible first | exact HB.out | apply below_alloc | apply pw_below_drewN | apply below_drew1) | exact HB.out)) hb); clear HB; have HO114 := n0_; have HB := n1_; clear n0_ n1_; clear hb ho12; obtain ⟨Ao13, co13, eo13⟩ := Kd.R_slice HO114.out; subst eo13) | (go_at_call 22; (with_reducible refine (count_Total.calls k _ _ y112 t115 _ ?side1 ?side2 A7.out).mono ?_); (case side1 => repeat (first | exact (Kd.R_reads' HO114.out).2.2 | (with_reducible refine Kd.C_alloc ?_ _) | (with_reducible refine Kd.C_drewN ?_ _) | (with_reducible refine Kd.C_drew ?_))); (case side2 => exact (Kd.R_reads' HO114.out).2.1); rintro e w14 ⟨rfl, hb⟩; have n0_ := Aside0.mk (Kd.R_below (by (with_reducible repeat (first | apply Kd.R_alloc | apply Kd.R_drewN | apply Kd.R_drew)); exact HO114.out) hb); have n1_ := Aside0.mk (below_step (by repeat (first | (with_reducible first | exact HB.out | apply below_alloc | apply pw_below_drewN | apply below_drew1) | exact HB.out)) hb); clear HO114; clear HB; have HO114 := n0_; have HB := n1_; clear n0_ n1_; (try clear hb); (try clear hb2); (try clear hk); (try clear hi)))
        go_ret
        exact ⟨by first | rfl | (simp [errW_none, errW_some] <;> rfl) | (simp [*, errW_none, errW_some] <;> rfl), by repeat (first | (with_reducible first | exact HB.out | apply below_alloc | apply pw_below_drewN | apply below_drew1) | exact HB.out)⟩
      · rw [if_neg c6] at H
        have c6b0 : (t111 == 4) = false := beq_eq_false_iff_ne.mpr c6
        have c6b1 : (t111 != 4) = true := bne_iff_ne.mpr c6
        obtain rfl := Option.some.inj H
        go_enter Try.func15, Try.ntmps15
        go_wp2_with (first | ((with_reducible refine gate_callee (f := 17) rfl ?_); refine goesL_ (some 1) rfl rfl Try.func17 (by kernel_rfl) rfl #[.int .i64 7] rfl (by (try simp only [List.map_toArray, List.map_cons, List.map_nil]); first | done | rfl | (simp only [List.length_drop, List.length_take]; rfl)) ?_; (with_reducible refine (count_Hold.calls 7 t109 _ A1.out).mono ?_); rintro e w15 ⟨rfl, hb⟩; refine ⟨_, rfl, ?_⟩; have n0_ := Aside0.mk (below_step (by repeat (first | (with_reducible first | exact HB.out | apply below_alloc | apply pw_below_drewN | apply below_drew1) | exact HB.out)) hb); clear HB; have HB := n0_; clear n0_; (try clear hb); (try clear hb2); (try clear hk); (try clear hi)) | (go_at_call 19; (with_reducible refine (count_Up.calls 1099511627776 5 t110 _ A3.out).mono ?_); rintro e w16 ⟨rfl, hb⟩; have n0_ := Aside0.mk (below_step (by repeat (first | (with_reducible first | exact HB.out | apply below_alloc | apply pw_below_drewN | apply below_drew1) | exact HB.out)) hb); clear HB; have HB := n0_; clear n0_; (try clear hb); (try clear hb2); (try clear hk); (try clear hi)) | (go_at_call 20; (with_reducible refine (count_Down.calls 9 5 t111 _ A5.out).mono ?_); rintro e w17 ⟨rfl, hb⟩; have n0_ := Aside0.mk (below_step (by repeat (first | (with_reducible first | exact HB.out | apply below_alloc | apply pw_below_drewN | apply below_drew1) | exact HB.out)) hb); clear HB; have HB := n0_; clear n0_; (try clear hb); (try clear hb2); (try clear hk); (try clear hi)))
        go_ret
        exact ⟨by first | rfl | (simp [errW_none, errW_some] <;> rfl) | (simp [*, errW_none, errW_some] <;> rfl), by repeat (first | (with_reducible first | exact HB.out | apply below_alloc | apply pw_below_drewN | apply below_drew1) | exact HB.out)⟩
    · rw [if_neg c4] at H
      have c4b0 : (t110 == 1099511627776) = false := beq_eq_false_iff_ne.mpr c4
      have c4b1 : (t110 != 1099511627776) = true := bne_iff_ne.mpr c4
      obtain rfl := Option.some.inj H
      go_enter Try.func15, Try.ntmps15
      go_wp2_with (first | ((with_reducible refine gate_callee (f := 17) rfl ?_); refine goesL_ (some 1) rfl rfl Try.func17 (by kernel_rfl) rfl #[.int .i64 7] rfl (by (try simp only [List.map_toArray, List.map_cons, List.map_nil]); first | done | rfl | (simp only [List.length_drop, List.length_take]; rfl)) ?_; (with_reducible refine (count_Hold.calls 7 t109 _ A1.out).mono ?_); rintro e w18 ⟨rfl, hb⟩; refine ⟨_, rfl, ?_⟩; have n0_ := Aside0.mk (below_step (by repeat (first | (with_reducible first | exact HB.out | apply below_alloc | apply pw_below_drewN | apply below_drew1) | exact HB.out)) hb); clear HB; have HB := n0_; clear n0_; (try clear hb); (try clear hb2); (try clear hk); (try clear hi)) | (go_at_call 19; (with_reducible refine (count_Up.calls 1099511627776 5 t110 _ A3.out).mono ?_); rintro e w19 ⟨rfl, hb⟩; have n0_ := Aside0.mk (below_step (by repeat (first | (with_reducible first | exact HB.out | apply below_alloc | apply pw_below_drewN | apply below_drew1) | exact HB.out)) hb); clear HB; have HB := n0_; clear n0_; (try clear hb); (try clear hb2); (try clear hk); (try clear hi)))
      go_ret
      exact ⟨by first | rfl | (simp [errW_none, errW_some] <;> rfl) | (simp [*, errW_none, errW_some] <;> rfl), by repeat (first | (with_reducible first | exact HB.out | apply below_alloc | apply pw_below_drewN | apply below_drew1) | exact HB.out)⟩
  · rw [if_neg c2] at H
    have c2b0 : (t109 == 7) = false := beq_eq_false_iff_ne.mpr c2
    have c2b1 : (t109 != 7) = true := bne_iff_ne.mpr c2
    obtain rfl := Option.some.inj H
    go_enter Try.func15, Try.ntmps15
    go_wp2_with (first | ((with_reducible refine gate_callee (f := 17) rfl ?_); refine goesL_ (some 1) rfl rfl Try.func17 (by kernel_rfl) rfl #[.int .i64 7] rfl (by (try simp only [List.map_toArray, List.map_cons, List.map_nil]); first | done | rfl | (simp only [List.length_drop, List.length_take]; rfl)) ?_; (with_reducible refine (count_Hold.calls 7 t109 _ A1.out).mono ?_); rintro e w20 ⟨rfl, hb⟩; refine ⟨_, rfl, ?_⟩; have n0_ := Aside0.mk (below_step (by repeat (first | (with_reducible first | exact HB.out | apply below_alloc | apply pw_below_drewN | apply below_drew1) | exact HB.out)) hb); clear HB; have HB := n0_; clear n0_; (try clear hb); (try clear hb2); (try clear hk); (try clear hi)))
    go_ret
    exact ⟨by first | rfl | (simp [errW_none, errW_some] <;> rfl) | (simp [*, errW_none, errW_some] <;> rfl), by repeat (first | (with_reducible first | exact HB.out | apply below_alloc | apply pw_below_drewN | apply below_drew1) | exact HB.out)⟩

/-! ### fuseboxlaw01_CountBack: function 4 -/
mutual
def fuseboxlaw01_CountBack.j0 : Nat → Int → Int → Int → Int → Int → Bool → Option (Bool)
  | 0, _, _, _, _, _, _ => none
  | k + 1, x0, x1, x5, x6, x7, x49 => if x49 = true then (some false) else (if x7 < 1099511627776 then ((count_Down.f x7 x1).bind fun t122 => (if t122 = x5 then ((count_Down.f x7 x0).bind fun t123 => (fuseboxlaw01_CountBack.j1 k x0 x1 x5 x6 (t123 != x6))) else (fuseboxlaw01_CountBack.j1 k x0 x1 x5 x6 true))) else (fuseboxlaw01_CountBack.j1 k x0 x1 x5 x6 false))
def fuseboxlaw01_CountBack.j1 : Nat → Int → Int → Int → Int → Bool → Option (Bool)
  | 0, _, _, _, _, _ => none
  | k + 1, x0, x1, x5, x6, x65 => if x65 = true then (some false) else ((count_Down.f x0 x0).bind fun t124 => (if t124 = 0 then ((count_Down.f x0 0).bind fun t125 => (if t125 = x5 then ((count_Down.f x0 x1).bind fun t126 => ((count_Up.f t126 x1).bind fun t127 => (some (t127 == (mx x5 x6))))) else (some false))) else (some false)))
end
def fuseboxlaw01_CountBack.f (k : Nat) (a0 : Int) (a1 : Int) : Option (Bool) := (fuseboxlaw01_awake.f k).bind fun t116 => (if t116 = true then ((count_Hold.f a0).bind fun t117 => ((count_Hold.f a1).bind fun t118 => ((count_Up.f a0 a1).bind fun t119 => (if t117 < 0 then (fuseboxlaw01_CountBack.j0 k a0 a1 t117 t118 t119 true) else (if t117 > 1099511627776 then (fuseboxlaw01_CountBack.j0 k a0 a1 t117 t118 t119 true) else ((count_Hold.f t117).bind fun t120 => (if t120 = t117 then ((count_Up.f a1 a0).bind fun t121 => (if t119 = t121 then (if t119 < t117 then (fuseboxlaw01_CountBack.j0 k a0 a1 t117 t118 t119 true) else (if t119 < t118 then (fuseboxlaw01_CountBack.j0 k a0 a1 t117 t118 t119 true) else (fuseboxlaw01_CountBack.j0 k a0 a1 t117 t118 t119 (decide (t119 > 1099511627776))))) else (fuseboxlaw01_CountBack.j0 k a0 a1 t117 t118 t119 true))) else (fuseboxlaw01_CountBack.j0 k a0 a1 t117 t118 t119 true)))))))) else (some false))
theorem fuseboxlaw01_CountBack.mono_l : ∀ k, (∀ y0 y1 y2 y3 y4 y5, LeO (fuseboxlaw01_CountBack.j0 k y0 y1 y2 y3 y4 y5) (fuseboxlaw01_CountBack.j0 (k + 1) y0 y1 y2 y3 y4 y5)) ∧ (∀ y0 y1 y2 y3 y4, LeO (fuseboxlaw01_CountBack.j1 k y0 y1 y2 y3 y4) (fuseboxlaw01_CountBack.j1 (k + 1) y0 y1 y2 y3 y4))
  | 0 => ⟨fun _ _ _ _ _ _ r h => by simp [fuseboxlaw01_CountBack.j0] at h, fun _ _ _ _ _ r h => by simp [fuseboxlaw01_CountBack.j1] at h⟩
  | k + 1 => by
    obtain ⟨ih0, ih1⟩ := fuseboxlaw01_CountBack.mono_l k
    refine ⟨?_, ?_⟩
    · intro y0 y1 y2 y3 y4 y5
      unfold fuseboxlaw01_CountBack.j0
      repeat' first
      | (with_reducible exact ih0 _ _ _ _ _ _)
      | (with_reducible exact ih1 _ _ _ _ _)
      | (with_reducible exact fuseboxlaw01_awake.mono _)
      | (with_reducible exact LeO.refl _)
      | (with_reducible exact LeO.none _)
      | (with_reducible refine LeO.ite ?_ ?_)
      | (with_reducible refine LeO.bind ?_ (fun _ => ?_))
      | exact ih0 _ _ _ _ _ _
      | exact ih1 _ _ _ _ _
      | exact fuseboxlaw01_awake.mono _
      | exact LeO.none _
      | refine LeO.ite ?_ ?_
      | refine LeO.bind ?_ (fun _ => ?_)
    · intro y0 y1 y2 y3 y4
      unfold fuseboxlaw01_CountBack.j1
      repeat' first
      | (with_reducible exact ih0 _ _ _ _ _ _)
      | (with_reducible exact ih1 _ _ _ _ _)
      | (with_reducible exact fuseboxlaw01_awake.mono _)
      | (with_reducible exact LeO.refl _)
      | (with_reducible exact LeO.none _)
      | (with_reducible refine LeO.ite ?_ ?_)
      | (with_reducible refine LeO.bind ?_ (fun _ => ?_))
      | exact ih0 _ _ _ _ _ _
      | exact ih1 _ _ _ _ _
      | exact fuseboxlaw01_awake.mono _
      | exact LeO.none _
      | refine LeO.ite ?_ ?_
      | refine LeO.bind ?_ (fun _ => ?_)
theorem fuseboxlaw01_CountBack.mono : ∀ a0 a1 k, LeO (fuseboxlaw01_CountBack.f k a0 a1) (fuseboxlaw01_CountBack.f (k + 1) a0 a1) := by
  intro a0 a1 k
  obtain ⟨ih0, ih1⟩ := fuseboxlaw01_CountBack.mono_l k
  unfold fuseboxlaw01_CountBack.f
  repeat' first
      | (with_reducible exact ih0 _ _ _ _ _ _)
      | (with_reducible exact ih1 _ _ _ _ _)
      | (with_reducible exact fuseboxlaw01_awake.mono _)
      | (with_reducible exact LeO.refl _)
      | (with_reducible exact LeO.none _)
      | (with_reducible refine LeO.ite ?_ ?_)
      | (with_reducible refine LeO.bind ?_ (fun _ => ?_))
      | exact ih0 _ _ _ _ _ _
      | exact ih1 _ _ _ _ _
      | exact fuseboxlaw01_awake.mono _
      | exact LeO.none _
      | refine LeO.ite ?_ ?_
      | refine LeO.bind ?_ (fun _ => ?_)
set_option maxHeartbeats 8000000 in
set_option maxRecDepth 100000 in
theorem fuseboxlaw01_CountBack.calls (k : Nat) (a0 : Int) (a1 : Int) (r : Bool) (w : World) (h : fuseboxlaw01_CountBack.f k a0 a1 = some r) :
    Calls Try.prog 4 #[.int .i64 a0, .int .i64 a1] w fun e w' => e = .returned (.bool r) ∧ Below w.heap.size w w' := by
  have HB := Aside0.mk (Below.refl w.heap.size w)
  have H : ((fuseboxlaw01_awake.f k).bind fun t116 => (if t116 = true then ((count_Hold.f a0).bind fun t117 => ((count_Hold.f a1).bind fun t118 => ((count_Up.f a0 a1).bind fun t119 => (if t117 < 0 then (fuseboxlaw01_CountBack.j0 k a0 a1 t117 t118 t119 true) else (if t117 > 1099511627776 then (fuseboxlaw01_CountBack.j0 k a0 a1 t117 t118 t119 true) else ((count_Hold.f t117).bind fun t120 => (if t120 = t117 then ((count_Up.f a1 a0).bind fun t121 => (if t119 = t121 then (if t119 < t117 then (fuseboxlaw01_CountBack.j0 k a0 a1 t117 t118 t119 true) else (if t119 < t118 then (fuseboxlaw01_CountBack.j0 k a0 a1 t117 t118 t119 true) else (fuseboxlaw01_CountBack.j0 k a0 a1 t117 t118 t119 (decide (t119 > 1099511627776))))) else (fuseboxlaw01_CountBack.j0 k a0 a1 t117 t118 t119 true))) else (fuseboxlaw01_CountBack.j0 k a0 a1 t117 t118 t119 true)))))))) else (some false))) = some r := h
  clear h
  replace H := Option.bind_eq_some_iff.mp H
  obtain ⟨t116, A30, H⟩ := H
  replace H : (if t116 = true then ((count_Hold.f a0).bind fun t117 => ((count_Hold.f a1).bind fun t118 => ((count_Up.f a0 a1).bind fun t119 => (if t117 < 0 then (fuseboxlaw01_CountBack.j0 k a0 a1 t117 t118 t119 true) else (if t117 > 1099511627776 then (fuseboxlaw01_CountBack.j0 k a0 a1 t117 t118 t119 true) else ((count_Hold.f t117).bind fun t120 => (if t120 = t117 then ((count_Up.f a1 a0).bind fun t121 => (if t119 = t121 then (if t119 < t117 then (fuseboxlaw01_CountBack.j0 k a0 a1 t117 t118 t119 true) else (if t119 < t118 then (fuseboxlaw01_CountBack.j0 k a0 a1 t117 t118 t119 true) else (fuseboxlaw01_CountBack.j0 k a0 a1 t117 t118 t119 (decide (t119 > 1099511627776))))) else (fuseboxlaw01_CountBack.j0 k a0 a1 t117 t118 t119 true))) else (fuseboxlaw01_CountBack.j0 k a0 a1 t117 t118 t119 true)))))))) else (some false)) = some r := H
  have A3 := Aside0.mk A30
  clear A30
  by_cases c4 : t116 = true
  · subst c4
    have H1 : ((count_Hold.f a0).bind fun t117 => ((count_Hold.f a1).bind fun t118 => ((count_Up.f a0 a1).bind fun t119 => (if t117 < 0 then (fuseboxlaw01_CountBack.j0 k a0 a1 t117 t118 t119 true) else (if t117 > 1099511627776 then (fuseboxlaw01_CountBack.j0 k a0 a1 t117 t118 t119 true) else ((count_Hold.f t117).bind fun t120 => (if t120 = t117 then ((count_Up.f a1 a0).bind fun t121 => (if t119 = t121 then (if t119 < t117 then (fuseboxlaw01_CountBack.j0 k a0 a1 t117 t118 t119 true) else (if t119 < t118 then (fuseboxlaw01_CountBack.j0 k a0 a1 t117 t118 t119 true) else (fuseboxlaw01_CountBack.j0 k a0 a1 t117 t118 t119 (decide (t119 > 1099511627776))))) else (fuseboxlaw01_CountBack.j0 k a0 a1 t117 t118 t119 true))) else (fuseboxlaw01_CountBack.j0 k a0 a1 t117 t118 t119 true)))))))) = some r := by rw [if_pos rfl] at H; exact H
    clear H
    have H := H1
    clear H1
    replace H := Option.bind_eq_some_iff.mp H
    obtain ⟨t117, A50, H⟩ := H
    replace H : ((count_Hold.f a1).bind fun t118 => ((count_Up.f a0 a1).bind fun t119 => (if t117 < 0 then (fuseboxlaw01_CountBack.j0 k a0 a1 t117 t118 t119 true) else (if t117 > 1099511627776 then (fuseboxlaw01_CountBack.j0 k a0 a1 t117 t118 t119 true) else ((count_Hold.f t117).bind fun t120 => (if t120 = t117 then ((count_Up.f a1 a0).bind fun t121 => (if t119 = t121 then (if t119 < t117 then (fuseboxlaw01_CountBack.j0 k a0 a1 t117 t118 t119 true) else (if t119 < t118 then (fuseboxlaw01_CountBack.j0 k a0 a1 t117 t118 t119 true) else (fuseboxlaw01_CountBack.j0 k a0 a1 t117 t118 t119 (decide (t119 > 1099511627776))))) else (fuseboxlaw01_CountBack.j0 k a0 a1 t117 t118 t119 true))) else (fuseboxlaw01_CountBack.j0 k a0 a1 t117 t118 t119 true))))))) = some r := H
    have A5 := Aside0.mk A50
    clear A50
    replace H := Option.bind_eq_some_iff.mp H
    obtain ⟨t118, A60, H⟩ := H
    replace H : ((count_Up.f a0 a1).bind fun t119 => (if t117 < 0 then (fuseboxlaw01_CountBack.j0 k a0 a1 t117 t118 t119 true) else (if t117 > 1099511627776 then (fuseboxlaw01_CountBack.j0 k a0 a1 t117 t118 t119 true) else ((count_Hold.f t117).bind fun t120 => (if t120 = t117 then ((count_Up.f a1 a0).bind fun t121 => (if t119 = t121 then (if t119 < t117 then (fuseboxlaw01_CountBack.j0 k a0 a1 t117 t118 t119 true) else (if t119 < t118 then (fuseboxlaw01_CountBack.j0 k a0 a1 t117 t118 t119 true) else (fuseboxlaw01_CountBack.j0 k a0 a1 t117 t118 t119 (decide (t119 > 1099511627776))))) else (fuseboxlaw01_CountBack.j0 k a0 a1 t117 t118 t119 true))) else (fuseboxlaw01_CountBack.j0 k a0 a1 t117 t118 t119 true)))))) = some r := H
    have A6 := Aside0.mk A60
    clear A60
    replace H := Option.bind_eq_some_iff.mp H
    obtain ⟨t119, A70, H⟩ := H
    replace H : (if t117 < 0 then (fuseboxlaw01_CountBack.j0 k a0 a1 t117 t118 t119 true) else (if t117 > 1099511627776 then (fuseboxlaw01_CountBack.j0 k a0 a1 t117 t118 t119 true) else ((count_Hold.f t117).bind fun t120 => (if t120 = t117 then ((count_Up.f a1 a0).bind fun t121 => (if t119 = t121 then (if t119 < t117 then (fuseboxlaw01_CountBack.j0 k a0 a1 t117 t118 t119 true) else (if t119 < t118 then (fuseboxlaw01_CountBack.j0 k a0 a1 t117 t118 t119 true) else (fuseboxlaw01_CountBack.j0 k a0 a1 t117 t118 t119 (decide (t119 > 1099511627776))))) else (fuseboxlaw01_CountBack.j0 k a0 a1 t117 t118 t119 true))) else (fuseboxlaw01_CountBack.j0 k a0 a1 t117 t118 t119 true))))) = some r := H
    have A7 := Aside0.mk A70
    clear A70
    have HC8 := Aside0.mk H
    clear H
    go_enter Try.func4, Try.ntmps4
    go_upto_region 5 with (first | ((with_reducible refine gate_callee (f := 15) rfl ?_); refine goesL_ (some 8) rfl rfl Try.func15 (by kernel_rfl) rfl #[] rfl (by (try simp only [List.map_toArray, List.map_cons, List.map_nil]); first | done | rfl | (simp only [List.length_drop, List.length_take]; rfl)) ?_; (with_reducible refine (fuseboxlaw01_awake.calls k  true _ A3.out).mono ?_); rintro e w9 ⟨rfl, hb⟩; refine ⟨_, rfl, ?_⟩; have n0_ := Aside0.mk (below_step (by repeat (first | (with_reducible first | exact HB.out | apply below_alloc | apply pw_below_drewN | apply below_drew1) | exact HB.out)) hb); clear HB; have HB := n0_; clear n0_; (try clear hb); (try clear hb2); (try clear hk); (try clear hi)) | ((with_reducible refine gate_callee (f := 17) rfl ?_); refine goesL_ (some 11) rfl rfl Try.func17 (by kernel_rfl) rfl #[.int .i64 a0] rfl (by (try simp only [List.map_toArray, List.map_cons, List.map_nil]); first | done | rfl | (simp only [List.length_drop, List.length_take]; rfl)) ?_; (with_reducible refine (count_Hold.calls a0 t117 _ A5.out).mono ?_); rintro e w10 ⟨rfl, hb⟩; refine ⟨_, rfl, ?_⟩; have n0_ := Aside0.mk (below_step (by repeat (first | (with_reducible first | exact HB.out | apply below_alloc | apply pw_below_drewN | apply below_drew1) | exact HB.out)) hb); clear HB; have HB := n0_; clear n0_; (try clear hb); (try clear hb2); (try clear hk); (try clear hi)) | ((with_reducible refine gate_callee (f := 17) rfl ?_); refine goesL_ (some 13) rfl rfl Try.func17 (by kernel_rfl) rfl #[.int .i64 a1] rfl (by (try simp only [List.map_toArray, List.map_cons, List.map_nil]); first | done | rfl | (simp only [List.length_drop, List.length_take]; rfl)) ?_; (with_reducible refine (count_Hold.calls a1 t118 _ A6.out).mono ?_); rintro e w11 ⟨rfl, hb⟩; refine ⟨_, rfl, ?_⟩; have n0_ := Aside0.mk (below_step (by repeat (first | (with_reducible first | exact HB.out | apply below_alloc | apply pw_below_drewN | apply below_drew1) | exact HB.out)) hb); clear HB; have HB := n0_; clear n0_; (try clear hb); (try clear hb2); (try clear hk); (try clear hi)) | ((with_reducible refine gate_callee (f := 19) rfl ?_); refine goesL_ (some 16) rfl rfl Try.func19 (by kernel_rfl) rfl #[.int .i64 a0, .int .i64 a1] rfl (by (try simp only [List.map_toArray, List.map_cons, List.map_nil]); first | done | rfl | (simp only [List.length_drop, List.length_take]; rfl)) ?_; (with_reducible refine (count_Up.calls a0 a1 t119 _ A7.out).mono ?_); rintro e w12 ⟨rfl, hb⟩; refine ⟨_, rfl, ?_⟩; have n0_ := Aside0.mk (below_step (by repeat (first | (with_reducible first | exact HB.out | apply below_alloc | apply pw_below_drewN | apply below_drew1) | exact HB.out)) hb); clear HB; have HB := n0_; clear n0_; (try clear hb); (try clear hb2); (try clear hk); (try clear hi)))
    (try simp only [Act.put, List.setIfInBounds_toArray, List.set_cons_zero, List.set_cons_succ])
    go_cut [49] (fun v49 wc => ∃ (kq : Nat) (x49_7 : Bool), v49 = .bool x49_7 ∧ Aside0 (fuseboxlaw01_CountBack.j0 kq a0 a1 t117 t118 t119 x49_7 = some r) ∧ Aside0 (kq ≤ k) ∧ Aside0 (Below w.heap.size w wc))
    case first =>
      have H := HC8.out
      clear HC8
      by_cases c13 : t117 < 0
      · rw [if_pos c13] at H
        have c13b0 : decide (t117 < 0) = true := decide_eq_true c13
        clear c13
        (first | rw [c13b0] | (simp only [i64_w, i32_w]; rw [c13b0]) | skip)
        have H' := Aside0.mk H
        clear H
        go_wp2
        go_meet
        case rel => exact ⟨_, (true), (by first | rfl | (simp; done) | (simp [*]; done)), H', ⟨by first | omega | exact Nat.le_refl _⟩, ⟨by repeat (first | (with_reducible first | exact HB.out | apply below_alloc | apply pw_below_drewN | apply below_drew1) | exact HB.out)⟩⟩
      · rw [if_neg c13] at H
        have c13b0 : decide (t117 < 0) = false := decide_eq_false c13
        clear c13
        (first | rw [c13b0] | (simp only [i64_w, i32_w]; rw [c13b0]) | skip)
        by_cases c14 : t117 > 1099511627776
        · rw [if_pos c14] at H
          have c14b0 : decide (1099511627776 < t117) = true := decide_eq_true c14
          clear c14
          have H' := Aside0.mk H
          clear H
          go_wp2
          go_meet
          case rel => exact ⟨_, (true), (by first | rfl | (simp; done) | (simp [*]; done)), H', ⟨by first | omega | exact Nat.le_refl _⟩, ⟨by repeat (first | (with_reducible first | exact HB.out | apply below_alloc | apply pw_below_drewN | apply below_drew1) | exact HB.out)⟩⟩
        · rw [if_neg c14] at H
          have c14b0 : decide (1099511627776 < t117) = false := decide_eq_false c14
          clear c14
          replace H := Option.bind_eq_some_iff.mp H
          obtain ⟨t120, A150, H⟩ := H
          replace H : (if t120 = t117 then ((count_Up.f a1 a0).bind fun t121 => (if t119 = t121 then (if t119 < t117 then (fuseboxlaw01_CountBack.j0 k a0 a1 t117 t118 t119 true) else (if t119 < t118 then (fuseboxlaw01_CountBack.j0 k a0 a1 t117 t118 t119 true) else (fuseboxlaw01_CountBack.j0 k a0 a1 t117 t118 t119 (decide (t119 > 1099511627776))))) else (fuseboxlaw01_CountBack.j0 k a0 a1 t117 t118 t119 true))) else (fuseboxlaw01_CountBack.j0 k a0 a1 t117 t118 t119 true)) = some r := H
          have A15 := Aside0.mk A150
          clear A150
          by_cases c16 : t120 = t117
          · rw [if_pos c16] at H
            have c16b0 : (t120 == t117) = true := beq_iff_eq.mpr c16
            have c16b1 : (t120 != t117) = false := bne_eq_false_iff_eq.mpr c16
            clear c16
            replace H := Option.bind_eq_some_iff.mp H
            obtain ⟨t121, A170, H⟩ := H
            replace H : (if t119 = t121 then (if t119 < t117 then (fuseboxlaw01_CountBack.j0 k a0 a1 t117 t118 t119 true) else (if t119 < t118 then (fuseboxlaw01_CountBack.j0 k a0 a1 t117 t118 t119 true) else (fuseboxlaw01_CountBack.j0 k a0 a1 t117 t118 t119 (decide (t119 > 1099511627776))))) else (fuseboxlaw01_CountBack.j0 k a0 a1 t117 t118 t119 true)) = some r := H
            have A17 := Aside0.mk A170
            clear A170
            by_cases c18 : t119 = t121
            · rw [if_pos c18] at H
              have c18b0 : (t119 == t121) = true := beq_iff_eq.mpr c18
              have c18b1 : (t119 != t121) = false := bne_eq_false_iff_eq.mpr c18
              clear c18
              by_cases c19 : t119 < t117
              · rw [if_pos c19] at H
                have c19b0 : decide (t119 < t117) = true := decide_eq_true c19
                clear c19
                have H' := Aside0.mk H
                clear H
                go_wp2_with (first | (go_at_call 17; (with_reducible refine (count_Hold.calls t117 t120 _ A15.out).mono ?_); rintro e w20 ⟨rfl, hb⟩; have n0_ := Aside0.mk (below_step (by repeat (first | (with_reducible first | exact HB.out | apply below_alloc | apply pw_below_drewN | apply below_drew1) | exact HB.out)) hb); clear HB; have HB := n0_; clear n0_; (try clear hb); (try clear hb2); (try clear hk); (try clear hi)) | (go_at_call 19; (with_reducible refine (count_Up.calls a1 a0 t121 _ A17.out).mono ?_); rintro e w21 ⟨rfl, hb⟩; have n0_ := Aside0.mk (below_step (by repeat (first | (with_reducible first | exact HB.out | apply below_alloc | apply pw_below_drewN | apply below_drew1) | exact HB.out)) hb); clear HB; have HB := n0_; clear n0_; (try clear hb); (try clear hb2); (try clear hk); (try clear hi)))
                go_meet
                case rel => exact ⟨_, (true), (by first | rfl | (simp; done) | (simp [*]; done)), H', ⟨by first | omega | exact Nat.le_refl _⟩, ⟨by repeat (first | (with_reducible first | exact HB.out | apply below_alloc | apply pw_below_drewN | apply below_drew1) | exact HB.out)⟩⟩
              · rw [if_neg c19] at H
                have c19b0 : decide (t119 < t117) = false := decide_eq_false c19
                clear c19
                by_cases c22 : t119 < t118
                · rw [if_pos c22] at H
                  have c22b0 : decide (t119 < t118) = true := decide_eq_true c22
                  clear c22
                  have H' := Aside0.mk H
                  clear H
                  go_wp2_with (first | (go_at_call 17; (with_reducible refine (count_Hold.calls t117 t120 _ A15.out).mono ?_); rintro e w23 ⟨rfl, hb⟩; have n0_ := Aside0.mk (below_step (by repeat (first | (with_reducible first | exact HB.out | apply below_alloc | apply pw_below_drewN | apply below_drew1) | exact HB.out)) hb); clear HB; have HB := n0_; clear n0_; (try clear hb); (try clear hb2); (try clear hk); (try clear hi)) | (go_at_call 19; (with_reducible refine (count_Up.calls a1 a0 t121 _ A17.out).mono ?_); rintro e w24 ⟨rfl, hb⟩; have n0_ := Aside0.mk (below_step (by repeat (first | (with_reducible first | exact HB.out | apply below_alloc | apply pw_below_drewN | apply below_drew1) | exact HB.out)) hb); clear HB; have HB := n0_; clear n0_; (try clear hb); (try clear hb2); (try clear hk); (try clear hi)))
                  go_meet
                  case rel => exact ⟨_, (true), (by first | rfl | (simp; done) | (simp [*]; done)), H', ⟨by first | omega | exact Nat.le_refl _⟩, ⟨by repeat (first | (with_reducible first | exact HB.out | apply below_alloc | apply pw_below_drewN | apply below_drew1) | exact HB.out)⟩⟩
                · rw [if_neg c22] at H
                  have c22b0 : decide (t119 < t118) = false := decide_eq_false c22
                  clear c22
                  have H' := Aside0.mk H
                  clear H
                  go_wp2_with (first | (go_at_call 17; (with_reducible refine (count_Hold.calls t117 t120 _ A15.out).mono ?_); rintro e w25 ⟨rfl, hb⟩; have n0_ := Aside0.mk (below_step (by repeat (first | (with_reducible first | exact HB.out | apply below_alloc | apply pw_below_drewN | apply below_drew1) | exact HB.out)) hb); clear HB; have HB := n0_; clear n0_; (try clear hb); (try clear hb2); (try clear hk); (try clear hi)) | (go_at_call 19; (with_reducible refine (count_Up.calls a1 a0 t121 _ A17.out).mono ?_); rintro e w26 ⟨rfl, hb⟩; have n0_ := Aside0.mk (below_step (by repeat (first | (with_reducible first | exact HB.out | apply below_alloc | apply pw_below_drewN | apply below_drew1) | exact HB.out)) hb); clear HB; have HB := n0_; clear n0_; (try clear hb); (try clear hb2); (try clear hk); (try clear hi)))
                  go_meet
                  case rel => exact ⟨_, (decide (t119 > 1099511627776)), (by first | rfl | (simp; done) | (simp [*]; done)), H', ⟨by first | omega | exact Nat.le_refl _⟩, ⟨by repeat (first | (with_reducible first | exact HB.out | apply below_alloc | apply pw_below_drewN | apply below_drew1) | exact HB.out)⟩⟩
            · rw [if_neg c18] at H
              have c18b0 : (t119 == t121) = false := beq_eq_false_iff_ne.mpr c18
              have c18b1 : (t119 != t121) = true := bne_iff_ne.mpr c18
              have H' := Aside0.mk H
              clear H
              go_wp2_with (first | (go_at_call 17; (with_reducible refine (count_Hold.calls t117 t120 _ A15.out).mono ?_); rintro e w27 ⟨rfl, hb⟩; have n0_ := Aside0.mk (below_step (by repeat (first | (with_reducible first | exact HB.out | apply below_alloc | apply pw_below_drewN | apply below_drew1) | exact HB.out)) hb); clear HB; have HB := n0_; clear n0_; (try clear hb); (try clear hb2); (try clear hk); (try clear hi)) | (go_at_call 19; (with_reducible refine (count_Up.calls a1 a0 t121 _ A17.out).mono ?_); rintro e w28 ⟨rfl, hb⟩; have n0_ := Aside0.mk (below_step (by repeat (first | (with_reducible first | exact HB.out | apply below_alloc | apply pw_below_drewN | apply below_drew1) | exact HB.out)) hb); clear HB; have HB := n0_; clear n0_; (try clear hb); (try clear hb2); (try clear hk); (try clear hi)))
              go_meet
              case rel => exact ⟨_, (true), (by first | rfl | (simp; done) | (simp [*]; done)), H', ⟨by first | omega | exact Nat.le_refl _⟩, ⟨by repeat (first | (with_reducible first | exact HB.out | apply below_alloc | apply pw_below_drewN | apply below_drew1) | exact HB.out)⟩⟩
          · rw [if_neg c16] at H
            have c16b0 : (t120 == t117) = false := beq_eq_false_iff_ne.mpr c16
            have c16b1 : (t120 != t117) = true := bne_iff_ne.mpr c16
            have H' := Aside0.mk H
            clear H
            go_wp2_with (first | (go_at_call 17; (with_reducible refine (count_Hold.calls t117 t120 _ A15.out).mono ?_); rintro e w29 ⟨rfl, hb⟩; have n0_ := Aside0.mk (below_step (by repeat (first | (with_reducible first | exact HB.out | apply below_alloc | apply pw_below_drewN | apply below_drew1) | exact HB.out)) hb); clear HB; have HB := n0_; clear n0_; (try clear hb); (try clear hb2); (try clear hk); (try clear hi)))
            go_meet
            case rel => exact ⟨_, (true), (by first | rfl | (simp; done) | (simp [*]; done)), H', ⟨by first | omega | exact Nat.le_refl _⟩, ⟨by repeat (first | (with_reducible first | exact HB.out | apply below_alloc | apply pw_below_drewN | apply below_drew1) | exact HB.out)⟩⟩
    case rest =>
      clear HC8
      try clear c1
      try clear c2
      try clear p2
      try clear c4
      try clear c13
      try clear c13b0
      try clear c14
      try clear c14b0
      try clear c15
      try clear c16
      try clear c16b0
      try clear c16b1
      try clear c17
      try clear c18
      try clear c18b0
      try clear c18b1
      try clear c19
      try clear c19b0
      try clear c22
      try clear c22b0
      obtain ⟨kq, x49_7, rfl, HA, HJ7, HB⟩ := hcut
      cases kq with
      | zero => exact absurd HA.out (by simp [fuseboxlaw01_CountBack.j0])
      | succ kj7 =>
        have H := HA.out
        clear HA
        simp only [fuseboxlaw01_CountBack.j0] at H
        by_cases c30 : x49_7 = true
        · subst c30
          have H1 : (some false) = some r := by rw [if_pos rfl] at H; exact H
          clear H
          have H := H1
          clear H1
          obtain rfl := Option.some.inj H
          go_wp2
          go_ret
          exact ⟨by first | rfl | (simp [errW_none, errW_some] <;> rfl) | (simp [*, errW_none, errW_some] <;> rfl), by repeat (first | (with_reducible first | exact HB.out | apply below_alloc | apply pw_below_drewN | apply below_drew1) | exact HB.out)⟩
        · replace c30 := Bool.eq_false_iff.mpr c30
          subst c30
          have H1 : (if t119 < 1099511627776 then ((count_Down.f t119 a1).bind fun t122 => (if t122 = t117 then ((count_Down.f t119 a0).bind fun t123 => (fuseboxlaw01_CountBack.j1 kj7 a0 a1 t117 t118 (t123 != t118))) else (fuseboxlaw01_CountBack.j1 kj7 a0 a1 t117 t118 true))) else (fuseboxlaw01_CountBack.j1 kj7 a0 a1 t117 t118 false)) = some r := by rw [if_neg (show ¬ (false = true) by decide)] at H; exact H
          clear H
          have H := H1
          clear H1
          have HC31 := Aside0.mk H
          clear H
          go_upto_region 7 with (fail)
          go_cut [65] (fun v65 wc => ∃ (kq : Nat) (x65_30 : Bool), v65 = .bool x65_30 ∧ Aside0 (fuseboxlaw01_CountBack.j1 kq a0 a1 t117 t118 x65_30 = some r) ∧ Aside0 (kq ≤ kj7) ∧ Aside0 (Below w.heap.size w wc))
          case first =>
            have H := HC31.out
            clear HC31
            by_cases c32 : t119 < 1099511627776
            · rw [if_pos c32] at H
              have c32b0 : decide (t119 < 1099511627776) = true := decide_eq_true c32
              clear c32
              (first | rw [c32b0] | (simp only [i64_w, i32_w]; rw [c32b0]) | skip)
              replace H := Option.bind_eq_some_iff.mp H
              obtain ⟨t122, A330, H⟩ := H
              replace H : (if t122 = t117 then ((count_Down.f t119 a0).bind fun t123 => (fuseboxlaw01_CountBack.j1 kj7 a0 a1 t117 t118 (t123 != t118))) else (fuseboxlaw01_CountBack.j1 kj7 a0 a1 t117 t118 true)) = some r := H
              have A33 := Aside0.mk A330
              clear A330
              by_cases c34 : t122 = t117
              · rw [if_pos c34] at H
                have c34b0 : (t122 == t117) = true := beq_iff_eq.mpr c34
                have c34b1 : (t122 != t117) = false := bne_eq_false_iff_eq.mpr c34
                clear c34
                replace H := Option.bind_eq_some_iff.mp H
                obtain ⟨t123, A350, H⟩ := H
                replace H : (fuseboxlaw01_CountBack.j1 kj7 a0 a1 t117 t118 (t123 != t118)) = some r := H
                have A35 := Aside0.mk A350
                clear A350
                have H' := Aside0.mk H
                clear H
                go_wp2_with (first | (go_at_call 20; (with_reducible refine (count_Down.calls t119 a1 t122 _ A33.out).mono ?_); rintro e w36 ⟨rfl, hb⟩; have n0_ := Aside0.mk (below_step (by repeat (first | (with_reducible first | exact HB.out | apply below_alloc | apply pw_below_drewN | apply below_drew1) | exact HB.out)) hb); clear HB; have HB := n0_; clear n0_; (try clear hb); (try clear hb2); (try clear hk); (try clear hi)) | (go_at_call 20; (with_reducible refine (count_Down.calls t119 a0 t123 _ A35.out).mono ?_); rintro e w37 ⟨rfl, hb⟩; have n0_ := Aside0.mk (below_step (by repeat (first | (with_reducible first | exact HB.out | apply below_alloc | apply pw_below_drewN | apply below_drew1) | exact HB.out)) hb); clear HB; have HB := n0_; clear n0_; (try clear hb); (try clear hb2); (try clear hk); (try clear hi)))
                go_meet
                case rel => exact ⟨_, ((t123 != t118)), (by first | rfl | (simp; done) | (simp [*]; done)), H', ⟨by have := HJ7.out; first | omega | exact Nat.le_refl _⟩, ⟨by repeat (first | (with_reducible first | exact HB.out | apply below_alloc | apply pw_below_drewN | apply below_drew1) | exact HB.out)⟩⟩
              · rw [if_neg c34] at H
                have c34b0 : (t122 == t117) = false := beq_eq_false_iff_ne.mpr c34
                have c34b1 : (t122 != t117) = true := bne_iff_ne.mpr c34
                have H' := Aside0.mk H
                clear H
                go_wp2_with (first | (go_at_call 20; (with_reducible refine (count_Down.calls t119 a1 t122 _ A33.out).mono ?_); rintro e w38 ⟨rfl, hb⟩; have n0_ := Aside0.mk (below_step (by repeat (first | (with_reducible first | exact HB.out | apply below_alloc | apply pw_below_drewN | apply below_drew1) | exact HB.out)) hb); clear HB; have HB := n0_; clear n0_; (try clear hb); (try clear hb2); (try clear hk); (try clear hi)))
                go_meet
                case rel => exact ⟨_, (true), (by first | rfl | (simp; done) | (simp [*]; done)), H', ⟨by have := HJ7.out; first | omega | exact Nat.le_refl _⟩, ⟨by repeat (first | (with_reducible first | exact HB.out | apply below_alloc | apply pw_below_drewN | apply below_drew1) | exact HB.out)⟩⟩
            · rw [if_neg c32] at H
              have c32b0 : decide (t119 < 1099511627776) = false := decide_eq_false c32
              clear c32
              (first | rw [c32b0] | (simp only [i64_w, i32_w]; rw [c32b0]) | skip)
              have H' := Aside0.mk H
              clear H
              go_wp2
              go_meet
              case rel => exact ⟨_, (false), (by first | rfl | (simp; done) | (simp [*]; done)), H', ⟨by have := HJ7.out; first | omega | exact Nat.le_refl _⟩, ⟨by repeat (first | (with_reducible first | exact HB.out | apply below_alloc | apply pw_below_drewN | apply below_drew1) | exact HB.out)⟩⟩
          case rest =>
            clear HC31
            try clear c1
            try clear c2
            try clear p2
            try clear c3
            try clear c4
            try clear c13
            try clear c13b0
            try clear c14
            try clear c14b0
            try clear c15
            try clear c16
            try clear c16b0
            try clear c16b1
            try clear c17
            try clear c18
            try clear c18b0
            try clear c18b1
            try clear c19
            try clear c19b0
            try clear c22
            try clear c22b0
            try clear c30
            try clear c32
            try clear c32b0
            try clear c34
            try clear c34b0
            try clear c34b1
            try clear p2
            obtain ⟨kq, x65_30, rfl, HA, HJ30, HB⟩ := hcut
            cases kq with
            | zero => exact absurd HA.out (by simp [fuseboxlaw01_CountBack.j1])
            | succ kj30 =>
              have H := HA.out
              clear HA
              simp only [fuseboxlaw01_CountBack.j1] at H
              by_cases c39 : x65_30 = true
              · subst c39
                have H1 : (some false) = some r := by rw [if_pos rfl] at H; exact H
                clear H
                have H := H1
                clear H1
                obtain rfl := Option.some.inj H
                go_wp2
                go_ret
                exact ⟨by first | rfl | (simp [errW_none, errW_some] <;> rfl) | (simp [*, errW_none, errW_some] <;> rfl), by repeat (first | (with_reducible first | exact HB.out | apply below_alloc | apply pw_below_drewN | apply below_drew1) | exact HB.out)⟩
              · replace c39 := Bool.eq_false_iff.mpr c39
                subst c39
                have H1 : ((count_Down.f a0 a0).bind fun t124 => (if t124 = 0 then ((count_Down.f a0 0).bind fun t125 => (if t125 = t117 then ((count_Down.f a0 a1).bind fun t126 => ((count_Up.f t126 a1).bind fun t127 => (some (t127 == (mx t117 t118))))) else (some false))) else (some false))) = some r := by rw [if_neg (show ¬ (false = true) by decide)] at H; exact H
                clear H
                have H := H1
                clear H1
                replace H := Option.bind_eq_some_iff.mp H
                obtain ⟨t124, A400, H⟩ := H
                replace H : (if t124 = 0 then ((count_Down.f a0 0).bind fun t125 => (if t125 = t117 then ((count_Down.f a0 a1).bind fun t126 => ((count_Up.f t126 a1).bind fun t127 => (some (t127 == (mx t117 t118))))) else (some false))) else (some false)) = some r := H
                have A40 := Aside0.mk A400
                clear A400
                by_cases c41 : t124 = 0
                · rw [if_pos c41] at H
                  have c41b0 : (t124 == 0) = true := beq_iff_eq.mpr c41
                  have c41b1 : (t124 != 0) = false := bne_eq_false_iff_eq.mpr c41
                  clear c41
                  replace H := Option.bind_eq_some_iff.mp H
                  obtain ⟨t125, A420, H⟩ := H
                  replace H : (if t125 = t117 then ((count_Down.f a0 a1).bind fun t126 => ((count_Up.f t126 a1).bind fun t127 => (some (t127 == (mx t117 t118))))) else (some false)) = some r := H
                  have A42 := Aside0.mk A420
                  clear A420
                  by_cases c43 : t125 = t117
                  · rw [if_pos c43] at H
                    have c43b0 : (t125 == t117) = true := beq_iff_eq.mpr c43
                    have c43b1 : (t125 != t117) = false := bne_eq_false_iff_eq.mpr c43
                    clear c43
                    replace H := Option.bind_eq_some_iff.mp H
                    obtain ⟨t126, A440, H⟩ := H
                    replace H : ((count_Up.f t126 a1).bind fun t127 => (some (t127 == (mx t117 t118)))) = some r := H
                    have A44 := Aside0.mk A440
                    clear A440
                    replace H := Option.bind_eq_some_iff.mp H
                    obtain ⟨t127, A450, H⟩ := H
                    replace H : (some (t127 == (mx t117 t118))) = some r := H
                    have A45 := Aside0.mk A450
                    clear A450
                    obtain ⟨ji46, hji46⟩ : ∃ j_ : Int, (mx t117 t118) = j_ := ⟨_, rfl⟩
                    replace H : (some (t127 == (ji46))) = some r := by first | (rw [hji46] at H; exact H) | (simp only [hji46] at H ⊢; exact H)
                    (try rw [hji46] at A40)
                    (try rw [hji46] at A42)
                    (try rw [hji46] at A44)
                    (try rw [hji46] at A45)
                    have hji46_ : (if t117 < t118 then t118 else t117) = ji46 := hji46
                    obtain rfl := Option.some.inj H
                    go_wp2_with (first | ((with_reducible refine gate_callee (f := 20) rfl ?_); refine goesL_ (some 68) rfl rfl Try.func20 (by kernel_rfl) rfl #[.int .i64 a0, .int .i64 a0] rfl (by (try simp only [List.map_toArray, List.map_cons, List.map_nil]); first | done | rfl | (simp only [List.length_drop, List.length_take]; rfl)) ?_; (with_reducible refine (count_Down.calls a0 a0 t124 _ A40.out).mono ?_); rintro e w47 ⟨rfl, hb⟩; refine ⟨_, rfl, ?_⟩; have n0_ := Aside0.mk (below_step (by repeat (first | (with_reducible first | exact HB.out | apply below_alloc | apply pw_below_drewN | apply below_drew1) | exact HB.out)) hb); clear HB; have HB := n0_; clear n0_; (try clear hb); (try clear hb2); (try clear hk); (try clear hi)) | (go_at_call 20; (with_reducible refine (count_Down.calls a0 0 t125 _ A42.out).mono ?_); rintro e w48 ⟨rfl, hb⟩; have n0_ := Aside0.mk (below_step (by repeat (first | (with_reducible first | exact HB.out | apply below_alloc | apply pw_below_drewN | apply below_drew1) | exact HB.out)) hb); clear HB; have HB := n0_; clear n0_; (try clear hb); (try clear hb2); (try clear hk); (try clear hi)) | (go_at_call 20; (with_reducible refine (count_Down.calls a0 a1 t126 _ A44.out).mono ?_); rintro e w49 ⟨rfl, hb⟩; have n0_ := Aside0.mk (below_step (by repeat (first | (with_reducible first | exact HB.out | apply below_alloc | apply pw_below_drewN | apply below_drew1) | exact HB.out)) hb); clear HB; have HB := n0_; clear n0_; (try clear hb); (try clear hb2); (try clear hk); (try clear hi)) | (go_at_call 19; (with_reducible refine (count_Up.calls t126 a1 t127 _ A45.out).mono ?_); rintro e w50 ⟨rfl, hb⟩; have n0_ := Aside0.mk (below_step (by repeat (first | (with_reducible first | exact HB.out | apply below_alloc | apply pw_below_drewN | apply below_drew1) | exact HB.out)) hb); clear HB; have HB := n0_; clear n0_; (try clear hb); (try clear hb2); (try clear hk); (try clear hi)))
                    go_ret
                    exact ⟨by first | rfl | (simp [errW_none, errW_some] <;> rfl) | (simp only [← hji46]; first | rfl | (simp [errW_none, errW_some] <;> rfl)) | (simp [*, errW_none, errW_some] <;> rfl), by repeat (first | (with_reducible first | exact HB.out | apply below_alloc | apply pw_below_drewN | apply below_drew1) | exact HB.out)⟩
                  · rw [if_neg c43] at H
                    have c43b0 : (t125 == t117) = false := beq_eq_false_iff_ne.mpr c43
                    have c43b1 : (t125 != t117) = true := bne_iff_ne.mpr c43
                    obtain rfl := Option.some.inj H
                    go_wp2_with (first | ((with_reducible refine gate_callee (f := 20) rfl ?_); refine goesL_ (some 68) rfl rfl Try.func20 (by kernel_rfl) rfl #[.int .i64 a0, .int .i64 a0] rfl (by (try simp only [List.map_toArray, List.map_cons, List.map_nil]); first | done | rfl | (simp only [List.length_drop, List.length_take]; rfl)) ?_; (with_reducible refine (count_Down.calls a0 a0 t124 _ A40.out).mono ?_); rintro e w51 ⟨rfl, hb⟩; refine ⟨_, rfl, ?_⟩; have n0_ := Aside0.mk (below_step (by repeat (first | (with_reducible first | exact HB.out | apply below_alloc | apply pw_below_drewN | apply below_drew1) | exact HB.out)) hb); clear HB; have HB := n0_; clear n0_; (try clear hb); (try clear hb2); (try clear hk); (try clear hi)) | (go_at_call 20; (with_reducible refine (count_Down.calls a0 0 t125 _ A42.out).mono ?_); rintro e w52 ⟨rfl, hb⟩; have n0_ := Aside0.mk (below_step (by repeat (first | (with_reducible first | exact HB.out | apply below_alloc | apply pw_below_drewN | apply below_drew1) | exact HB.out)) hb); clear HB; have HB := n0_; clear n0_; (try clear hb); (try clear hb2); (try clear hk); (try clear hi)))
                    go_ret
                    exact ⟨by first | rfl | (simp [errW_none, errW_some] <;> rfl) | (simp [*, errW_none, errW_some] <;> rfl), by repeat (first | (with_reducible first | exact HB.out | apply below_alloc | apply pw_below_drewN | apply below_drew1) | exact HB.out)⟩
                · rw [if_neg c41] at H
                  have c41b0 : (t124 == 0) = false := beq_eq_false_iff_ne.mpr c41
                  have c41b1 : (t124 != 0) = true := bne_iff_ne.mpr c41
                  obtain rfl := Option.some.inj H
                  go_wp2_with (first | ((with_reducible refine gate_callee (f := 20) rfl ?_); refine goesL_ (some 68) rfl rfl Try.func20 (by kernel_rfl) rfl #[.int .i64 a0, .int .i64 a0] rfl (by (try simp only [List.map_toArray, List.map_cons, List.map_nil]); first | done | rfl | (simp only [List.length_drop, List.length_take]; rfl)) ?_; (with_reducible refine (count_Down.calls a0 a0 t124 _ A40.out).mono ?_); rintro e w53 ⟨rfl, hb⟩; refine ⟨_, rfl, ?_⟩; have n0_ := Aside0.mk (below_step (by repeat (first | (with_reducible first | exact HB.out | apply below_alloc | apply pw_below_drewN | apply below_drew1) | exact HB.out)) hb); clear HB; have HB := n0_; clear n0_; (try clear hb); (try clear hb2); (try clear hk); (try clear hi)))
                  go_ret
                  exact ⟨by first | rfl | (simp [errW_none, errW_some] <;> rfl) | (simp [*, errW_none, errW_some] <;> rfl), by repeat (first | (with_reducible first | exact HB.out | apply below_alloc | apply pw_below_drewN | apply below_drew1) | exact HB.out)⟩
  · replace c4 := Bool.eq_false_iff.mpr c4
    subst c4
    have H1 : (some false) = some r := by rw [if_neg (show ¬ (false = true) by decide)] at H; exact H
    clear H
    have H := H1
    clear H1
    obtain rfl := Option.some.inj H
    go_enter Try.func4, Try.ntmps4
    go_wp2_with (first | ((with_reducible refine gate_callee (f := 15) rfl ?_); refine goesL_ (some 8) rfl rfl Try.func15 (by kernel_rfl) rfl #[] rfl (by (try simp only [List.map_toArray, List.map_cons, List.map_nil]); first | done | rfl | (simp only [List.length_drop, List.length_take]; rfl)) ?_; (with_reducible refine (fuseboxlaw01_awake.calls k  false _ A3.out).mono ?_); rintro e w54 ⟨rfl, hb⟩; refine ⟨_, rfl, ?_⟩; have n0_ := Aside0.mk (below_step (by repeat (first | (with_reducible first | exact HB.out | apply below_alloc | apply pw_below_drewN | apply below_drew1) | exact HB.out)) hb); clear HB; have HB := n0_; clear n0_; (try clear hb); (try clear hb2); (try clear hk); (try clear hi)))
    go_ret
    exact ⟨by first | rfl | (simp [errW_none, errW_some] <;> rfl) | (simp [*, errW_none, errW_some] <;> rfl), by repeat (first | (with_reducible first | exact HB.out | apply below_alloc | apply pw_below_drewN | apply below_drew1) | exact HB.out)⟩

/-- THE ONE PURE STATEMENT of fuseboxlaw01_CountBack: yours. -/
def fuseboxlaw01_CountBack.Pure : Prop := ∀ (a0 : Int) (a1 : Int), (Lit.int .i64 a0).wf = true → (Lit.int .i64 a1).wf = true → ∃ k, fuseboxlaw01_CountBack.f k a0 a1 = some true
theorem fuseboxlaw01_CountBack.walk (P : fuseboxlaw01_CountBack.Pure) (a0 : Int) (a1 : Int) (w : World) (w0 : (Lit.int .i64 a0).wf = true) (w1 : (Lit.int .i64 a1).wf = true) :
    Calls Try.prog 4 #[.int .i64 a0, .int .i64 a1] w fun e w' => e = .returned (.bool true) ∧ Below w.heap.size w w' := by
  obtain ⟨k, h⟩ := P a0 a1 w0 w1
  refine (fuseboxlaw01_CountBack.calls k a0 a1 true w h).mono ?_
  rintro e w' ⟨rfl, hd⟩
  exact ⟨rfl, hd⟩

end Go.Proofs.Ytaodejfbmnoelaa.PCountBack
