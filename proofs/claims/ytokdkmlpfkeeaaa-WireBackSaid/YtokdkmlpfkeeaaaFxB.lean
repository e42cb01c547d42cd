/- Bytes and bits: whole numbers of few bits as natural numbers, texts out of bytes. -/
import Derived.Test.YtokdkmlpfkeeaaaFxU
set_option linter.unusedVariables false
set_option linter.unusedSimpArgs false
namespace Go.Fx

/-! ### Whole numbers without a sign -/
theorem wU {k : IntKind} (h : k.signed = false) (n : Nat) : IntKind.wrap k (n : Int) = ((n % 2 ^ k.bits : Nat) : Int) := by
  unfold IntKind.wrap
  simp [h]
theorem w32 (n : Nat) : IntKind.wrap .u32 (n : Int) = ((n % 4294967296 : Nat) : Int) := wU rfl n
theorem w8 (n : Nat) : IntKind.wrap .u8 (n : Int) = ((n % 256 : Nat) : Int) := wU rfl n
theorem w16 (n : Nat) : IntKind.wrap .u16 (n : Int) = ((n % 65536 : Nat) : Int) := wU rfl n
theorem wu64 (n : Nat) : IntKind.wrap .u64 (n : Int) = ((n % 18446744073709551616 : Nat) : Int) := wU rfl n
theorem bvN (w : Nat) (a : Nat) : BitVec.ofInt w (a : Int) = BitVec.ofNat w a := by
  apply BitVec.eq_of_toNat_eq
  rw [BitVec.toNat_ofInt, BitVec.toNat_ofNat]
  omega
theorem bvXor (w a b : Nat) (ha : a < 2 ^ w) (hb : b < 2 ^ w) : (BitVec.ofInt w (a : Int) ^^^ BitVec.ofInt w (b : Int)).toNat = Nat.xor a b := by
  rw [bvN, bvN, BitVec.toNat_xor, BitVec.toNat_ofNat, BitVec.toNat_ofNat, Nat.mod_eq_of_lt ha, Nat.mod_eq_of_lt hb]; rfl
theorem bvOr (w a b : Nat) (ha : a < 2 ^ w) (hb : b < 2 ^ w) : (BitVec.ofInt w (a : Int) ||| BitVec.ofInt w (b : Int)).toNat = a ||| b := by
  rw [bvN, bvN, BitVec.toNat_or, BitVec.toNat_ofNat, BitVec.toNat_ofNat, Nat.mod_eq_of_lt ha, Nat.mod_eq_of_lt hb]
theorem bvAnd (w a b : Nat) (ha : a < 2 ^ w) (hb : b < 2 ^ w) : (BitVec.ofInt w (a : Int) &&& BitVec.ofInt w (b : Int)).toNat = a &&& b := by
  rw [bvN, bvN, BitVec.toNat_and, BitVec.toNat_ofNat, BitVec.toNat_ofNat, Nat.mod_eq_of_lt ha, Nat.mod_eq_of_lt hb]
theorem fdivN (a k : Nat) : Int.fdiv (a : Int) (k : Int) = ((a / k : Nat) : Int) := by
  rw [Int.fdiv_eq_ediv_of_nonneg _ (by omega)]; omega
theorem tdivN (a k : Nat) : Int.tdiv (a : Int) (k : Int) = ((a / k : Nat) : Int) := by
  rw [Int.tdiv_eq_ediv_of_nonneg (by omega)]; omega
theorem tmodN (a k : Nat) : Int.tmod (a : Int) (k : Int) = ((a % k : Nat) : Int) := by
  rw [Int.tmod_eq_emod_of_nonneg (by omega)]; omega
theorem xor_lt {a b : Nat} (n : Nat) (ha : a < 2 ^ n) (hb : b < 2 ^ n) : Nat.xor a b < 2 ^ n := Nat.xor_lt_two_pow ha hb

/-! ### Bytes -/
/-- The byte in a cell. -/
def byN (f : Nat → List PV) (i : Nat) : Nat := match f i with
  | [.v (.int _ n)] => n.toNat % 256
  | _ => 0
theorem byN_lt (f : Nat → List PV) (i : Nat) : byN f i < 256 := by
  unfold byN; split
  · exact Nat.mod_lt _ (by decide)
  · decide
abbrev Bs (l : Nat → Nat) : Nat → List PV := fun i => [.v (.int .u8 (l i : Int))]
/-- These are bytes. -/
def BOk (n : Nat) (f : Nat → List PV) : Prop := ∀ i, i < n → f i = Bs (byN f) i
theorem byN_Bs (l : Nat → Nat) (i : Nat) (h : l i < 256) : byN (Bs l) i = l i := by
  unfold byN Bs; simp; exact h
theorem BOk.bs {l : Nat → Nat} (n : Nat) (h : ∀ i, i < n → l i < 256) : BOk n (Bs l) := fun i hi => by
  show [_] = [_]; rw [byN_Bs l i (h i hi)]
theorem BOk.of {n : Nat} {f : Nat → List PV} (h : ∀ i, i < n → ∃ m : Nat, m < 256 ∧ f i = [.v (.int .u8 (m : Int))]) : BOk n f := fun i hi => by
  obtain ⟨m, h1, h2⟩ := h i hi
  have : byN f i = m := by unfold byN; rw [h2]; simp; exact h1
  rw [h2]; show [_] = [_]; rw [this]
theorem BOk.cell {n : Nat} {f : Nat → List PV} (h : BOk n f) {i : Nat} (hi : i < n) : f i = [.v (.int .u8 (byN f i : Int))] := h i hi
theorem BOk.cat {n m : Nat} {f g : Nat → List PV} (hf : BOk n f) (hg : BOk m g) : BOk (n + m) (catF n f g) := BOk.of fun i hi => by
  unfold catF
  by_cases h : i < n
  · rw [if_pos h]; exact ⟨_, byN_lt _ _, hf i h⟩
  · rw [if_neg h]; exact ⟨_, byN_lt _ _, hg _ (by omega)⟩
theorem BOk.cat' {n m k : Nat} {f g : Nat → List PV} (hf : BOk n f) (hg : BOk m g) (hk : k = n + m) : BOk k (catF n f g) := hk ▸ hf.cat hg
theorem BOk.part {n k m : Nat} {f : Nat → List PV} (hf : BOk n f) (h : m + k ≤ n) : BOk m (fun i => f (i + k)) := BOk.of fun i hi => ⟨_, byN_lt _ _, hf (i + k) (by omega)⟩
theorem BOk.le {n m : Nat} {f : Nat → List PV} (hf : BOk n f) (h : m ≤ n) : BOk m f := fun i hi => hf i (by omega)
theorem BOk.lit (xs : List (List PV)) (h : ∀ i, i < xs.length → ∃ m : Nat, m < 256 ∧ xs.getD i [] = [.v (.int .u8 (m : Int))]) : BOk xs.length (litF xs) := BOk.of fun i hi => h i hi
theorem byN_cat (n : Nat) (f g : Nat → List PV) (i : Nat) : byN (catF n f g) i = if i < n then byN f i else byN g (i - n) := by
  unfold byN catF
  by_cases h : i < n
  · simp [h]
  · simp [h]
theorem BOk.str (s : ByteArray) : BOk s.size (strF s) := BOk.of fun i hi => ⟨(s.data.getD i 0).toNat, UInt8.toNat_lt _, rfl⟩
theorem BOk.set {n : Nat} {f : Nat → List PV} (hf : BOk n f) (i m : Nat) (h : m < 256) : BOk n (setF f i [.v (.int .u8 (m : Int))]) := BOk.of fun j hj => by
  unfold setF
  by_cases e : j = i
  · rw [if_pos e]; exact ⟨m, h, rfl⟩
  · rw [if_neg e]; exact ⟨_, byN_lt _ _, hf j hj⟩
theorem byteOf_bs {n : Nat} {f : Nat → List PV} (hf : BOk n f) {i : Nat} (hi : i < n) : byteOf (f i) = some (UInt8.ofNat (byN f i)) := by
  have hb := byN_lt f i
  rw [hf i hi]
  simp only [byteOf]
  rw [if_pos (by omega)]
  simp
theorem BOk.ok {n : Nat} {f : Nat → List PV} (hf : BOk n f) : bytesOk n f = true := by
  unfold bytesOk
  rw [List.all_eq_true]
  intro i hi
  rw [byteOf_bs hf (by simpa using hi)]; rfl
theorem textOf_size (n : Nat) (f : Nat → List PV) : (textOf n f).size = n := by
  unfold textOf; simp [ByteArray.size]
theorem textOf_get {n : Nat} {f : Nat → List PV} (hf : BOk n f) {i : Nat} (hi : i < n) : (textOf n f).data.getD i 0 = UInt8.ofNat (byN f i) := by
  unfold textOf
  simp only [Array.getD_eq_getD_getElem?, List.getElem?_toArray, List.getElem?_map, List.getElem?_range hi, Option.map_some, Option.getD_some]
  rw [byteOf_bs hf hi]; rfl
/-- Two texts are the same just if their bytes are. -/
theorem textOf_eq {n m : Nat} {f g : Nat → List PV} (hf : BOk n f) (hg : BOk m g) : textOf n f = textOf m g ↔ n = m ∧ ∀ i, i < n → byN f i = byN g i := by
  constructor
  · intro h
    have hs : n = m := by rw [← textOf_size n f, h, textOf_size]
    subst hs
    refine ⟨rfl, fun i hi => ?_⟩
    have h1 := textOf_get hf hi
    rw [h, textOf_get hg hi] at h1
    have h2 := congrArg UInt8.toNat h1
    simp at h2
    have := byN_lt f i
    have := byN_lt g i
    omega
  · rintro ⟨rfl, h⟩
    unfold textOf
    congr 2
    apply List.map_congr_left
    intro i hi
    have hi : i < n := by simpa using hi
    rw [byteOf_bs hf hi, byteOf_bs hg hi, h i hi]
theorem textOf_beq {n m : Nat} {f g : Nat → List PV} (hf : BOk n f) (hg : BOk m g) : (textOf n f == textOf m g) = decide (n = m ∧ ∀ i, i < n → byN f i = byN g i) := by
  rw [Bool.eq_iff_iff, ba_eq, textOf_eq hf hg, decide_eq_true_iff]
theorem textOf_str (s : ByteArray) : textOf s.size (strF s) = s := by
  have h : ∀ i, i < s.size → (byteOf (strF s i)).getD 0 = s.data.getD i 0 := fun i hi => by
    rw [byteOf_bs (BOk.str s) hi]
    simp only [Option.getD_some]
    unfold byN strF byteAt
    have := UInt8.toNat_lt (s.data.getD i 0)
    simp only [Int.toNat_natCast]
    rw [Nat.mod_eq_of_lt (by simpa using this)]
    simp
  cases s with
  | mk a =>
    unfold textOf
    congr 1
    apply Array.ext
    · simp [ByteArray.size]
    · intro i h1 h2
      have hi : i < (⟨a⟩ : ByteArray).size := h2
      simp only [List.getElem_toArray, List.getElem_map, List.getElem_range]
      rw [h i hi]
      simp [Array.getD_eq_getD_getElem?, h2]
/-! ### Texts as lists -/
theorem toList_loop_eq (bs : ByteArray) : ∀ (k i : Nat) (r : List UInt8), i + k = bs.size → ByteArray.toList.loop bs i r = r.reverse ++ (bs.data.toList.drop i)
  | 0, i, r, h => by
    unfold ByteArray.toList.loop
    rw [if_neg (by omega)]
    rw [List.drop_of_length_le (by have : bs.data.toList.length = bs.size := rfl; omega)]
    simp
  | k + 1, i, r, h => by
    unfold ByteArray.toList.loop
    rw [if_pos (by omega), toList_loop_eq bs k (i + 1) _ (by omega)]
    have hl : i < bs.data.toList.length := by have : bs.data.toList.length = bs.size := rfl; omega
    rw [List.drop_eq_getElem_cons hl]
    have : bs.get! i = bs.data.toList[i] := by
      cases bs with
      | mk a =>
        show a[i]! = a.toList[i]
        rw [getElem!_pos a i (by simpa using hl)]; simp
    simp [this]
theorem ba_toList (bs : ByteArray) : bs.toList = bs.data.toList := by
  unfold ByteArray.toList
  rw [toList_loop_eq bs bs.size 0 [] (by omega)]; simp
theorem toList_inj {a b : ByteArray} : a.toList = b.toList ↔ a = b := by
  rw [ba_toList, ba_toList]
  constructor
  · intro h
    cases a; cases b
    simp at h
    rw [h]
  · rintro rfl; rfl
theorem toList_beq (a b : ByteArray) : (a.toList == b.toList) = decide (a = b) := by
  rw [Bool.eq_iff_iff, beq_iff_eq, toList_inj, decide_eq_true_iff]
theorem toList_text {n m : Nat} {f g : Nat → List PV} (hf : BOk n f) (hg : BOk m g) : ((textOf n f).toList == (textOf m g).toList) = decide (n = m ∧ ∀ i, i < n → byN f i = byN g i) := by
  rw [toList_beq, decide_eq_decide, textOf_eq hf hg]
/-! ### Objects that are the same as far as they go -/
inductive OLe : Ob → Ob → Prop
  | refl (o : Ob) : OLe o o
  | row {e n m : Nat} {f g : Nat → List PV} {live : Bool} (hn : n = m) (h : ∀ i, i < n → f i = g i) : OLe (.row e n f live) (.row e m g live)
  | box {cs ds : List CV} {live : Bool} (h : CLes cs ds) : OLe (.box cs live) (.box ds live)
inductive HLe : Hp → Hp → Prop
  | nil : HLe [] []
  | cons {o o' : Ob} {h h' : Hp} (k : OLe o o') (l : HLe h h') : HLe (o :: h) (o' :: h')
theorem HLe.refl : ∀ h : Hp, HLe h h
  | [] => .nil
  | _ :: h => .cons (.refl _) (HLe.refl h)
theorem HLe.len {h h' : Hp} (k : HLe h h') : h.length = h'.length := by induction k with | nil => rfl | cons a b ih => simp [ih]
theorem HLe.get {h h' : Hp} (k : HLe h h') : ∀ (l : Nat) (o' : Ob), h'[l]? = some o' → ∃ o, h[l]? = some o ∧ OLe o o' := by
  induction k with
  | nil => intro l o' h; simp at h
  | cons a b ih =>
    intro l o' h
    cases l with
    | zero => simp at h; subst h; exact ⟨_, rfl, a⟩
    | succ l => exact ih l o' (by simpa using h)
theorem OLe.alive {o o' : Ob} (k : OLe o o') : o.alive = o'.alive := by cases k <;> rfl
theorem OLe.at' {P : Program} {M : Mem} {φ : Phi} {w : World} {l : Nat} {o o' : Ob} (k : OLe o o') (h : ObjAt P M φ w l o) : ObjAt P M φ w l o' := by
  cases k with
  | refl => exact h
  | row hn hf =>
    subst hn
    cases h with
    | row v sz cells hφ hsz h0 ho hl hr hlive hfr =>
      exact .row v sz cells hφ hsz h0 ho (fun i hi => by rw [← hf i hi]; exact hl i hi) (fun i j u x hi hu hx => hr i j u x hi hu (by rw [hf i hi]; exact hx)) hlive hfr
  | box hc =>
    cases h with
    | box b vs e hφ hh hr hlive hfr =>
      refine .box b vs e hφ hh ⟨hr.1.trans hc.len, fun j v y hv hy => ?_⟩ hlive hfr
      rename_i cs ds _
      have hj : j < cs.length := by rw [hc.len]; exact (List.getElem?_eq_some_iff.1 hy).1
      exact hc.get j _ y (List.getElem?_eq_getElem hj) hy _ _ _ (hr.2 j v _ hv (List.getElem?_eq_getElem hj))
theorem Rel.hle {P : Program} {S : Nat → Prop} {w0 : World} {M0 M : Mem} {φ : Phi} {h h' : Hp} {w : World} (hR : Rel P S w0 M0 M φ h w) (k : HLe h h') : Rel P S w0 M0 M φ h' w where
  mem := hR.mem
  agr := hR.agr
  obj := fun l o ho => let ⟨_, h1, h2⟩ := k.get l o ho; h2.at' (hR.obj l _ h1)
  sep := fun l l' o o' x x' b h1 h2 h3 h4 => by
    obtain ⟨q, h5, h6⟩ := k.get l o h1
    obtain ⟨q', h7, h8⟩ := k.get l' o' h2
    exact hR.sep l l' q q' x x' b h5 h7 (h6.alive.trans h3) (h8.alive.trans h4)
  own := fun l o x b h1 h3 => by
    obtain ⟨q, h5, h6⟩ := k.get l o h1
    exact hR.own l q x b h5 (h6.alive.trans h3)
  dom := fun l x hx => by rw [← k.len]; exact hR.dom l x hx
  os := hR.os
  tape := hR.tape
  output := hR.output
  size := hR.size
  old := hR.old
  new := hR.new
  eqs := hR.eqs
theorem Weak.mkh {e : Ex} {xs ys : List AV} {h h' : Hp} (k : ALes xs ys) (l : HLe h h') : Weak ⟨e, xs, h⟩ ⟨e, ys, h'⟩ := ⟨rfl, l.len, fun hR => hR.hle l, k.len, fun h1 h2 hv => k.get _ _ _ h1 h2 _ _ _ hv⟩
theorem ALes.refl : ∀ l : List AV, ALes l l
  | [] => .nil
  | _ :: l => .cons (ALe.refl _) (ALes.refl l)
theorem CLes.refl : ∀ l : List CV, CLes l l
  | [] => .nil
  | _ :: l => .cons (CLe.refl _) (CLes.refl l)
/-- A loop that begins with things that say more. -/
theorem QOk.lp {P : Program} {C : Cfg} {f m : Nat} {p : List Nat} {vals vals' : List AV} {h h' : Hp} {a : Ans} (hq : QOk P C (.loop f m p vals h) a) (k : ALes vals' vals) (hh : HLe h' h) : QOk P C (.loop f m p vals' h') a := by
  obtain ⟨fn, c, b, h1, h2, h3, h4⟩ := hq
  exact ⟨fn, c, b, h1, h2, h3, fun S w0 M0 M φ w act hR hT hm => h4 S w0 M0 M φ w act (hR.hle hh) ⟨hT.size, fun j => (Weak.mk' (e := .ret) (h := []) k).keep _ j (hT.val j), hT.defers⟩ (by rw [← hh.len]; exact hm)⟩
/-- A weaker answer. -/
theorem QOk.weak {P : Program} {C : Cfg} {q : Qry} {a b : Ans} (hq : QOk P C q a) (k : Weak a b) : QOk P C q b := by
  cases q with
  | call f args h =>
    intro vs w M φ hR hV
    rcases hq vs w M φ hR hV with ⟨h1, h2⟩ | ⟨v, w', h1, h2⟩
    · exact .inl ⟨h1, h2.mono fun e w' hc => hc.weak k⟩
    · exact .inr ⟨v, w', h1, h2.weak k⟩
  | loop f m p vals h =>
    obtain ⟨fn, c, b', h1, h2, h3, h4⟩ := hq
    exact ⟨fn, c, b', h1, h2, h3, fun S w0 M0 M φ w act hR hT hm => (h4 S w0 M0 M φ w act hR hT hm).mono fun e a w hl => hl.weak k⟩
/-- A row that is told another way. -/
theorem QOk.row {P : Program} {C : Cfg} {q : Qry} {e n m : Nat} {f g : Nat → List PV} (hq : QOk P C q ⟨.ret, [.c (.os 0)], [.row e n f true]⟩) (hn : n = m) (h : ∀ i, i < n → f i = g i) : QOk P C q ⟨.ret, [.c (.os 0)], [.row e m g true]⟩ :=
  hq.weak (Weak.mkh (.cons (ALe.refl _) .nil) (.cons (.row hn h) .nil))
theorem QOk.slice {P : Program} {C : Cfg} {q : Qry} {n m : Nat} {f g : Nat → List PV} (hq : QOk P C q ⟨.ret, [Sl n f], []⟩) (hn : n = m) (h : ∀ i, i < n → f i = g i) : QOk P C q ⟨.ret, [Sl m g], []⟩ := by
  subst hn
  exact hq.weak (Weak.mkh (.cons (ALe.sl h) .nil) .nil)
theorem ALe.bok {n : Nat} {f : Nat → List PV} (h : BOk n f) : ALe (Sl n f) (Sl n (Bs (byN f))) := ALe.sl h
/-- The empty slice, however it is told. -/
theorem ALe.nil (g : Nat → List PV) : ALe (.c .nils) (.c .nils) := ALe.refl _
end Go.Fx
