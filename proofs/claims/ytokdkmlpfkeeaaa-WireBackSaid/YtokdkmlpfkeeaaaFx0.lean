/- A small interpreter over plain data, beside the model's own: its definitions. (That the model does what it answers is proved in the texts behind this one.) -/
import Derived.Calls
import Derived.WalkKit
set_option linter.unusedVariables false
namespace Go.Fx

/-- A value of one cell in which no address of the call's own stands. A slice: how many elements, and each one's cells. -/
inductive PV where
  | v (x : Value)
  | sl (n : Nat) (f : Nat → List PV)
  | ifc (t : TypeId) (x : PV)
  | ifa (t : TypeId) (cs : List PV)

/-- A value of one cell: names of objects (l) stand for memory of the call's own. -/
inductive CV where
  | p (x : PV)
  | nils
  | ptr (l off : Nat)
  | ep (l i off : Nat)
  | os (l : Nat)
  | bs (l off sz n : Nat)
  | ip (cs : List PV)
  | fn (f : FuncId) (caps : List CV)
  | itp (l : Nat)
  | mp (l : Nat)

inductive AV where
  | c (x : CV)
  | agg (cs : List CV)
  | tup (vs : List AV)
  | top

/-- Option α object: a variable, a row of plain data that may grow, a row of other things, an iterator over a string. -/
inductive Ob where
  | box (cs : List CV) (live : Bool)
  | row (e : TypeId) (n : Nat) (f : Nat → List PV) (live : Bool)
  | rrow (xs : List (List CV))
  | iter (s : ByteArray) (pos : Nat)
  | smap (t : TypeId) (g : ByteArray → Int) (n : Nat)
  | dead

abbrev Hp := List Ob
abbrev Tm := Nat → AV
abbrev Dl := List (Nat × Ob)

inductive Ex where
  | normal | exit (id : Nat) | ret | pan (x : PV)

inductive Qry where
  | call (f : FuncId) (args : List AV) (h : Hp)
  | loop (f m : Nat) (path : List Nat) (vals : List AV) (h : Hp)

structure Ans where
  e : Ex
  vals : List AV
  h : Hp

/-- Who is asked. -/
abbrev Orc (α : Type) := Qry → (Ans → Option α) → Option α
abbrev KV (α : Type) := AV → Dl → Option α
abbrev KT (α : Type) := Ex → Tm → Hp → Option α
section
variable {α : Type}

/-- What must hold here. -/
def chk (c : Prop) [Decidable c] (x : Option α) : Option α := if c then x else none
/-- Two ways. -/
def br (q : Bool) (x y : Option α) : Option α := match q with | true => x | false => y

def upd (t : Tm) (d : Nat) (x : AV) : Tm := fun j => match Nat.beq j d with
  | true => x
  | false => t j
theorem upd_eq (t : Tm) (d : Nat) (x : AV) (j : Nat) : upd t d x j = if j = d then x else t j := by
  unfold upd
  by_cases h : j = d
  · subst h; rw [Nat.beq_refl, if_pos rfl]
  · rw [if_neg h]
    have : Nat.beq j d = false := by
      cases hb : Nat.beq j d with
      | false => rfl
      | true => exact absurd (Nat.eq_of_beq_eq_true hb) h
    rw [this]
def upd? (t : Tm) (d : Option Nat) (x : AV) : Tm := match d with
  | some d => upd t d x
  | none => t

/-! ### Values -/
def scalar : Value → Bool
  | .bool _ | .int _ _ | .float _ _ | .complex _ _ _ | .string _ | .pointer none | .nilFunc | .nilIface | .map none => true
  | .func (.func _) fs cs => fs.isEmpty && cs.isEmpty
  | _ => false

/-- A constant's cell. -/
def absC : Value → Option CV
  | .slice none 0 0 => some .nils
  | x => if scalar x then some (.p (.v x)) else none

def absCs : List Value → Option (List CV)
  | [] => some []
  | x :: l => match absC x, absCs l with
    | some c, some r => some (c :: r)
    | _, _ => none

def absV : Value → AV
  | .agg cs => match absCs cs.toList with | some l => .agg l | none => .top
  | x => match absC x with | some c => .c c | none => .top

def ev (t : Tm) : Operand → AV
  | .tmp j => t j
  | .const v => absV v
  | .func f => .c (.p (.v (.func (.func f) #[] #[])))
  | .global _ => .top

def cellsOf : AV → Option (List CV)
  | .c x => some [x]
  | .agg cs => some cs
  | _ => none

def pures : List CV → Option (List PV)
  | [] => some []
  | .p x :: l => match pures l with
    | some r => some (x :: r)
    | none => none
  | _ :: _ => none

def scals : List CV → Option (List Value)
  | [] => some []
  | .p (.v x) :: l => match scals l with
    | some r => some (x :: r)
    | none => none
  | _ :: _ => none

/-- The concrete value of one that has scalars only. -/
def conc : AV → Option Value
  | .c (.p (.v x)) => some x
  | .agg cs => match scals cs with
    | some l => some (.agg l.toArray)
    | none => none
  | _ => none
def concs : List AV → Option (List Value)
  | [] => some []
  | x :: l => match conc x, concs l with
    | some c, some r => some (c :: r)
    | _, _ => none

/-- What a computation answers that asks neither the memory nor the tape. -/
def pureOf {β : Type} (P : Program) : Sem β → Option β
  | .pure a => some a
  | .program k => pureOf P (k P)
  | _ => none

def szOf (P : Program) (t : TypeId) : Option Nat := match P.info? t with | some i => some i.size | none => none
def aggTy (P : Program) (t : TypeId) : Option Bool := match P.underlying t with | some (.struct _) => some true | some (.array _ _) => some true | some _ => some false | none => none
def zeroCs (P : Program) (t : TypeId) : Option (List CV) := match P.info? t with
  | some i => match i.zero with
    | some z => absCs z.cells.toList
    | none => none
  | none => none

/-- A value out of cells, by its type. -/
def mkV (P : Program) (t : TypeId) (cs : List CV) (k : AV → Option α) : Option α :=
  match aggTy P t, szOf P t with
  | some true, some n => if cs.length = n then k (.agg cs) else none
  | some false, some 1 => match cs with | [x] => k (.c x) | _ => none
  | _, _ => none

def placeAt {β : Type} (zs : List β) (off : Nat) (cs : List β) : List β := zs.take off ++ cs ++ zs.drop (off + cs.length)

/-- Cells from off on, n of them. -/
def seg {β : Type} (cs : List β) (off n : Nat) : List β := (cs.drop off).take n

def byteAt (s : ByteArray) (i : Nat) : Int := ((s.data.getD i 0).toNat : Int)
def strF (s : ByteArray) : Nat → List PV := fun i => [.v (.int .u8 (byteAt s i))]
def byteOf : List PV → Option UInt8
  | [.v (.int .u8 n)] => if 0 ≤ n ∧ n < 256 then some (UInt8.ofNat n.toNat) else none
  | _ => none
/-- The text of a row of bytes. -/
def textOf (n : Nat) (f : Nat → List PV) : ByteArray := ⟨((List.range n).map fun i => (byteOf (f i)).getD 0).toArray⟩
def bytesOk (n : Nat) (f : Nat → List PV) : Bool := (List.range n).all fun i => (byteOf (f i)).isSome

def catF (n : Nat) (f g : Nat → List PV) : Nat → List PV := fun i => if i < n then f i else g (i - n)
def setF (f : Nat → List PV) (i : Nat) (x : List PV) : Nat → List PV := fun j => if j = i then x else f j

/-! ### Reading and writing -/
/-- Cells that are whole numbers of one kind. -/
def selInt (k : IntKind) : List CV → Option (List Int)
  | [] => some []
  | .p (.v (.int k' n)) :: l => match decide (k' = k), selInt k l with
    | true, some r => some (n :: r)
    | _, _ => none
  | _ => none
def bigInts (P : Program) (n : Nat) (e : TypeId) (cs : List CV) : Option (IntKind × List Int) := match Nat.blt 16 n, P.underlying e with
  | true, some (.int k) => match selInt k cs with
    | some l => some (k, l)
    | none => none
  | _, _ => none
def loadAV (P : Program) (h : Hp) (t : TypeId) (a : AV) (k : AV → Option α) : Option α :=
  match a with
  | .c (.ptr l off) => match h[l]?, szOf P t with
    | some (.box cs _), some n => match bigInts P cs.length t cs with
      | some (kd, xs) => if n = 1 then chk (off < xs.length) (k (.c (.p (.v (.int kd (xs.getD off 0)))))) else none
      | none => chk (off + n ≤ cs.length) (mkV P t (seg cs off n) k)
    | _, _ => none
  | .c (.ep l i off) => match h[l]?, szOf P t with
    | some (.row _ n f _), some sz => chk (i < n) (if off + sz ≤ (f i).length then mkV P t (seg ((f i).map CV.p) off sz) k else none)
    | some (.rrow xs), some sz => match xs[i]? with
      | some cs => if off + sz ≤ cs.length then mkV P t (seg cs off sz) k else none
      | none => none
    | _, _ => none
  | .c (.ip cs) => match szOf P t with
    | some n => if n ≤ cs.length then mkV P t (seg (cs.map CV.p) 0 n) k else none
    | none => none
  | _ => none

def isCells (x : AV) : Option (List CV) := cellsOf x

def storeAV (P : Program) (h : Hp) (t : TypeId) (a x : AV) (k : KV α) : Option α :=
  match cellsOf x, szOf P t with
  | some cs, some n => if cs.length = n then
      match a with
      | .c (.ptr l off) => match h[l]? with
        | some (.box ds true) => chk (off + n ≤ ds.length) (k (.tup []) [(l, .box (placeAt ds off cs) true)])
        | _ => none
      | .c (.ep l i off) => match h[l]?, pures cs with
        | some (.row e m f true), some ps => chk (i < m) (if off + n ≤ (f i).length then k (.tup []) [(l, .row e m (setF f i (placeAt (f i) off ps)) true)] else none)
        | _, _ => none
      | _ => none
    else none
  | _, _ => none

def fillCs (place : Nat → Option (Nat × Nat)) (zs : List CV) : List (Nat × AV) → Option (List CV)
  | [] => some zs
  | (i, x) :: r => match place i, cellsOf x with
    | some (off, n), some cs => if cs.length = n ∧ off + n ≤ zs.length then fillCs place (placeAt zs off cs) r else none
    | _, _ => none

def reps {β : Type} : Nat → List β → List β
  | 0, _ => []
  | k + 1, z => z ++ reps k z

def fieldPlaces (P : Program) (fields : Array Field) (i : Nat) : Option (Nat × Nat) := match fields[i]? with
  | some f => match szOf P f.type with
    | some n => some (f.offset, n)
    | none => none
  | none => none

/-- Are all fields' sizes known? -/
def fieldsOk (P : Program) (fields : Array Field) : Bool := fields.toList.all fun f => (szOf P f.type).isSome

def buildAV (P : Program) (t : TypeId) (parts : List (Nat × AV)) : Option AV :=
  match zeroCs P t, P.underlying t with
  | some zs, some (.struct fields) => match fieldsOk P fields, fillCs (fieldPlaces P fields) zs parts with
    | true, some cs => some (.agg cs)
    | _, _ => none
  | some zs, some (.array _ e) => match szOf P e with
    | some n => match fillCs (fun i => some (i * n, n)) zs parts with
      | some cs => some (.agg cs)
      | none => none
    | none => none
  | _, _ => none

def chunks {β : Type} (n : Nat) : Nat → List β → List (List β)
  | 0, _ => []
  | k + 1, l => l.take n :: chunks n k (l.drop n)
def rowOf : List (List CV) → Option (List (List PV))
  | [] => some []
  | x :: l => match pures x, rowOf l with
    | some c, some r => some (c :: r)
    | _, _ => none
def litF (xs : List (List PV)) : Nat → List PV := fun i => xs.getD i []

def buildRow (P : Program) (b : Nat) (t : TypeId) (len : Nat) (parts : List (Nat × AV)) (k : KV α) : Option α :=
  match P.underlying t with
  | some (.slice e) => match szOf P e, (if len = 0 then some [] else zeroCs P e) with
    | some n, some zs => if len * n ≤ 2 ^ 24 ∧ 0 < n ∧ (len = 0 ∨ zs.length = n) then
        match fillCs (fun i => some (i * n, n)) (reps len zs) parts with
        | some cs => match rowOf (chunks n len cs) with
          | some xs => k (.c (.os b)) [(b, .row e len (litF xs) true)]
          | none => k (.c (.os b)) [(b, .rrow (chunks n len cs))]
        | none => none
      else none
    | _, _ => none
  | _ => none

def CV.isStr : CV → Bool
  | .p (.v (.string _)) => true
  | _ => false

/-- A slice's elements, if they are plain data. -/
def elems (h : Hp) : CV → Option (Nat × (Nat → List PV))
  | .nils => some (0, fun _ => [])
  | .p (.sl n f) => some (n, f)
  | .os l => match h[l]? with
    | some (.row _ n f _) => some (n, f)
    | _ => none
  | .bs l off sz n => match h[l]? with
    | some (.box cs _) => if off + n * sz ≤ cs.length then match rowOf (chunks sz n (cs.drop off)) with
        | some xs => some (n, litF xs)
        | none => none
      else none
    | _ => none
  | .p (.v (.string s)) => some (s.size, strF s)
  | _ => none

def lenOf (h : Hp) : CV → Option Nat
  | .nils => some 0
  | .p (.sl n _) => some n
  | .os l => match h[l]? with
    | some (.row _ n _ _) => some n
    | some (.rrow xs) => some xs.length
    | _ => none
  | .bs _ _ _ n => some n
  | _ => none

def intOf? : AV → Option Int
  | .c (.p (.v (.int _ n))) => some n
  | _ => none

/-- What must be frozen for a slice to be plain data. -/
def frozenBy (h : Hp) : CV → Dl
  | .os l => match h[l]? with
    | some (.row e n f true) => [(l, .row e n f false)]
    | _ => []
  | .bs l _ _ _ => match h[l]? with
    | some (.box cs true) => [(l, .box cs false)]
    | _ => []
  | _ => []

def boundOf? (d : Int) : Option AV → Option Int
  | none => some d
  | some x => intOf? x

def sliceAV (P : Program) (h : Hp) (t : TypeId) (x : AV) (lo hi : Option AV) (k : KV α) : Option α :=
  match P.underlying t, x with
  | some .string, .c (.p (.v (.string s))) => match boundOf? 0 lo, boundOf? s.size hi with
    | some l, some r => chk (0 ≤ l ∧ l ≤ r ∧ r ≤ s.size) (k (.c (.p (.v (.string (s.extract l.toNat r.toNat))))) [])
    | _, _ => none
  | some (.slice e), .c s => if s.isStr then none else match elems h s with
    | some (n, f) => match boundOf? 0 lo, boundOf? n hi, szOf P e with
      | some l, some r, some sz => if (f 0).length = sz ∨ n = 0 then chk (0 ≤ l ∧ l ≤ r ∧ r ≤ n) (k (.c (.p (.sl (r.toNat - l.toNat) (fun i => f (i + l.toNat))))) (frozenBy h s)) else none
      | _, _, _ => none
    | none => none
  | some (.array n e), .c (.ptr l off) => match szOf P e, lo, hi with
    | some sz, none, none => k (.c (.bs l off sz n)) []
    | some sz, none, some hi => match intOf? hi with
      | some r => chk (0 ≤ r ∧ r ≤ n) (k (.c (.bs l off sz r.toNat)) [])
      | none => none
    | _, _, _ => none
  | _, _ => none

def indexAddrAV (P : Program) (h : Hp) (t : TypeId) (x i : AV) (k : KV α) : Option α :=
  match P.underlying t, x, intOf? i with
  | some (.array n e), .c (.ptr l off), some i => match szOf P e with
    | some sz => chk (0 ≤ i ∧ i < n) (k (.c (.ptr l (off + i.toNat * sz))) [])
    | none => none
  | some (.slice e), .c (.p (.sl n f)), some i => match szOf P e with
    | some sz => chk (0 ≤ i ∧ i < n) (if (f i.toNat).length = sz then k (.c (.ip (f i.toNat))) [] else none)
    | none => none
  | some (.slice e), .c (.os l), some i => match szOf P e, h[l]? with
    | some sz, some (.row e' n f _) => if e' = e then chk (0 ≤ i ∧ i < n) (k (.c (.ep l i.toNat 0)) []) else none
    | some sz, some (.rrow xs) => match xs with
      | x :: _ => if x.length = sz then chk (0 ≤ i ∧ i < xs.length) (k (.c (.ep l i.toNat 0)) []) else none
      | [] => none
    | _, _ => none
  | some (.slice e), .c (.bs l off sz n), some i => match szOf P e with
    | some sz' => chk (0 ≤ i ∧ i < n) (if sz' = sz then k (.c (.ptr l (off + i.toNat * sz))) [] else none)
    | none => none
  | _, _, _ => none

def indexAV (P : Program) (t : TypeId) (x i : AV) (k : KV α) : Option α :=
  match P.underlying t, x, intOf? i with
  | some (.array n e), .agg cs, some i => match bigInts P n e cs with
    | some (kd, l) => match szOf P e with
      | some 1 => chk (0 ≤ i ∧ i < n ∧ i.toNat < l.length) (k (.c (.p (.v (.int kd (l.getD i.toNat 0))))) [])
      | _ => none
    | none => match szOf P e with
    | some sz => chk (0 ≤ i ∧ i < n ∧ i.toNat * sz + sz ≤ cs.length) (mkV P e (seg cs (i.toNat * sz) sz) fun v => k v [])
    | none => none
  | some .string, .c (.p (.v (.string s))), some i => chk (0 ≤ i ∧ i < s.size) (k (.c (.p (.v (.int .u8 (byteAt s i.toNat))))) [])
  | _, _, _ => none

def fieldOff (P : Program) (s : TypeId) (f : Nat) : Option (Nat × TypeId) :=
  match P.underlying s with
  | some (.struct fields) => match fields[f]? with
    | some d => match szOf P d.type with
      | some 0 => none
      | some _ => some (d.offset, d.type)
      | none => none
    | none => none
  | _ => none

def fieldAddrAV (P : Program) (s : TypeId) (x : AV) (f : Nat) (k : KV α) : Option α :=
  match fieldOff P s f, x with
  | some (o, _), .c (.ptr l off) => k (.c (.ptr l (off + o))) []
  | some (o, _), .c (.ep l i off) => k (.c (.ep l i (off + o))) []
  | some (o, _), .c (.ip cs) => k (.c (.ip (cs.drop o))) []
  | _, _ => none

def fieldAV (P : Program) (s : TypeId) (x : AV) (f : Nat) (k : KV α) : Option α :=
  match fieldOff P s f, x with
  | some (o, ty), .agg cs => match szOf P ty with
    | some n => if o + n ≤ cs.length then mkV P ty (seg cs o n) fun v => k v [] else none
    | none => none
  | _, _ => none

/-- Operands of scalars: the model's own operation. -/
def sca (r : Option Value) (k : KV α) : Option α := match r with
  | some r => if scalar r then k (.c (.p (.v r))) [] else none
  | none => none
def pure1 (P : Program) (f : Value → Sem Value) (x : AV) (k : KV α) : Option α := match conc x with
  | some a => sca (pureOf P (f a)) k
  | none => none
def pure2 (P : Program) (f : Value → Value → Sem Value) (x y : AV) (k : KV α) : Option α := match conc x, conc y with
  | some a, some b => sca (pureOf P (f a b)) k
  | _, _ => none

/-- Whole numbers' operations, written out. -/
def intOp (op : BinOp) (t : IntKind) (a b : Int) (k : KV α) : Option α :=
  let n (x : Int) : Option α := k (.c (.p (.v (.int t x)))) []
  let q (x : Bool) : Option α := k (.c (.p (.v (.bool x)))) []
  match op with
  | .add => n (t.wrap (a + b))
  | .sub => n (t.wrap (a - b))
  | .mul => n (t.wrap (a * b))
  | .quo => chk (b ≠ 0) (n (t.wrap (a.tdiv b)))
  | .rem => chk (b ≠ 0) (n (a.tmod b))
  | .and => n (t.wrap (BitVec.ofInt t.bits a &&& BitVec.ofInt t.bits b).toNat)
  | .or => n (t.wrap (BitVec.ofInt t.bits a ||| BitVec.ofInt t.bits b).toNat)
  | .xor => n (t.wrap (BitVec.ofInt t.bits a ^^^ BitVec.ofInt t.bits b).toNat)
  | .andNot => n (t.wrap (BitVec.ofInt t.bits a &&& ~~~ BitVec.ofInt t.bits b).toNat)
  | .eql => q (a == b)
  | .neq => q (a != b)
  | .lss => q (a < b)
  | .leq => q (a ≤ b)
  | .gtr => q (a > b)
  | .geq => q (a ≥ b)
  | _ => none

/-- Types whose values are compared cell by cell. -/
def notCut (P : Program) (t : TypeId) : Bool := Nat.blt t P.types.size && !(P.cutTypes.toList.any fun c => Nat.beq (P.underlyingId c.2) (P.underlyingId t))
def eqPlain (P : Program) : Nat → TypeId → Bool
  | 0, _ => false
  | n + 1, t => match P.underlying t with
    | some .bool => true
    | some (.int _) => true
    | some .string => true
    | some (.struct fs) => notCut P t && fs.toList.all fun f => eqPlain P n f.type
    | some (.array _ e) => Nat.blt t P.types.size && eqPlain P n e
    | _ => false
def okEq (P : Program) : Bool := (List.range P.types.size).all fun t => !eqPlain P 12 t || (!P.stoodInHeld t && !P.eqGuardType P.depth t)
def partL (P : Program) (t : TypeId) (l : List Value) (off : Nat) : Option Value := match aggTy P t, szOf P t with
  | some true, some n => if off + n ≤ l.length then some (.agg (seg l off n).toArray) else none
  | some false, _ => l[off]?
  | _, _ => none
def eqFs (P : Program) (g : TypeId → Value → Value → Option Bool) : List Field → List Value → List Value → Option Bool
  | [], _, _ => some true
  | f :: r, xs, ys => match f.name == "_" with
    | true => eqFs P g r xs ys
    | false => match partL P f.type xs f.offset, partL P f.type ys f.offset with
      | some u, some v => match g f.type u v, eqFs P g r xs ys with
        | some p, some q => some (p && q)
        | _, _ => none
      | _, _ => none
def eqEs (P : Program) (g : TypeId → Value → Value → Option Bool) (e c : Nat) (xs ys : List Value) : List Nat → Option Bool
  | [] => some true
  | i :: r => match partL P e xs (i * c), partL P e ys (i * c) with
    | some u, some v => match g e u v, eqEs P g e c xs ys r with
      | some p, some q => some (p && q)
      | _, _ => none
    | _, _ => none
def eqV (P : Program) : Nat → TypeId → Value → Value → Option Bool
  | 0, _, _, _ => none
  | n + 1, t, x, y => match P.underlying t, x, y with
    | some .bool, .bool a, .bool b => some (a == b)
    | some (.int _), .int k a, .int k' b => if k = k' then some (a == b) else none
    | some .string, .string a, .string b => some (a == b)
    | some (.struct fs), .agg xs, .agg ys => eqFs P (eqV P n) fs.toList xs.toList ys.toList
    | some (.array len e), .agg xs, .agg ys => match szOf P e with
      | some c => eqEs P (eqV P n) e c xs.toList ys.toList (List.range len)
      | none => none
    | _, _, _ => none
/-- Two structs, or two arrays. -/
def eqAgg (P : Program) (t : TypeId) (xs ys : List CV) : Option Bool := match scals xs, scals ys with
  | some l, some m => match eqPlain P 12 t with
    | true => eqV P 12 t (.agg l.toArray) (.agg m.toArray)
    | false => none
  | _, _ => none

def binAV (P : Program) (op : BinOp) (ty : TypeId) (xo yo : Operand) (x y : AV) (k : KV α) : Option α :=
  match op, x, y with
  | .shl, .c (.p (.v (.int t a))), .c (.p (.v (.int _ b))) => chk (0 ≤ b) (k (.c (.p (.v (.int t (t.wrap (a * 2 ^ (min b.toNat t.bits))))))) [])
  | .shr, .c (.p (.v (.int t a))), .c (.p (.v (.int _ b))) => chk (0 ≤ b) (k (.c (.p (.v (.int t (a.fdiv (2 ^ (min b.toNat t.bits))))))) [])
  | op, .c (.p (.v (.int t a))), .c (.p (.v (.int u b))) => if t = u then intOp op t a b k else none
  | .eql, .agg xs, .agg ys => match eqAgg P ty xs ys with
    | some q => k (.c (.p (.v (.bool q)))) []
    | none => none
  | .neq, .agg xs, .agg ys => match eqAgg P ty xs ys with
    | some q => k (.c (.p (.v (.bool !q)))) []
    | none => none
  | op, x, y => pure2 P (fun u v => do eqGuard op ty xo yo u v; binOp op ty u v) x y k

/-- Floating numbers: what must hold, and what comes of it. -/
def fltBin : BinOp → AV → AV → Option (Bool × AV)
  | .add, .c (.p (.v (.float .f64 a))), .c (.p (.v (.float .f64 b))) => some ((Ieee.double.add a b).isSome, .c (.p (.v (.float .f64 ((Ieee.double.add a b).getD 0)))))
  | .add, .c (.p (.v (.complex .f64 a b))), .c (.p (.v (.complex .f64 c d))) => some ((Ieee.double.add a c).isSome && (Ieee.double.add b d).isSome, .c (.p (.v (.complex .f64 ((Ieee.double.add a c).getD 0) ((Ieee.double.add b d).getD 0)))))
  | _, _, _ => none
def inKind (t : IntKind) : Option Int → Bool
  | some n => decide (t.min ≤ n ∧ n ≤ t.max)
  | none => false
def fltConv (P : Program) (src dst : TypeId) (x : AV) : Option (Bool × AV) := match P.underlying src, P.underlying dst, x with
  | some (.float _), some (.int t), .c (.p (.v (.float .f64 w))) => some (inKind t ((Ieee.double.read w).toInt .zero), .c (.p (.v (.int t (((Ieee.double.read w).toInt .zero).getD 0)))))
  | _, _, _ => none

def isStrTy (P : Program) (u : TypeId) : Bool := match P.underlying u with | some .string => true | _ => false
def isU8 (i : TypeInfo) : Bool := match i.zero with | some (.int .u8 0) => i.size == 1 && i.bytes == 1 | _ => false
def srcOk (P : Program) (t u : TypeId) (i : TypeInfo) (x : CV) : Bool := if x.isStr then isStrTy P u && isU8 i else u == t

/-- The row that append goes on with, and what becomes of its old name. -/
def grows (h : Hp) (e : TypeId) : CV → Option (Nat × (Nat → List PV) × Dl)
  | .nils => some (0, fun _ => [], [])
  | .os l => match h[l]? with
    | some (.row e' n f true) => if e' = e then some (n, f, [(l, .dead)]) else none
    | _ => none
  | _ => none

/-- append: to a slice of the call's own, or to none. -/
def appendAV (P : Program) (h : Hp) (b : Nat) (ts : Array TypeId) (s x : AV) (k : KV α) : Option α :=
  match ts[0]?, ts[1]?, s, x with
  | some t, some u, .c s, .c x => match P.underlying t with
    | some (.slice e) => match P.info? e, zeroCs P e, elems h x, grows h e s with
      | some i, some zs, some (m, g), some (n, f, d) =>
        if 0 < i.size ∧ zs.length = i.size ∧ srcOk P t u i x = true ∧ ((g 0).length = i.size ∨ m = 0) then
          chk ((n + m) * i.bytes ≤ 140737488355328 ∧ n + m ≤ 9223372036854775807) (k (.c (.os b)) (d ++ [(b, .row e (n + m) (catF n f g) true)]))
        else none
      | _, _, _, _ => none
    | _ => none
  | _, _, _, _ => none

def cell1 : List PV → CV
  | [x] => .p x
  | _ => .nils
def copyCs (m : Nat) (g : Nat → List PV) : Nat → Nat → List CV → List CV
  | _, 0, cs => cs
  | _, _, [] => []
  | i, n + 1, c :: cs => (if i < m then cell1 (g i) else c) :: copyCs m g (i + 1) n cs

/-- copy: into an array of the call's own. -/
def copyAV (P : Program) (h : Hp) (ts : Array TypeId) (s x : AV) (k : KV α) : Option α :=
  match ts[0]?, s, x with
  | some t, .c (.bs l off sz n), .c x => match h[l]?, elems h x, P.underlying t with
    | some (.box cs true), some (m, g), some (.slice e) => match szOf P e with
      | some 1 => if off + n ≤ cs.length ∧ x.isStr = false ∧ sz = 1 ∧ ((g 0).length = 1 ∨ m = 0) then
          k (.c (.p (.v (.int .i64 (min m n : Nat))))) [(l, .box (cs.take off ++ copyCs m g 0 n (cs.drop off)) true)]
        else none
      | _ => none
    | _, _, _ => none
  | _, _, _ => none

def makeSliceAV (P : Program) (b : Nat) (t : TypeId) (l c : AV) (k : KV α) : Option α :=
  match P.underlying t, intOf? l, intOf? c with
  | some (.slice e), some n, some m => match P.info? e, zeroCs P e with
    | some i, some zs => match pures zs with
      | some ps => if 0 < i.size ∧ zs.length = i.size then
          chk (n = m ∧ 0 ≤ n ∧ n * i.bytes ≤ 281474976710656 ∧ n ≤ 9223372036854775807) (k (.c (.os b)) [(b, .row e n.toNat (fun _ => ps) true)])
        else none
      | none => none
    | _, _ => none
  | _, _, _ => none

def convertAV (P : Program) (h : Hp) (src dst : TypeId) (x : AV) (k : KV α) : Option α :=
  match P.underlying src, P.underlying dst, x with
  | some .string, some (.slice e), .c (.p (.v (.string s))) => match P.underlying e with
    | some (.int .u8) => if szOf P e = some 1 then k (.c (.p (.sl s.size (strF s)))) [] else none
    | _ => none
  | some (.slice e), some .string, .c x => match P.underlying e with
    | some (.int .u8) => if x.isStr then none else match elems h x with
      | some (n, f) => chk (bytesOk n f = true) (k (.c (.p (.v (.string (textOf n f))))) [])
      | none => none
    | _ => none
  | some (.slice _), some (.slice e), .c (.os l) => match h[l]?, P.underlying e with
    | some (.row _ n f true), some (.int .u8) => if src = dst ∧ 0 < n then k (.c (.p (.sl n f))) [(l, .dead)] else none
    | _, _ => none
  | some _, some (.int t), .c (.p (.v (.int _ n))) => k (.c (.p (.v (.int t (t.wrap n))))) []
  | some _, some _, x => pure1 P (convert src dst) x k
  | _, _, _ => none

/-- The method of a value in an interface, if it is one of the value itself. -/
def methodOf (P : Program) (t : TypeId) (name : String) : Option FuncId :=
  match P.info? t, P.underlying t with
  | some i, some (.struct _) => match i.methods.find? (·.name == name) with
    | some m => match m.path.toList, m.func with
      | [], some (f, false) => some f
      | _, _ => none
    | none => none
  | _, _ => none

def builtinAV (P : Program) (h : Hp) (b : Nat) (bi : Builtin) (ts : Array TypeId) (ty : TypeId) (args : List AV) (k : KV α) : Option α :=
  match bi, args with
  | .len, [x] => match ts[0]? with
    | some t => if ts.size = 1 then match P.underlying t, x with
      | some .string, .c (.p (.v (.string s))) => k (.c (.p (.v (.int .i64 s.size)))) []
      | some (.slice _), .c x => match lenOf h x with
        | some n => k (.c (.p (.v (.int .i64 n)))) []
        | none => none
      | some (.array n _), _ => k (.c (.p (.v (.int .i64 n)))) []
      | _, _ => none
      else none
    | none => none
  | .append, [s, x] => if ts.size = 2 then appendAV P h b ts s x k else none
  | .copy, [s, x] => if ts.size = 2 then copyAV P h ts s x k else none
  | .min, [.c (.p (.v (.int t x))), .c (.p (.v (.int _ y)))] => k (.c (.p (.v (.int t (min x y))))) []
  | .max, [.c (.p (.v (.int t x))), .c (.p (.v (.int _ y)))] => k (.c (.p (.v (.int t (max x y))))) []
  | .real, xs => match concs xs with | some l => sca (pureOf P (Builtin.real_ ts ty l.toArray)) k | none => none
  | .imag, xs => match concs xs with | some l => sca (pureOf P (Builtin.imag_ ts ty l.toArray)) k | none => none
  | .complex, xs => match concs xs with | some l => sca (pureOf P (Builtin.complex_ ts ty l.toArray)) k | none => none
  | _, _ => none

def zeroAV (P : Program) (t : TypeId) (k : AV → Option α) : Option α := match P.info? t with
  | some i => match i.zero with
    | some z => k (absV z)
    | none => none
  | none => none

def assertAV (P : Program) (x : AV) (asserted : TypeId) (ok : Bool) (k : KV α) : Option α :=
  match P.underlying asserted with
  | some (.interface _) => none
  | some _ => match x with
    | .c (.p (.ifc t y)) =>
      if t = asserted then k (if ok then .tup [.c (.p y), .c (.p (.v (.bool true)))] else .c (.p y)) []
      else if ok then zeroAV P asserted fun z => k (.tup [z, .c (.p (.v (.bool false)))]) [] else none
    | .c (.p (.ifa t cs)) =>
      if t = asserted then k (if ok then .tup [.agg (cs.map .p), .c (.p (.v (.bool true)))] else .agg (cs.map .p)) []
      else if ok then zeroAV P asserted fun z => k (.tup [z, .c (.p (.v (.bool false)))]) [] else none
    | .c (.p (.v .nilIface)) => if ok then zeroAV P asserted fun z => k (.tup [z, .c (.p (.v (.bool false)))]) [] else none
    | _ => none
  | none => none

def ifaceAV (P : Program) (t : TypeId) (x : AV) (k : KV α) : Option α :=
  match P.underlying t with
  | some (.interface _) => none
  | some _ => match x with
    | .c (.p y) => k (.c (.p (.ifc t y))) []
    | .agg cs => match pures cs with
      | some ps => k (.c (.p (.ifa t ps))) []
      | none => none
    | _ => none
  | none => none

def iterNext (h : Hp) (x : AV) (k : KV α) : Option α := match x with
  | .c (.itp l) => match h[l]? with
    | some (.iter s pos) => br (decide (pos < s.size))
        (k (.tup [.c (.p (.v (.bool true))), .c (.p (.v (.int .i64 pos))), .c (.p (.v (.int .i32 (Utf8.decode s pos).1)))]) [(l, .iter s (pos + (Utf8.decode s pos).2))])
        (k (.tup [.c (.p (.v (.bool false)))]) [])
    | _ => none
  | _ => none

/-- A map of texts to whole numbers. -/
def strMap (P : Program) (t : TypeId) : Bool := match P.underlying t with
  | some (.map k e) => match P.underlying k, P.underlying e, P.info? e with
    | some .string, some (.int .i64), some i => match i.zero with
      | some (.int .i64 0) => true
      | _ => false
    | _, _, _ => false
  | _ => false
def putS (g : ByteArray → Int) (s : ByteArray) (n : Int) : ByteArray → Int := fun s' => match s' == s with
  | true => n
  | false => g s'
def mapMakeAV (P : Program) (b : Nat) (t : TypeId) (k : KV α) : Option α := match strMap P t with
  | true => k (.c (.mp b)) [(b, .smap t (fun _ => 0) 0)]
  | false => none
def mapLookAV (P : Program) (h : Hp) (t : TypeId) (x i : AV) (k : KV α) : Option α := match strMap P t, x, i with
  | true, .c (.mp l), .c (.p (.v (.string s))) => match h[l]? with
    | some (.smap t' g _) => if t' = t then chk (s.size ≤ 9223372036854775807) (k (.c (.p (.v (.int .i64 (g s))))) []) else none
    | _ => none
  | _, _, _ => none
def mapPutAV (P : Program) (h : Hp) (t : TypeId) (x i v : AV) (k : KV α) : Option α := match strMap P t, x, i, v with
  | true, .c (.mp l), .c (.p (.v (.string s))), .c (.p (.v (.int .i64 n))) => match h[l]? with
    | some (.smap t' g m) => if t' = t then chk (s.size ≤ 9223372036854775807 ∧ m < 9223372036854775807 ∧ -9223372036854775808 ≤ n ∧ n ≤ 9223372036854775807) (k (.tup []) [(l, .smap t (putS g s n) (m + 1))]) else none
    | _ => none
  | _, _, _, _ => none

def capsOf : List AV → Option (List CV)
  | [] => some []
  | .c x :: l => match capsOf l with
    | some r => some (x :: r)
    | none => none
  | _ :: _ => none

def nilChk : AV → Bool
  | .c (.ptr _ _) | .c (.ep _ _ _) | .c (.ip _) | .c (.fn _ _) | .c (.p (.ifc _ _)) | .c (.p (.ifa _ _)) | .c (.p (.v (.func (.func _) _ _))) => true
  | _ => false

def isIface : PV → Bool
  | .ifc _ _ | .ifa _ _ => true
  | _ => false

/-- One operation that isn't a call; b: the name of what it makes; kp: a panic. -/
def xop (P : Program) (h : Hp) (b : Nat) (o : Oper) (t : Tm) (k : KV α) (kp : PV → Option α) : Option α :=
  match o.op with
  | .move x | .assign x => k (ev t x) []
  | .pick c x y => match ev t c with
    | .c (.p (.v (.bool q))) => br q (k (ev t x) []) (k (ev t y) [])
    | _ => none
  | .alloc e => match zeroCs P e with
    | some zs => k (.c (.ptr b 0)) [(b, .box zs true)]
    | none => none
  | .box e x => match cellsOf (ev t x) with
    | some cs => k (.c (.ptr b 0)) [(b, .box cs true)]
    | none => none
  | .build ty parts => match buildAV P ty (parts.toList.map fun q => (q.1, ev t q.2)) with
    | some v => k v []
    | none => none
  | .buildSlice ty n parts => buildRow P b ty n (parts.toList.map fun q => (q.1, ev t q.2)) k
  | .load ty a => loadAV P h ty (ev t a) fun v => k v []
  | .store ty a x => storeAV P h ty (ev t a) (ev t x) k
  | .nilCheck x => if nilChk (ev t x) then k (ev t x) [] else none
  | .binOp op ty x y _ => match fltBin op (ev t x) (ev t y) with
    | some (q, v) => chk (q = true) (k v [])
    | none => binAV P op ty x y (ev t x) (ev t y) k
  | .unOp .not _ x => match ev t x with
    | .c (.p (.v (.bool q))) => k (.c (.p (.v (.bool (!q))))) []
    | _ => none
  | .unOp op _ x => pure1 P (Op.unary op) (ev t x) k
  | .convert src dst x => match fltConv P src dst (ev t x) with
    | some (q, v) => chk (q = true) (k v [])
    | none => convertAV P h src dst (ev t x) k
  | .makeInterface ty x => ifaceAV P ty (ev t x) k
  | .makeFunc (.func f) fs cs => if fs.isEmpty then
      if cs.isEmpty then k (.c (.p (.v (.func (.func f) #[] #[])))) [] else
      match capsOf (cs.toList.map (ev t)) with
      | some l => k (.c (.fn f l)) []
      | none => none
    else none
  | .makeSlice ty l c => makeSliceAV P b ty (ev t l) (ev t c) k
  | .slice ty x lo hi none => sliceAV P h ty (ev t x) (lo.map (ev t)) (hi.map (ev t)) k
  | .fieldAddr s x f => fieldAddrAV P s (ev t x) f k
  | .field s x f => fieldAV P s (ev t x) f k
  | .indexAddr ty x i => indexAddrAV P h ty (ev t x) (ev t i) k
  | .index ty x i => indexAV P ty (ev t x) (ev t i) k
  | .range ty x => match P.underlying ty, ev t x with
    | some .string, .c (.p (.v (.string s))) => k (.c (.itp b)) [(b, .iter s 0)]
    | _, _ => none
  | .next i true => iterNext h (ev t i) k
  | .makeMap ty none => mapMakeAV P b ty k
  | .lookup ty x i false => mapLookAV P h ty (ev t x) (ev t i) k
  | .mapUpdate ty x i v => mapPutAV P h ty (ev t x) (ev t i) (ev t v) k
  | .typeAssert x _ a ok => assertAV P (ev t x) a ok k
  | .extract x i => match ev t x with
    | .tup vs => match vs[i]? with
      | some v => k v []
      | none => none
    | _ => none
  | .call c => match c.callee with
    | .builtin bi => builtinAV P h b bi c.argTypes o.type (c.args.toList.map (ev t)) k
    | _ => none
  | .panic x => match ev t x with
    | .c (.p y) => if isIface y then kp y else none
    | _ => none
  | _ => none

/-- What is called, of what. -/
def callee (P : Program) (t : Tm) (c : Call) : Option (FuncId × List AV) :=
  match c.callee with
  | .value f => match ev t f with
    | .c (.p (.v (.func (.func g) _ _))) => some (g, c.args.toList.map (ev t))
    | .c (.fn g caps) => some (g, c.args.toList.map (ev t) ++ caps.map .c)
    | _ => none
  | .invoke r name => match ev t r with
    | .c (.p (.ifa ty cs)) => match methodOf P ty name with
      | some f => some (f, .agg (cs.map .p) :: c.args.toList.map (ev t))
      | none => none
    | _ => none
  | .builtin _ => none

/-! ### Names -/
mutual
def CV.refs : CV → List Nat
  | .ptr l _ => [l]
  | .ep l _ _ => [l]
  | .os l => [l]
  | .bs l _ _ _ => [l]
  | .fn _ cs => CV.refsL cs
  | .itp l => [l]
  | .mp l => [l]
  | .p _ => []
  | .nils => []
  | .ip _ => []
def CV.refsL : List CV → List Nat
  | [] => []
  | x :: l => CV.refs x ++ CV.refsL l
end
mutual
def AV.refs : AV → List Nat
  | .c x => x.refs
  | .agg cs => CV.refsL cs
  | .tup vs => AV.refsL vs
  | .top => []
def AV.refsL : List AV → List Nat
  | [] => []
  | x :: l => AV.refs x ++ AV.refsL l
end
mutual
def CV.ren (s : Nat → Nat) : CV → CV
  | .ptr l o => .ptr (s l) o
  | .ep l i o => .ep (s l) i o
  | .os l => .os (s l)
  | .bs l a b c => .bs (s l) a b c
  | .fn f cs => .fn f (CV.renL s cs)
  | .itp l => .itp (s l)
  | .mp l => .mp (s l)
  | .p x => .p x
  | .nils => .nils
  | .ip cs => .ip cs
def CV.renL (s : Nat → Nat) : List CV → List CV
  | [] => []
  | x :: l => CV.ren s x :: CV.renL s l
end
mutual
def AV.ren (s : Nat → Nat) : AV → AV
  | .c x => .c (x.ren s)
  | .agg cs => .agg (CV.renL s cs)
  | .tup vs => .tup (AV.renL s vs)
  | .top => .top
def AV.renL (s : Nat → Nat) : List AV → List AV
  | [] => []
  | x :: l => AV.ren s x :: AV.renL s l
end
def CV.refsLL : List (List CV) → List Nat
  | [] => []
  | x :: l => CV.refsL x ++ CV.refsLL l
def Ob.refs : Ob → List Nat
  | .box cs _ => CV.refsL cs
  | .rrow xs => CV.refsLL xs
  | _ => []
def Ob.ren (s : Nat → Nat) : Ob → Ob
  | .box cs q => .box (CV.renL s cs) q
  | .rrow xs => .rrow (xs.map (CV.renL s))
  | o => o

/-- The names that are reached, in the order in which they are met. -/
def reach (h : Hp) : Nat → List Nat → List Nat → Option (List Nat)
  | 0, _, _ => none
  | _ + 1, [], seen => some seen
  | n + 1, l :: r, seen => match seen.contains l with
    | true => reach h n r seen
    | false => match h[l]? with
      | some o => reach h n (r ++ o.refs) (seen ++ [l])
      | none => none

def getAll (h : Hp) : List Nat → Option Hp
  | [] => some []
  | l :: r => match h[l]?, getAll h r with
    | some o, some os => some (o :: os)
    | _, _ => none

/-- Values and the objects that they reach, by new names: the first m objects first. -/
def localize (m : Nat) (vs : List AV) (h : Hp) : Option (List AV × Hp × List Nat) :=
  match reach h 200 (List.range m ++ AV.refsL vs) [] with
  | some ns => match getAll h ns with
    | some os => some (AV.renL (ns.idxOf ·) vs, os.map (Ob.ren (ns.idxOf ·)), ns)
    | none => none
  | none => none

def isSl : CV → Bool
  | .nils => true
  | .os _ => true
  | .bs _ _ _ _ => true
  | _ => false
/-- A slice of the call's own as plain data. -/
def frzC (h : Hp) (x : CV) : CV := match isSl x with
  | true => match elems h x with
    | some (n, f) => .p (.sl n f)
    | none => x
  | false => x
def frzC1 (h : Hp) (x : CV) : Dl := match isSl x with
  | true => match elems h x with
    | some _ => frozenBy h x
    | none => []
  | false => []
def frzCs (h : Hp) : List CV → List CV
  | [] => []
  | x :: l => frzC h x :: frzCs h l
mutual
def frzA (h : Hp) : AV → AV
  | .c x => .c (frzC h x)
  | .agg cs => .agg (frzCs h cs)
  | .tup vs => .tup (frzL h vs)
  | .top => .top
def frzL (h : Hp) : List AV → List AV
  | [] => []
  | x :: l => frzA h x :: frzL h l
end
def frzDs (h : Hp) : List CV → Dl
  | [] => []
  | x :: l => frzC1 h x ++ frzDs h l
mutual
def frzD (h : Hp) : AV → Dl
  | .c x => frzC1 h x
  | .agg cs => frzDs h cs
  | .tup vs => frzDL h vs
  | .top => []
def frzDL (h : Hp) : List AV → Dl
  | [] => []
  | x :: l => frzD h x ++ frzDL h l
end

def applyD (h : Hp) : Dl → Hp
  | [] => h
  | (l, o) :: r => applyD (if l < h.length then h.set l o else h ++ [o]) r

/-! ### Values are worked out before they are kept -/
def frcV (x : Value) (k : Value → Option α) : Option α := match x with
  | .int t n => k (.int t n)
  | .bool b => k (.bool b)
  | .string s => k (.string s)
  | .complex t a b => k (.complex t a b)
  | .float t a => k (.float t a)
  | .func f a b => k (.func f a b)
  | .nilIface => k .nilIface
  | x => k x
def frcN (n : Nat) (k : Nat → Option α) : Option α := match n with
  | 0 => k 0
  | m + 1 => k (m + 1)
def frcC (x : CV) (k : CV → Option α) : Option α := match x with
  | .p (.v x) => frcV x fun x => k (.p (.v x))
  | .p (.sl n f) => k (.p (.sl n f))
  | .p (.ifc t x) => k (.p (.ifc t x))
  | .p (.ifa t x) => k (.p (.ifa t x))
  | .nils => k .nils
  | .ptr l o => frcN l fun l => k (.ptr l o)
  | .ep l i o => frcN l fun l => k (.ep l i o)
  | .os l => frcN l fun l => k (.os l)
  | .bs l a b c => frcN l fun l => k (.bs l a b c)
  | .ip cs => k (.ip cs)
  | .fn f cs => k (.fn f cs)
  | .itp l => frcN l fun l => k (.itp l)
  | .mp l => frcN l fun l => k (.mp l)
def frcCs (x : List CV) (k : List CV → Option α) : Option α := match x with
  | [] => k []
  | x :: l => frcC x fun x => frcCs l fun l => k (x :: l)
def frcA (x : AV) (k : AV → Option α) : Option α := match x with
  | .c x => frcC x fun x => k (.c x)
  | .agg cs => frcCs cs fun cs => k (.agg cs)
  | .tup vs => frcL vs fun vs => k (.tup vs)
  | .top => k .top
where frcL (x : List AV) (k : List AV → Option α) : Option α := match x with
  | [] => k []
  | x :: l => frcA x fun x => frcL l fun l => k (x :: l)
def frcO (x : Ob) (k : Ob → Option α) : Option α := match x with
  | .box cs q => frcCs cs fun cs => k (.box cs q)
  | .row e n f q => k (.row e n f q)
  | .rrow xs => k (.rrow xs)
  | .iter s p => k (.iter s p)
  | .smap t g n => k (.smap t g n)
  | .dead => k .dead
def frcH (x : Hp) (k : Hp → Option α) : Option α := match x with
  | [] => k []
  | o :: l => frcO o fun o => frcH l fun l => k (o :: l)

/-! ### The interpreter -/
structure Cfg where
  ownA : FuncId → Bool
  ownR : FuncId → Bool
  keep : FuncId → List Nat → List Nat
  pre : FuncId → List Nat → List Nat

def zipIx : Nat → Hp → List (Nat × Ob)
  | _, [] => []
  | i, o :: r => (i, o) :: zipIx (i + 1) r
/-- What a call's answer is to the caller: the passed objects by their old names, the new ones from b on. -/
def backName (ns : List Nat) (b : Nat) : Nat → Nat := fun i => match ns[i]? with | some l => l | none => b + (i - ns.length)
def backD (s : Nat → Nat) (h3 : Hp) : Dl := (zipIx 0 h3).map fun q => (s q.1, q.2.ren s)

def afterCall (own : Bool) (args : List AV) (h : Hp) (ns : List Nat) (k : KV α) (kp : PV → Dl → Option α) (a : Ans) : Option α :=
  match a.e, a.vals with
  | .ret, [v] => k (v.ren (backName ns h.length)) ((if own then [] else frzDL h args) ++ backD (backName ns h.length) a.h)
  | .pan x, [] => kp x ((if own then [] else frzDL h args) ++ backD (backName ns h.length) a.h)
  | _, _ => none

def doCall (C : Cfg) (O : Orc α) (f : FuncId) (args : List AV) (h : Hp) (k : KV α) (kp : PV → Dl → Option α) : Option α :=
  match C.ownA f with
  | true => match localize 0 args h with
    | some (vs, hl, ns) => O (.call f vs hl) (afterCall true args h ns k kp)
    | none => none
  | false => match localize 0 (frzL h args) (applyD h (frzDL h args)) with
    | some (vs, hl, ns) => O (.call f vs hl) (afterCall false args h ns k kp)
    | none => none

def guardOf (ops : Array Oper) (t : Tm) (o : Oper) (x y : Option α) : Option α :=
  match o.guard with
  | none => x
  | some (j, want) => match ops[j]? with
    | none => y
    | some o' => match o'.dst with
      | none => y
      | some d => match t d with
        | .c (.p (.v (.bool q))) => match want with
          | true => br q x y
          | false => br q y x
        | .tup _ => y
        | _ => none

def evOp (C : Cfg) (P : Program) (O : Orc α) (o : Oper) (t : Tm) (h : Hp) (k : KV α) (kp : PV → Dl → Option α) : Option α :=
  match o.op with
  | .call c => match c.callee with
    | .builtin _ => xop P h h.length o t k fun x => kp x []
    | _ => match callee P t c with
      | some (f, args) => doCall C O f args h k kp
      | none => none
  | _ => xop P h h.length o t k fun x => kp x []

/-- A condition is asked once. -/
def settle (d : Nat) (t : Tm) (k : Tm → Option α) : Option α := match t d with
  | .c (.p (.v (.bool q))) => br q (k (upd t d (.c (.p (.v (.bool true)))))) (k (upd t d (.c (.p (.v (.bool false))))))
  | _ => k t
def settleG (ops : Array Oper) (o : Oper) (t : Tm) (k : Tm → Option α) : Option α := match o.guard with
  | none => k t
  | some (j, _) => match ops[j]? with
    | none => k t
    | some o' => match o'.dst with
      | none => k t
      | some d => settle d t k
def settleO (c : Operand) (t : Tm) (k : Tm → Option α) : Option α := match c with
  | .tmp d => settle d t k
  | _ => k t
/-- A result is kept. -/
def putK (t : Tm) (d : Option Nat) (v : AV) (k : Tm → Option α) : Option α := match d with
  | some d => k (upd t d v)
  | none => k t

open Classical in
/-- Either way. -/
noncomputable def both (x y : Option α) : Option α := if x = y then x else none
/-- Is a slice asked whether it is nil? How long it is, and whether that is what is asked. -/
def nilT (P : Program) (t : Tm) (o : Oper) : Option (Nat × Bool) := match o.op with
  | .binOp .eql ty x y _ => match P.underlying ty, ev t x, ev t y with
    | some (.slice _), .c (.p (.sl n _)), .c .nils => some (n, true)
    | _, _, _ => none
  | .binOp .neq ty x y _ => match P.underlying ty, ev t x, ev t y with
    | some (.slice _), .c (.p (.sl n _)), .c .nils => some (n, false)
    | _, _, _ => none
  | _ => none
noncomputable def nilK (n : Nat) (q : Bool) (k : Bool → Option α) : Option α := br (decide (n = 0)) (both (k q) (k (!q))) (k (!q))

noncomputable def evOps (C : Cfg) (P : Program) (O : Orc α) (ops : Array Oper) (l : List Oper) : Tm → Hp → KT α → Option α :=
  List.rec (motive := fun _ => Tm → Hp → KT α → Option α) (fun t h K => K .normal t h)
    (fun o r ih t h K => settleG ops o t fun t => guardOf ops t o
      (match nilT P t o with
        | some (n, q) => nilK n q fun b => putK t o.dst (.c (.p (.v (.bool b)))) fun t => ih t h K
        | none => evOp C P O o t h (fun v d => frcA v fun v => frcH (applyD h d) fun h' => putK t o.dst v fun t => ih t h' K) (fun x d => frcH (applyD h d) fun h' => K (.pan x) t h'))
      (putK t o.dst (.tup []) fun t => ih t h K)) l
theorem evOps_nil (C : Cfg) (P : Program) (O : Orc α) (ops : Array Oper) (t : Tm) (h : Hp) (K : KT α) : evOps C P O ops [] t h K = K .normal t h := rfl
theorem evOps_cons (C : Cfg) (P : Program) (O : Orc α) (ops : Array Oper) (o : Oper) (r : List Oper) (t : Tm) (h : Hp) (K : KT α) : evOps C P O ops (o :: r) t h K = settleG ops o t fun t => guardOf ops t o
      (match nilT P t o with
        | some (n, q) => nilK n q fun b => putK t o.dst (.c (.p (.v (.bool b)))) fun t => evOps C P O ops r t h K
        | none => evOp C P O o t h (fun v d => frcA v fun v => frcH (applyD h d) fun h' => putK t o.dst v fun t => evOps C P O ops r t h' K) (fun x d => frcH (applyD h d) fun h' => K (.pan x) t h'))
      (putK t o.dst (.tup []) fun t => evOps C P O ops r t h K) := rfl

/-! ### Operations in no fixed order -/
def bits (l : List Nat) : Nat := l.foldl (fun m i => m ||| 2 ^ i) 0
/-- Only what is told stays. -/
def mask (m : Nat) : Nat → Hp → Hp
  | _, [] => []
  | i, o :: h => (match m.testBit i with | true => o | false => .dead) :: mask m (i + 1) h
/-- What must come ahead of each operation, as bits. -/
def befs : List Oper → List Nat → List Nat
  | [], acc => acc
  | o :: r, acc => befs r (acc ++ [o.after.toList.foldl (fun s e => if Region.binds .any e then s ||| 2 ^ e.on ||| acc.getD e.on 0 else s) 0])
/-- Every edge goes back. -/
def backEdges : Nat → List Oper → Bool
  | _, [] => true
  | i, o :: r => (o.after.toList.all fun e => !Region.binds .any e || Nat.blt e.on i) && backEdges (i + 1) r
/-- Two that may come either way don't meet: in temporaries. -/
def apartAll (ops : Array Oper) (bs : List Nat) : Nat → List Oper → Bool
  | _, [] => true
  | j, o :: r => ((List.range j).all fun i => (bs.getD j 0).testBit i || (match ops[i]? with | some x => x.apart ops o | none => false)) && apartAll ops bs (j + 1) r
def noSel : List Oper → Bool
  | [] => true
  | o :: r => (match o.op with | .select .. => false | _ => true) && noSel r
def drawOk (ops : Array Oper) : Bool := backEdges 0 ops.toList && noSel ops.toList && apartAll ops (befs ops.toList []) 0 ops.toList
/-- Nor in objects: each one's objects (seen or made), and those that it changed. -/
def calm (rec : List (Nat × Nat)) (b : Nat) : Nat → Nat × Nat → Bool
  | j, (f, w) => (List.range j).all fun i => b.testBit i || (match rec[i]? with | some (f', w') => Nat.beq (w &&& (f' ||| w')) 0 && Nat.beq (w' &&& (f ||| w)) 0 | none => false)

def drawStep (ns : List Nat) (h h' : Hp) (rec : List (Nat × Nat)) (b : Nat) (d : Dl) : Option (List (Nat × Nat)) :=
  match (d.all fun q => Nat.ble h.length q.1 || ns.contains q.1) && calm rec b rec.length (bits ns, bits (d.map (·.1) ++ List.range' h.length (h'.length - h.length))) with
  | true => some (rec ++ [(bits ns, bits (d.map (·.1) ++ List.range' h.length (h'.length - h.length)))])
  | false => none

/-- Only these temporaries are looked at. -/
def maskT (l : List Nat) (t : Tm) : Tm := fun j => match l.any (Nat.beq j) with
  | true => t j
  | false => .top
def tmpsOf : List Operand → List Nat
  | [] => []
  | .tmp j :: l => j :: tmpsOf l
  | _ :: l => tmpsOf l
def guardTmps (ops : Array Oper) (o : Oper) : List Nat := match o.guard with
  | some (g, _) => match ops[g]? with
    | some o' => match o'.dst with
      | some d => [d]
      | none => []
    | none => []
  | none => []
def opRefs (o : Oper) (t : Tm) : List Nat := AV.refsL ((tmpsOf o.op.operands.toList).map t)

noncomputable def evDraw (C : Cfg) (P : Program) (O : Orc α) (ops : Array Oper) (bs : List Nat) (l : List Oper) : List (Nat × Nat) → Tm → Hp → KT α → Option α :=
  List.rec (motive := fun _ => List (Nat × Nat) → Tm → Hp → KT α → Option α) (fun _ t h K => K .normal t h)
    (fun o r ih rec t h K => settleG ops o t fun t => guardOf ops (maskT (guardTmps ops o) t) o
      (match reach h 200 (opRefs o t) [] with
        | some ns => evOp C P O o (maskT (tmpsOf o.op.operands.toList) t) (mask (bits ns) 0 h) (fun v d => frcA v fun v => frcH (applyD h d) fun h' => match drawStep ns h h' rec (bs.getD rec.length 0) d with
            | some rec' => putK t o.dst v fun t => ih rec' t h' K
            | none => none) (fun _ _ => none)
        | none => none)
      (putK t o.dst (.tup []) fun t => ih (rec ++ [(0, 0)]) t h K)) l
theorem evDraw_nil (C : Cfg) (P : Program) (O : Orc α) (ops : Array Oper) (bs : List Nat) (rec : List (Nat × Nat)) (t : Tm) (h : Hp) (K : KT α) : evDraw C P O ops bs [] rec t h K = K .normal t h := rfl
theorem evDraw_cons (C : Cfg) (P : Program) (O : Orc α) (ops : Array Oper) (bs : List Nat) (o : Oper) (r : List Oper) (rec : List (Nat × Nat)) (t : Tm) (h : Hp) (K : KT α) : evDraw C P O ops bs (o :: r) rec t h K = settleG ops o t fun t => guardOf ops (maskT (guardTmps ops o) t) o
      (match reach h 200 (opRefs o t) [] with
        | some ns => evOp C P O o (maskT (tmpsOf o.op.operands.toList) t) (mask (bits ns) 0 h) (fun v d => frcA v fun v => frcH (applyD h d) fun h' => match drawStep ns h h' rec (bs.getD rec.length 0) d with
            | some rec' => putK t o.dst v fun t => evDraw C P O ops bs r rec' t h' K
            | none => none) (fun _ _ => none)
        | none => none)
      (putK t o.dst (.tup []) fun t => evDraw C P O ops bs r (rec ++ [(0, 0)]) t h K) := rfl

/-- These temporaries' slices as plain data. -/
def frzT (h : Hp) : List Nat → Tm → Tm
  | [], t => t
  | j :: r, t => upd (frzT h r t) j (frzA h (t j))

def fromKeep : List Nat → List AV → Tm
  | j :: ks, x :: xs => fun i => if i = j then x else fromKeep ks xs i
  | _, _ => fun _ => .top

noncomputable def evC (C : Cfg) (P : Program) (O : Orc α) (f m : Nat) (p : List Nat) (c : Code) : Tm → Hp → KT α → Option α :=
  Code.rec (motive := fun _ => List Nat → Tm → Hp → KT α → Option α)
    (fun _ t h K => K .normal t h)
    (fun _ ops draw p t h K => match draw with
      | false => evOps C P O ops ops.toList t h K
      | true => match drawOk ops with
        | true => match C.pre f p with
          | [] => evDraw C P O ops (befs ops.toList []) ops.toList [] t h K
          | ts => frcH (applyD h (frzDL h (ts.map t))) fun h' => evDraw C P O ops (befs ops.toList []) ops.toList [] (frzT h ts t) h' K
        | false => none)
    (fun _ _ ia ib p t h K => ia (p ++ [0]) t h fun e t' h' => match e with
      | .normal => ib (p ++ [1]) t' h' K
      | e => K e t' h')
    (fun c _ _ ia ib p t h K => settleO c t fun t => match ev t c with
      | .c (.p (.v (.bool q))) => br q (ia (p ++ [0]) t h K) (ib (p ++ [1]) t h K)
      | _ => none)
    (fun id _ ia p t h K => ia (p ++ [0]) t h fun e t' h' => match e with
      | .exit i => if i = id then K .normal t' h' else K (.exit i) t' h'
      | e => K e t' h')
    (fun _ _ p t h K => match localize m ((C.keep f p).map t) h with
      | some (vs, h', _) => O (.loop f m p vs h') fun r => K r.e (fromKeep (C.keep f p) r.vals) r.h
      | none => none)
    (fun _ _ _ _ _ _ p t h K => match localize m ((C.keep f p).map t) h with
      | some (vs, h', _) => O (.loop f m p vs h') fun r => K r.e (fromKeep (C.keep f p) r.vals) r.h
      | none => none)
    (fun id _ t h K => K (.exit id) t h)
    (fun _ _ _ _ _ _ => none)
    (fun _ _ _ _ _ => none)
    (fun _ _ _ _ _ => none)
    (fun _ t h K => K .ret t h)
    (fun _ _ _ _ _ => none) c p
section
variable (C : Cfg) (P : Program) (O : Orc α) (f m : Nat) (p : List Nat) (t : Tm) (h : Hp) (K : KT α)
theorem evC_skip : evC C P O f m p .skip t h K = K .normal t h := rfl
theorem evC_region (id : Nat) (ops : Array Oper) (draw : Bool) : evC C P O f m p (.region id ops draw) t h K = match draw with
      | false => evOps C P O ops ops.toList t h K
      | true => match drawOk ops with
        | true => match C.pre f p with
          | [] => evDraw C P O ops (befs ops.toList []) ops.toList [] t h K
          | ts => frcH (applyD h (frzDL h (ts.map t))) fun h' => evDraw C P O ops (befs ops.toList []) ops.toList [] (frzT h ts t) h' K
        | false => none := rfl
theorem evC_seq (a b : Code) : evC C P O f m p (.seq a b) t h K = evC C P O f m (p ++ [0]) a t h fun e t' h' => match e with
      | .normal => evC C P O f m (p ++ [1]) b t' h' K
      | e => K e t' h' := rfl
theorem evC_cond (c : Operand) (a b : Code) : evC C P O f m p (.cond c a b) t h K = settleO c t fun t => match ev t c with
      | .c (.p (.v (.bool q))) => br q (evC C P O f m (p ++ [0]) a t h K) (evC C P O f m (p ++ [1]) b t h K)
      | _ => none := rfl
theorem evC_block (id : Nat) (a : Code) : evC C P O f m p (.block id a) t h K = evC C P O f m (p ++ [0]) a t h fun e t' h' => match e with
      | .exit i => if i = id then K .normal t' h' else K (.exit i) t' h'
      | e => K e t' h' := rfl
theorem evC_loop (a : Code) : evC C P O f m p (.loop a) t h K = match localize m ((C.keep f p).map t) h with
      | some (vs, h', _) => O (.loop f m p vs h') fun r => K r.e (fromKeep (C.keep f p) r.vals) r.h
      | none => none := rfl
theorem evC_rangeFunc (g : Operand) (ps : Array Tmp) (a b : Code) : evC C P O f m p (.rangeFunc g ps a b) t h K = match localize m ((C.keep f p).map t) h with
      | some (vs, h', _) => O (.loop f m p vs h') fun r => K r.e (fromKeep (C.keep f p) r.vals) r.h
      | none => none := rfl
theorem evC_exit (id : Nat) : evC C P O f m p (.exit id) t h K = K (.exit id) t h := rfl
theorem evC_ret : evC C P O f m p .ret t h K = K .ret t h := rfl
end

def codeAt : List Nat → Code → Option Code
  | [], c => some c
  | i :: p, .seq a b => match i with | 0 => codeAt p a | _ => codeAt p b
  | i :: p, .cond _ a b => match i with | 0 => codeAt p a | _ => codeAt p b
  | _ :: p, .block _ a => codeAt p a
  | _ :: p, .loop a => codeAt p a
  | _, _ => none

def resAV (P : Program) (t : Tm) (h : Hp) (r : ResultVar) (k : AV → Option α) : Option α := match r with
  | .tmp j => k (t j)
  | .cell j ty => loadAV P h ty (t j) k
def resL (P : Program) (t : Tm) (h : Hp) : List ResultVar → (List AV → Option α) → Option α
  | [], k => k []
  | r :: l, k => resAV P t h r fun v => resL P t h l fun vs => k (v :: vs)

def oneOr : List AV → AV
  | [x] => x
  | l => .tup l

/-- A call's end. -/
def endCall (C : Cfg) (P : Program) (f m : Nat) (fn : Func) (k : Ans → Option α) : KT α := fun e t h => match e with
  | .pan x => match localize m [] h with
    | some (_, h2, _) => k ⟨.pan x, [], h2⟩
    | none => none
  | .exit _ => none
  | _ => resL P t h fn.results.toList fun vs => match C.ownR f with
    | true => match localize m [oneOr vs] h with
      | some (vs, h2, _) => k ⟨.ret, vs, h2⟩
      | none => none
    | false => match localize m [frzA h (oneOr vs)] (applyD h (frzD h (oneOr vs))) with
      | some (vs, h2, _) => k ⟨.ret, vs, h2⟩
      | none => none

/-- A round's end. -/
def endRound (C : Cfg) (O : Orc α) (f m : Nat) (p : List Nat) (k : Ans → Option α) : KT α := fun e t h => match e with
  | .normal => match localize m ((C.keep f p).map t) h with
    | some (vs, h2, _) => O (.loop f m p vs h2) k
    | none => none
  | .pan x => match localize m [] h with
    | some (_, h2, _) => k ⟨.pan x, [], h2⟩
    | none => none
  | e => match localize m ((C.keep f p).map t) h with
    | some (vs, h2, _) => k ⟨e, vs, h2⟩
    | none => none

def argsT : List AV → Tm
  | [] => fun _ => .tup []
  | x :: l => fun j => match j with | 0 => x | j + 1 => argsT l j

noncomputable def evQ (C : Cfg) (P : Program) (O : Orc α) (q : Qry) (k : Ans → Option α) : Option α := match q with
  | .call f args h => match P.funcs[f]? with
    | some fn => match fn.body with
      | some c => evC C P O f h.length [] c (argsT args) h (endCall C P f h.length fn k)
      | none => none
    | none => none
  | .loop f m p vals h => match P.funcs[f]? with
    | some fn => match fn.body with
      | some c => match codeAt p c with
        | some (.loop a) => evC C P O f m (p ++ [0]) a (fromKeep (C.keep f p) vals) h (endRound C O f m p k)
        | _ => none
      | none => none
    | none => none

end

noncomputable def run {α : Type} (C : Cfg) (P : Program) : Nat → Orc α
  | 0 => fun _ _ => none
  | n + 1 => fun q k => evQ C P (run C P n) q k

end Go.Fx
