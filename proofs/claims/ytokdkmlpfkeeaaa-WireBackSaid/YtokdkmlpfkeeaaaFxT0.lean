/- The small interpreter once more, as a tree of what it asks: its definitions. -/
import Derived.Test.YtokdkmlpfkeeaaaFx22
set_option linter.unusedVariables false
namespace Go.Fx

/-- What is asked, and what is found. -/
inductive Tr where
  | fail
  | done (a : Ans)
  | br (q : Bool) (x y : Tr)
  | chk (c : Prop) (d : Decidable c) (x : Tr)
  | ask (q : Qry) (k : Ans → Tr)
  | both (x y : Tr)
namespace T
def chk (c : Prop) [d : Decidable c] (x : Tr) : Tr := .chk c d x
abbrev KVt := AV → Dl → Tr
abbrev KTt := Ex → Tm → Hp → Tr

def mkV (P : Program) (t : TypeId) (cs : List CV) (k : AV → Tr) : Tr :=
  match aggTy P t, szOf P t with
  | some true, some n => if cs.length = n then k (.agg cs) else .fail
  | some false, some 1 => match cs with | [x] => k (.c x) | _ => .fail
  | _, _ => .fail

def loadAV (P : Program) (h : Hp) (t : TypeId) (a : AV) (k : AV → Tr) : Tr :=
  match a with
  | .c (.ptr l off) => match h[l]?, szOf P t with
    | some (.box cs _), some n => match bigInts P cs.length t cs with
      | some (kd, xs) => if n = 1 then chk (off < xs.length) (k (.c (.p (.v (.int kd (xs.getD off 0)))))) else .fail
      | none => chk (off + n ≤ cs.length) (mkV P t (seg cs off n) k)
    | _, _ => .fail
  | .c (.ep l i off) => match h[l]?, szOf P t with
    | some (.row _ n f _), some sz => chk (i < n) (if off + sz ≤ (f i).length then mkV P t (seg ((f i).map CV.p) off sz) k else .fail)
    | some (.rrow xs), some sz => match xs[i]? with
      | some cs => if off + sz ≤ cs.length then mkV P t (seg cs off sz) k else .fail
      | none => .fail
    | _, _ => .fail
  | .c (.ip cs) => match szOf P t with
    | some n => if n ≤ cs.length then mkV P t (seg (cs.map CV.p) 0 n) k else .fail
    | none => .fail
  | _ => .fail

def storeAV (P : Program) (h : Hp) (t : TypeId) (a x : AV) (k : KVt) : Tr :=
  match cellsOf x, szOf P t with
  | some cs, some n => if cs.length = n then
      match a with
      | .c (.ptr l off) => match h[l]? with
        | some (.box ds true) => chk (off + n ≤ ds.length) (k (.tup []) [(l, .box (placeAt ds off cs) true)])
        | _ => .fail
      | .c (.ep l i off) => match h[l]?, pures cs with
        | some (.row e m f true), some ps => chk (i < m) (if off + n ≤ (f i).length then k (.tup []) [(l, .row e m (setF f i (placeAt (f i) off ps)) true)] else .fail)
        | _, _ => .fail
      | _ => .fail
    else .fail
  | _, _ => .fail

def buildRow (P : Program) (b : Nat) (t : TypeId) (len : Nat) (parts : List (Nat × AV)) (k : KVt) : Tr :=
  match P.underlying t with
  | some (.slice e) => match szOf P e, (if len = 0 then some [] else zeroCs P e) with
    | some n, some zs => if len * n ≤ 2 ^ 24 ∧ 0 < n ∧ (len = 0 ∨ zs.length = n) then
        match fillCs (fun i => some (i * n, n)) (reps len zs) parts with
        | some cs => match rowOf (chunks n len cs) with
          | some xs => k (.c (.os b)) [(b, .row e len (litF xs) true)]
          | none => k (.c (.os b)) [(b, .rrow (chunks n len cs))]
        | none => .fail
      else .fail
    | _, _ => .fail
  | _ => .fail

def sliceAV (P : Program) (h : Hp) (t : TypeId) (x : AV) (lo hi : Option AV) (k : KVt) : Tr :=
  match P.underlying t, x with
  | some .string, .c (.p (.v (.string s))) => match boundOf? 0 lo, boundOf? s.size hi with
    | some l, some r => chk (0 ≤ l ∧ l ≤ r ∧ r ≤ s.size) (k (.c (.p (.v (.string (s.extract l.toNat r.toNat))))) [])
    | _, _ => .fail
  | some (.slice e), .c s => if s.isStr then .fail else match elems h s with
    | some (n, f) => match boundOf? 0 lo, boundOf? n hi, szOf P e with
      | some l, some r, some sz => if (f 0).length = sz ∨ n = 0 then chk (0 ≤ l ∧ l ≤ r ∧ r ≤ n) (k (.c (.p (.sl (r.toNat - l.toNat) (fun i => f (i + l.toNat))))) (frozenBy h s)) else .fail
      | _, _, _ => .fail
    | none => .fail
  | some (.array n e), .c (.ptr l off) => match szOf P e, lo, hi with
    | some sz, none, none => k (.c (.bs l off sz n)) []
    | some sz, none, some hi => match intOf? hi with
      | some r => chk (0 ≤ r ∧ r ≤ n) (k (.c (.bs l off sz r.toNat)) [])
      | none => .fail
    | _, _, _ => .fail
  | _, _ => .fail

def indexAddrAV (P : Program) (h : Hp) (t : TypeId) (x i : AV) (k : KVt) : Tr :=
  match P.underlying t, x, intOf? i with
  | some (.array n e), .c (.ptr l off), some i => match szOf P e with
    | some sz => chk (0 ≤ i ∧ i < n) (k (.c (.ptr l (off + i.toNat * sz))) [])
    | none => .fail
  | some (.slice e), .c (.p (.sl n f)), some i => match szOf P e with
    | some sz => chk (0 ≤ i ∧ i < n) (if (f i.toNat).length = sz then k (.c (.ip (f i.toNat))) [] else .fail)
    | none => .fail
  | some (.slice e), .c (.os l), some i => match szOf P e, h[l]? with
    | some sz, some (.row e' n f _) => if e' = e then chk (0 ≤ i ∧ i < n) (k (.c (.ep l i.toNat 0)) []) else .fail
    | some sz, some (.rrow xs) => match xs with
      | x :: _ => if x.length = sz then chk (0 ≤ i ∧ i < xs.length) (k (.c (.ep l i.toNat 0)) []) else .fail
      | [] => .fail
    | _, _ => .fail
  | some (.slice e), .c (.bs l off sz n), some i => match szOf P e with
    | some sz' => chk (0 ≤ i ∧ i < n) (if sz' = sz then k (.c (.ptr l (off + i.toNat * sz))) [] else .fail)
    | none => .fail
  | _, _, _ => .fail

def indexAV (P : Program) (t : TypeId) (x i : AV) (k : KVt) : Tr :=
  match P.underlying t, x, intOf? i with
  | some (.array n e), .agg cs, some i => match bigInts P n e cs with
    | some (kd, l) => match szOf P e with
      | some 1 => chk (0 ≤ i ∧ i < n ∧ i.toNat < l.length) (k (.c (.p (.v (.int kd (l.getD i.toNat 0))))) [])
      | _ => .fail
    | none => match szOf P e with
    | some sz => chk (0 ≤ i ∧ i < n ∧ i.toNat * sz + sz ≤ cs.length) (mkV P e (seg cs (i.toNat * sz) sz) fun v => k v [])
    | none => .fail
  | some .string, .c (.p (.v (.string s))), some i => chk (0 ≤ i ∧ i < s.size) (k (.c (.p (.v (.int .u8 (byteAt s i.toNat))))) [])
  | _, _, _ => .fail

def fieldAddrAV (P : Program) (s : TypeId) (x : AV) (f : Nat) (k : KVt) : Tr :=
  match fieldOff P s f, x with
  | some (o, _), .c (.ptr l off) => k (.c (.ptr l (off + o))) []
  | some (o, _), .c (.ep l i off) => k (.c (.ep l i (off + o))) []
  | some (o, _), .c (.ip cs) => k (.c (.ip (cs.drop o))) []
  | _, _ => .fail

def fieldAV (P : Program) (s : TypeId) (x : AV) (f : Nat) (k : KVt) : Tr :=
  match fieldOff P s f, x with
  | some (o, ty), .agg cs => match szOf P ty with
    | some n => if o + n ≤ cs.length then mkV P ty (seg cs o n) fun v => k v [] else .fail
    | none => .fail
  | _, _ => .fail

def sca (r : Option Value) (k : KVt) : Tr := match r with
  | some r => if scalar r then k (.c (.p (.v r))) [] else .fail
  | none => .fail
def pure1 (P : Program) (f : Value → Sem Value) (x : AV) (k : KVt) : Tr := match conc x with
  | some a => sca (pureOf P (f a)) k
  | none => .fail
def pure2 (P : Program) (f : Value → Value → Sem Value) (x y : AV) (k : KVt) : Tr := match conc x, conc y with
  | some a, some b => sca (pureOf P (f a b)) k
  | _, _ => .fail

def intOp (op : BinOp) (t : IntKind) (a b : Int) (k : KVt) : Tr :=
  let n (x : Int) : Tr := k (.c (.p (.v (.int t x)))) []
  let q (x : Bool) : Tr := k (.c (.p (.v (.bool x)))) []
  match op with
  | .add => n (t.wrap (a + b))
  | .sub => n (t.wrap (a - b))
  | .mul => n (t.wrap (a * b))
  | .quo => chk (b ≠ 0) (n (t.wrap (a.tdiv b)))
  | .rem => chk (b ≠ 0) (n (a.tmod b))
  | .and => n (t.wrap (BitVec.ofInt t.bits a &&& BitVec.ofInt t.bits b).toNat)
  | .or => n (t.wrap (BitVec.ofInt t.bits a ||| BitVec.ofInt t.bits b).toNat)
  | .xor => n (t.wrap (BitVec.ofInt t.bits a ^^^ BitVec.ofInt t.bits b).toNat)
  | .andNot => n (t.wrap (BitVec.ofInt t.bits a &&& ~~~ BitVec.ofInt t.bits b).toNat)
  | .eql => q (a == b)
  | .neq => q (a != b)
  | .lss => q (a < b)
  | .leq => q (a ≤ b)
  | .gtr => q (a > b)
  | .geq => q (a ≥ b)
  | _ => .fail

def binAV (P : Program) (op : BinOp) (ty : TypeId) (xo yo : Operand) (x y : AV) (k : KVt) : Tr :=
  match op, x, y with
  | .shl, .c (.p (.v (.int t a))), .c (.p (.v (.int _ b))) => chk (0 ≤ b) (k (.c (.p (.v (.int t (t.wrap (a * 2 ^ (min b.toNat t.bits))))))) [])
  | .shr, .c (.p (.v (.int t a))), .c (.p (.v (.int _ b))) => chk (0 ≤ b) (k (.c (.p (.v (.int t (a.fdiv (2 ^ (min b.toNat t.bits))))))) [])
  | op, .c (.p (.v (.int t a))), .c (.p (.v (.int u b))) => if t = u then intOp op t a b k else .fail
  | .eql, .agg xs, .agg ys => match eqAgg P ty xs ys with
    | some q => k (.c (.p (.v (.bool q)))) []
    | none => .fail
  | .neq, .agg xs, .agg ys => match eqAgg P ty xs ys with
    | some q => k (.c (.p (.v (.bool !q)))) []
    | none => .fail
  | op, x, y => pure2 P (fun u v => do eqGuard op ty xo yo u v; binOp op ty u v) x y k

def appendAV (P : Program) (h : Hp) (b : Nat) (ts : Array TypeId) (s x : AV) (k : KVt) : Tr :=
  match ts[0]?, ts[1]?, s, x with
  | some t, some u, .c s, .c x => match P.underlying t with
    | some (.slice e) => match P.info? e, zeroCs P e, elems h x, grows h e s with
      | some i, some zs, some (m, g), some (n, f, d) =>
        if 0 < i.size ∧ zs.length = i.size ∧ srcOk P t u i x = true ∧ ((g 0).length = i.size ∨ m = 0) then
          chk ((n + m) * i.bytes ≤ 140737488355328 ∧ n + m ≤ 9223372036854775807) (k (.c (.os b)) (d ++ [(b, .row e (n + m) (catF n f g) true)]))
        else .fail
      | _, _, _, _ => .fail
    | _ => .fail
  | _, _, _, _ => .fail

def copyAV (P : Program) (h : Hp) (ts : Array TypeId) (s x : AV) (k : KVt) : Tr :=
  match ts[0]?, s, x with
  | some t, .c (.bs l off sz n), .c x => match h[l]?, elems h x, P.underlying t with
    | some (.box cs true), some (m, g), some (.slice e) => match szOf P e with
      | some 1 => if off + n ≤ cs.length ∧ x.isStr = false ∧ sz = 1 ∧ ((g 0).length = 1 ∨ m = 0) then
          k (.c (.p (.v (.int .i64 (min m n : Nat))))) [(l, .box (cs.take off ++ copyCs m g 0 n (cs.drop off)) true)]
        else .fail
      | _ => .fail
    | _, _, _ => .fail
  | _, _, _ => .fail

def makeSliceAV (P : Program) (b : Nat) (t : TypeId) (l c : AV) (k : KVt) : Tr :=
  match P.underlying t, intOf? l, intOf? c with
  | some (.slice e), some n, some m => match P.info? e, zeroCs P e with
    | some i, some zs => match pures zs with
      | some ps => if 0 < i.size ∧ zs.length = i.size then
          chk (n = m ∧ 0 ≤ n ∧ n * i.bytes ≤ 281474976710656 ∧ n ≤ 9223372036854775807) (k (.c (.os b)) [(b, .row e n.toNat (fun _ => ps) true)])
        else .fail
      | none => .fail
    | _, _ => .fail
  | _, _, _ => .fail

def convertAV (P : Program) (h : Hp) (src dst : TypeId) (x : AV) (k : KVt) : Tr :=
  match P.underlying src, P.underlying dst, x with
  | some .string, some (.slice e), .c (.p (.v (.string s))) => match P.underlying e with
    | some (.int .u8) => if szOf P e = some 1 then k (.c (.p (.sl s.size (strF s)))) [] else .fail
    | _ => .fail
  | some (.slice e), some .string, .c x => match P.underlying e with
    | some (.int .u8) => if x.isStr then .fail else match elems h x with
      | some (n, f) => chk (bytesOk n f = true) (k (.c (.p (.v (.string (textOf n f))))) [])
      | none => .fail
    | _ => .fail
  | some (.slice _), some (.slice e), .c (.os l) => match h[l]?, P.underlying e with
    | some (.row _ n f true), some (.int .u8) => if src = dst ∧ 0 < n then k (.c (.p (.sl n f))) [(l, .dead)] else .fail
    | _, _ => .fail
  | some _, some (.int t), .c (.p (.v (.int _ n))) => k (.c (.p (.v (.int t (t.wrap n))))) []
  | some _, some _, x => pure1 P (convert src dst) x k
  | _, _, _ => .fail

def builtinAV (P : Program) (h : Hp) (b : Nat) (bi : Builtin) (ts : Array TypeId) (ty : TypeId) (args : List AV) (k : KVt) : Tr :=
  match bi, args with
  | .len, [x] => match ts[0]? with
    | some t => if ts.size = 1 then match P.underlying t, x with
      | some .string, .c (.p (.v (.string s))) => k (.c (.p (.v (.int .i64 s.size)))) []
      | some (.slice _), .c x => match lenOf h x with
        | some n => k (.c (.p (.v (.int .i64 n)))) []
        | none => .fail
      | some (.array n _), _ => k (.c (.p (.v (.int .i64 n)))) []
      | _, _ => .fail
      else .fail
    | none => .fail
  | .append, [s, x] => if ts.size = 2 then appendAV P h b ts s x k else .fail
  | .copy, [s, x] => if ts.size = 2 then copyAV P h ts s x k else .fail
  | .min, [.c (.p (.v (.int t x))), .c (.p (.v (.int _ y)))] => k (.c (.p (.v (.int t (min x y))))) []
  | .max, [.c (.p (.v (.int t x))), .c (.p (.v (.int _ y)))] => k (.c (.p (.v (.int t (max x y))))) []
  | .real, xs => match concs xs with | some l => sca (pureOf P (Builtin.real_ ts ty l.toArray)) k | none => .fail
  | .imag, xs => match concs xs with | some l => sca (pureOf P (Builtin.imag_ ts ty l.toArray)) k | none => .fail
  | .complex, xs => match concs xs with | some l => sca (pureOf P (Builtin.complex_ ts ty l.toArray)) k | none => .fail
  | _, _ => .fail

def zeroAV (P : Program) (t : TypeId) (k : AV → Tr) : Tr := match P.info? t with
  | some i => match i.zero with
    | some z => k (absV z)
    | none => .fail
  | none => .fail

def assertAV (P : Program) (x : AV) (asserted : TypeId) (ok : Bool) (k : KVt) : Tr :=
  match P.underlying asserted with
  | some (.interface _) => .fail
  | some _ => match x with
    | .c (.p (.ifc t y)) =>
      if t = asserted then k (if ok then .tup [.c (.p y), .c (.p (.v (.bool true)))] else .c (.p y)) []
      else if ok then zeroAV P asserted fun z => k (.tup [z, .c (.p (.v (.bool false)))]) [] else .fail
    | .c (.p (.ifa t cs)) =>
      if t = asserted then k (if ok then .tup [.agg (cs.map .p), .c (.p (.v (.bool true)))] else .agg (cs.map .p)) []
      else if ok then zeroAV P asserted fun z => k (.tup [z, .c (.p (.v (.bool false)))]) [] else .fail
    | .c (.p (.v .nilIface)) => if ok then zeroAV P asserted fun z => k (.tup [z, .c (.p (.v (.bool false)))]) [] else .fail
    | _ => .fail
  | none => .fail

def ifaceAV (P : Program) (t : TypeId) (x : AV) (k : KVt) : Tr :=
  match P.underlying t with
  | some (.interface _) => .fail
  | some _ => match x with
    | .c (.p y) => k (.c (.p (.ifc t y))) []
    | .agg cs => match pures cs with
      | some ps => k (.c (.p (.ifa t ps))) []
      | none => .fail
    | _ => .fail
  | none => .fail

def iterNext (h : Hp) (x : AV) (k : KVt) : Tr := match x with
  | .c (.itp l) => match h[l]? with
    | some (.iter s pos) => .br (decide (pos < s.size))
        (k (.tup [.c (.p (.v (.bool true))), .c (.p (.v (.int .i64 pos))), .c (.p (.v (.int .i32 (Utf8.decode s pos).1)))]) [(l, .iter s (pos + (Utf8.decode s pos).2))])
        (k (.tup [.c (.p (.v (.bool false)))]) [])
    | _ => .fail
  | _ => .fail

def mapMakeAV (P : Program) (b : Nat) (t : TypeId) (k : KVt) : Tr := match strMap P t with
  | true => k (.c (.mp b)) [(b, .smap t (fun _ => 0) 0)]
  | false => .fail
def mapLookAV (P : Program) (h : Hp) (t : TypeId) (x i : AV) (k : KVt) : Tr := match strMap P t, x, i with
  | true, .c (.mp l), .c (.p (.v (.string s))) => match h[l]? with
    | some (.smap t' g _) => if t' = t then chk (s.size ≤ 9223372036854775807) (k (.c (.p (.v (.int .i64 (g s))))) []) else .fail
    | _ => .fail
  | _, _, _ => .fail
def mapPutAV (P : Program) (h : Hp) (t : TypeId) (x i v : AV) (k : KVt) : Tr := match strMap P t, x, i, v with
  | true, .c (.mp l), .c (.p (.v (.string s))), .c (.p (.v (.int .i64 n))) => match h[l]? with
    | some (.smap t' g m) => if t' = t then chk (s.size ≤ 9223372036854775807 ∧ m < 9223372036854775807 ∧ -9223372036854775808 ≤ n ∧ n ≤ 9223372036854775807) (k (.tup []) [(l, .smap t (putS g s n) (m + 1))]) else .fail
    | _ => .fail
  | _, _, _, _ => .fail

def xop (P : Program) (h : Hp) (b : Nat) (o : Oper) (t : Tm) (k : KVt) (kp : PV → Tr) : Tr :=
  match o.op with
  | .move x | .assign x => k (ev t x) []
  | .pick c x y => match ev t c with
    | .c (.p (.v (.bool q))) => .br q (k (ev t x) []) (k (ev t y) [])
    | _ => .fail
  | .alloc e => match zeroCs P e with
    | some zs => k (.c (.ptr b 0)) [(b, .box zs true)]
    | none => .fail
  | .box e x => match cellsOf (ev t x) with
    | some cs => k (.c (.ptr b 0)) [(b, .box cs true)]
    | none => .fail
  | .build ty parts => match buildAV P ty (parts.toList.map fun q => (q.1, ev t q.2)) with
    | some v => k v []
    | none => .fail
  | .buildSlice ty n parts => buildRow P b ty n (parts.toList.map fun q => (q.1, ev t q.2)) k
  | .load ty a => loadAV P h ty (ev t a) fun v => k v []
  | .store ty a x => storeAV P h ty (ev t a) (ev t x) k
  | .nilCheck x => if nilChk (ev t x) then k (ev t x) [] else .fail
  | .binOp op ty x y _ => match fltBin op (ev t x) (ev t y) with
    | some (q, v) => chk (q = true) (k v [])
    | none => binAV P op ty x y (ev t x) (ev t y) k
  | .unOp .not _ x => match ev t x with
    | .c (.p (.v (.bool q))) => k (.c (.p (.v (.bool (!q))))) []
    | _ => .fail
  | .unOp op _ x => pure1 P (Op.unary op) (ev t x) k
  | .convert src dst x => match fltConv P src dst (ev t x) with
    | some (q, v) => chk (q = true) (k v [])
    | none => convertAV P h src dst (ev t x) k
  | .makeInterface ty x => ifaceAV P ty (ev t x) k
  | .makeFunc (.func f) fs cs => if fs.isEmpty then
      if cs.isEmpty then k (.c (.p (.v (.func (.func f) #[] #[])))) [] else
      match capsOf (cs.toList.map (ev t)) with
      | some l => k (.c (.fn f l)) []
      | none => .fail
    else .fail
  | .makeSlice ty l c => makeSliceAV P b ty (ev t l) (ev t c) k
  | .slice ty x lo hi none => sliceAV P h ty (ev t x) (lo.map (ev t)) (hi.map (ev t)) k
  | .fieldAddr s x f => fieldAddrAV P s (ev t x) f k
  | .field s x f => fieldAV P s (ev t x) f k
  | .indexAddr ty x i => indexAddrAV P h ty (ev t x) (ev t i) k
  | .index ty x i => indexAV P ty (ev t x) (ev t i) k
  | .range ty x => match P.underlying ty, ev t x with
    | some .string, .c (.p (.v (.string s))) => k (.c (.itp b)) [(b, .iter s 0)]
    | _, _ => .fail
  | .next i true => iterNext h (ev t i) k
  | .makeMap ty none => mapMakeAV P b ty k
  | .lookup ty x i false => mapLookAV P h ty (ev t x) (ev t i) k
  | .mapUpdate ty x i v => mapPutAV P h ty (ev t x) (ev t i) (ev t v) k
  | .typeAssert x _ a ok => assertAV P (ev t x) a ok k
  | .extract x i => match ev t x with
    | .tup vs => match vs[i]? with
      | some v => k v []
      | none => .fail
    | _ => .fail
  | .call c => match c.callee with
    | .builtin bi => builtinAV P h b bi c.argTypes o.type (c.args.toList.map (ev t)) k
    | _ => .fail
  | .panic x => match ev t x with
    | .c (.p y) => if isIface y then kp y else .fail
    | _ => .fail
  | _ => .fail

def frcV (x : Value) (k : Value → Tr) : Tr := match x with
  | .int t n => k (.int t n)
  | .bool b => k (.bool b)
  | .string s => k (.string s)
  | .complex t a b => k (.complex t a b)
  | .float t a => k (.float t a)
  | .func f a b => k (.func f a b)
  | .nilIface => k .nilIface
  | x => k x
def frcN (n : Nat) (k : Nat → Tr) : Tr := match n with
  | 0 => k 0
  | m + 1 => k (m + 1)
def frcC (x : CV) (k : CV → Tr) : Tr := match x with
  | .p (.v x) => frcV x fun x => k (.p (.v x))
  | .p (.sl n f) => k (.p (.sl n f))
  | .p (.ifc t x) => k (.p (.ifc t x))
  | .p (.ifa t x) => k (.p (.ifa t x))
  | .nils => k .nils
  | .ptr l o => frcN l fun l => k (.ptr l o)
  | .ep l i o => frcN l fun l => k (.ep l i o)
  | .os l => frcN l fun l => k (.os l)
  | .bs l a b c => frcN l fun l => k (.bs l a b c)
  | .ip cs => k (.ip cs)
  | .fn f cs => k (.fn f cs)
  | .itp l => frcN l fun l => k (.itp l)
  | .mp l => frcN l fun l => k (.mp l)
def frcCs (x : List CV) (k : List CV → Tr) : Tr := match x with
  | [] => k []
  | x :: l => frcC x fun x => frcCs l fun l => k (x :: l)
def frcA (x : AV) (k : AV → Tr) : Tr := match x with
  | .c x => frcC x fun x => k (.c x)
  | .agg cs => frcCs cs fun cs => k (.agg cs)
  | .tup vs => frcL vs fun vs => k (.tup vs)
  | .top => k .top
where frcL (x : List AV) (k : List AV → Tr) : Tr := match x with
  | [] => k []
  | x :: l => frcA x fun x => frcL l fun l => k (x :: l)
def frcO (x : Ob) (k : Ob → Tr) : Tr := match x with
  | .box cs q => frcCs cs fun cs => k (.box cs q)
  | .row e n f q => k (.row e n f q)
  | .rrow xs => k (.rrow xs)
  | .iter s p => k (.iter s p)
  | .smap t g n => k (.smap t g n)
  | .dead => k .dead
def frcH (x : Hp) (k : Hp → Tr) : Tr := match x with
  | [] => k []
  | o :: l => frcO o fun o => frcH l fun l => k (o :: l)

/-- Where nothing changed nothing is worked out anew. -/
def frcD (h : Hp) (d : Dl) (k : Hp → Tr) : Tr := match d with
  | [] => k h
  | d => frcH (applyD h d) k

def afterCall (own : Bool) (args : List AV) (h : Hp) (ns : List Nat) (k : KVt) (kp : PV → Dl → Tr) (a : Ans) : Tr :=
  match a.e, a.vals with
  | .ret, [v] => k (v.ren (backName ns h.length)) ((if own then [] else frzDL h args) ++ backD (backName ns h.length) a.h)
  | .pan x, [] => kp x ((if own then [] else frzDL h args) ++ backD (backName ns h.length) a.h)
  | _, _ => .fail

def doCall (C : Cfg) (f : FuncId) (args : List AV) (h : Hp) (k : KVt) (kp : PV → Dl → Tr) : Tr :=
  match C.ownA f with
  | true => match localize 0 args h with
    | some (vs, hl, ns) => frcA.frcL vs fun vs => .ask (.call f vs hl) (afterCall true args h ns k kp)
    | none => .fail
  | false => match localize 0 (frzL h args) (applyD h (frzDL h args)) with
    | some (vs, hl, ns) => frcA.frcL vs fun vs => .ask (.call f vs hl) (afterCall false args h ns k kp)
    | none => .fail

def guardOf (ops : Array Oper) (t : Tm) (o : Oper) (x y : Tr) : Tr :=
  match o.guard with
  | none => x
  | some (j, want) => match ops[j]? with
    | none => y
    | some o' => match o'.dst with
      | none => y
      | some d => match t d with
        | .c (.p (.v (.bool q))) => match want with
          | true => bif q then x else y
          | false => bif q then y else x
        | .tup _ => y
        | _ => .fail

def evOp (C : Cfg) (P : Program) (o : Oper) (t : Tm) (h : Hp) (k : KVt) (kp : PV → Dl → Tr) : Tr :=
  match o.op with
  | .call c => match c.callee with
    | .builtin _ => xop P h h.length o t k fun x => kp x []
    | _ => match callee P t c with
      | some (f, args) => doCall C f args h k kp
      | none => .fail
  | _ => xop P h h.length o t k fun x => kp x []

def settle (d : Nat) (t : Tm) (k : Tm → Tr) : Tr := match t d with
  | .c (.p (.v (.bool q))) => .br q (k (upd t d (.c (.p (.v (.bool true)))))) (k (upd t d (.c (.p (.v (.bool false))))))
  | _ => k t
def settleG (ops : Array Oper) (o : Oper) (t : Tm) (k : Tm → Tr) : Tr := match o.guard with
  | none => k t
  | some (j, _) => match ops[j]? with
    | none => k t
    | some o' => match o'.dst with
      | none => k t
      | some d => settle d t k
def settleO (c : Operand) (t : Tm) (k : Tm → Tr) : Tr := match c with
  | .tmp d => settle d t k
  | _ => k t
def putK (t : Tm) (d : Option Nat) (v : AV) (k : Tm → Tr) : Tr := match d with
  | some d => k (upd t d v)
  | none => k t

noncomputable def nilK (n : Nat) (q : Bool) (k : Bool → Tr) : Tr := .br (decide (n = 0)) (.both (k q) (k (!q))) (k (!q))

noncomputable def evOps (C : Cfg) (P : Program) (ops : Array Oper) (l : List Oper) : Tm → Hp → KTt → Tr :=
  List.rec (motive := fun _ => Tm → Hp → KTt → Tr) (fun t h K => K .normal t h)
    (fun o r ih t h K => settleG ops o t fun t => guardOf ops t o
      (match nilT P t o with
        | some (n, q) => nilK n q fun b => putK t o.dst (.c (.p (.v (.bool b)))) fun t => ih t h K
        | none => evOp C P o t h (fun v d => frcA v fun v => frcD h d fun h' => putK t o.dst v fun t => ih t h' K) (fun x d => frcD h d fun h' => K (.pan x) t h'))
      (putK t o.dst (.tup []) fun t => ih t h K)) l
noncomputable def evDraw (C : Cfg) (P : Program) (ops : Array Oper) (bs : List Nat) (l : List Oper) : List (Nat × Nat) → Tm → Hp → KTt → Tr :=
  List.rec (motive := fun _ => List (Nat × Nat) → Tm → Hp → KTt → Tr) (fun _ t h K => K .normal t h)
    (fun o r ih rec t h K => settleG ops o t fun t => guardOf ops (maskT (guardTmps ops o) t) o
      (match reach h 200 (opRefs o t) [] with
        | some ns => evOp C P o (maskT (tmpsOf o.op.operands.toList) t) (mask (bits ns) 0 h) (fun v d => frcA v fun v => frcD h d fun h' => match drawStep ns h h' rec (bs.getD rec.length 0) d with
            | some rec' => putK t o.dst v fun t => ih rec' t h' K
            | none => .fail) (fun _ _ => .fail)
        | none => .fail)
      (putK t o.dst (.tup []) fun t => ih (rec ++ [(0, 0)]) t h K)) l
noncomputable def evC (C : Cfg) (P : Program) (f m : Nat) (p : List Nat) (c : Code) : Tm → Hp → KTt → Tr :=
  Code.rec (motive := fun _ => List Nat → Tm → Hp → KTt → Tr)
    (fun _ t h K => K .normal t h)
    (fun _ ops draw p t h K => match draw with
      | false => evOps C P ops ops.toList t h K
      | true => match drawOk ops with
        | true => match C.pre f p with
          | [] => evDraw C P ops (befs ops.toList []) ops.toList [] t h K
          | ts => frcH (applyD h (frzDL h (ts.map t))) fun h' => evDraw C P ops (befs ops.toList []) ops.toList [] (frzT h ts t) h' K
        | false => .fail)
    (fun _ _ ia ib p t h K => ia (p ++ [0]) t h fun e t' h' => match e with
      | .normal => ib (p ++ [1]) t' h' K
      | e => K e t' h')
    (fun c _ _ ia ib p t h K => settleO c t fun t => match ev t c with
      | .c (.p (.v (.bool q))) => bif q then ia (p ++ [0]) t h K else ib (p ++ [1]) t h K
      | _ => .fail)
    (fun id _ ia p t h K => ia (p ++ [0]) t h fun e t' h' => match e with
      | .exit i => if i = id then K .normal t' h' else K (.exit i) t' h'
      | e => K e t' h')
    (fun _ _ p t h K => match localize m ((C.keep f p).map t) h with
      | some (vs, h', _) => .ask (.loop f m p vs h') fun r => K r.e (fromKeep (C.keep f p) r.vals) r.h
      | none => .fail)
    (fun _ _ _ _ _ _ p t h K => match localize m ((C.keep f p).map t) h with
      | some (vs, h', _) => .ask (.loop f m p vs h') fun r => K r.e (fromKeep (C.keep f p) r.vals) r.h
      | none => .fail)
    (fun id _ t h K => K (.exit id) t h)
    (fun _ _ _ _ _ _ => .fail)
    (fun _ _ _ _ _ => .fail)
    (fun _ _ _ _ _ => .fail)
    (fun _ t h K => K .ret t h)
    (fun _ _ _ _ _ => .fail) c p
def resAV (P : Program) (t : Tm) (h : Hp) (r : ResultVar) (k : AV → Tr) : Tr := match r with
  | .tmp j => k (t j)
  | .cell j ty => loadAV P h ty (t j) k
def resL (P : Program) (t : Tm) (h : Hp) : List ResultVar → (List AV → Tr) → Tr
  | [], k => k []
  | r :: l, k => resAV P t h r fun v => resL P t h l fun vs => k (v :: vs)

def endCall (C : Cfg) (P : Program) (f m : Nat) (fn : Func) (k : Ans → Tr) : KTt := fun e t h => match e with
  | .pan x => match localize m [] h with
    | some (_, h2, _) => k ⟨.pan x, [], h2⟩
    | none => .fail
  | .exit _ => .fail
  | _ => resL P t h fn.results.toList fun vs => match C.ownR f with
    | true => match localize m [oneOr vs] h with
      | some (vs, h2, _) => k ⟨.ret, vs, h2⟩
      | none => .fail
    | false => match localize m [frzA h (oneOr vs)] (applyD h (frzD h (oneOr vs))) with
      | some (vs, h2, _) => k ⟨.ret, vs, h2⟩
      | none => .fail

def endRound (C : Cfg) (f m : Nat) (p : List Nat) (k : Ans → Tr) : KTt := fun e t h => match e with
  | .normal => match localize m ((C.keep f p).map t) h with
    | some (vs, h2, _) => .ask (.loop f m p vs h2) k
    | none => .fail
  | .pan x => match localize m [] h with
    | some (_, h2, _) => k ⟨.pan x, [], h2⟩
    | none => .fail
  | e => match localize m ((C.keep f p).map t) h with
    | some (vs, h2, _) => k ⟨e, vs, h2⟩
    | none => .fail

noncomputable def evQ (C : Cfg) (P : Program) (q : Qry) (k : Ans → Tr) : Tr := match q with
  | .call f args h => match P.funcs[f]? with
    | some fn => match fn.body with
      | some c => evC C P f h.length [] c (argsT args) h (endCall C P f h.length fn k)
      | none => .fail
    | none => .fail
  | .loop f m p vals h => match P.funcs[f]? with
    | some fn => match fn.body with
      | some c => match codeAt p c with
        | some (.loop a) => evC C P f m (p ++ [0]) a (fromKeep (C.keep f p) vals) h (endRound C f m p k)
        | _ => .fail
      | none => .fail
    | none => .fail

section
variable (C : Cfg) (P : Program) (f m : Nat) (p : List Nat) (t : Tm) (h : Hp) (K : KTt)
theorem evOps_nil (ops : Array Oper) : evOps C P ops [] t h K = K .normal t h := rfl
theorem evOps_cons (ops : Array Oper) (o : Oper) (r : List Oper) : evOps C P ops (o :: r) t h K = settleG ops o t fun t => guardOf ops t o
      (match nilT P t o with
        | some (n, q) => nilK n q fun b => putK t o.dst (.c (.p (.v (.bool b)))) fun t => evOps C P ops r t h K
        | none => evOp C P o t h (fun v d => frcA v fun v => frcD h d fun h' => putK t o.dst v fun t => evOps C P ops r t h' K) (fun x d => frcD h d fun h' => K (.pan x) t h'))
      (putK t o.dst (.tup []) fun t => evOps C P ops r t h K) := rfl
theorem evDraw_nil (ops : Array Oper) (bs : List Nat) (rec : List (Nat × Nat)) : evDraw C P ops bs [] rec t h K = K .normal t h := rfl
theorem evDraw_cons (ops : Array Oper) (bs : List Nat) (o : Oper) (r : List Oper) (rec : List (Nat × Nat)) : evDraw C P ops bs (o :: r) rec t h K = settleG ops o t fun t => guardOf ops (maskT (guardTmps ops o) t) o
      (match reach h 200 (opRefs o t) [] with
        | some ns => evOp C P o (maskT (tmpsOf o.op.operands.toList) t) (mask (bits ns) 0 h) (fun v d => frcA v fun v => frcD h d fun h' => match drawStep ns h h' rec (bs.getD rec.length 0) d with
            | some rec' => putK t o.dst v fun t => evDraw C P ops bs r rec' t h' K
            | none => .fail) (fun _ _ => .fail)
        | none => .fail)
      (putK t o.dst (.tup []) fun t => evDraw C P ops bs r (rec ++ [(0, 0)]) t h K) := rfl
theorem evC_skip : evC C P f m p .skip t h K = K .normal t h := rfl
theorem evC_region (id : Nat) (ops : Array Oper) (draw : Bool) : evC C P f m p (.region id ops draw) t h K = match draw with
      | false => evOps C P ops ops.toList t h K
      | true => match drawOk ops with
        | true => match C.pre f p with
          | [] => evDraw C P ops (befs ops.toList []) ops.toList [] t h K
          | ts => frcH (applyD h (frzDL h (ts.map t))) fun h' => evDraw C P ops (befs ops.toList []) ops.toList [] (frzT h ts t) h' K
        | false => .fail := rfl
theorem evC_seq (a b : Code) : evC C P f m p (.seq a b) t h K = evC C P f m (p ++ [0]) a t h fun e t' h' => match e with
      | .normal => evC C P f m (p ++ [1]) b t' h' K
      | e => K e t' h' := rfl
theorem evC_cond (c : Operand) (a b : Code) : evC C P f m p (.cond c a b) t h K = settleO c t fun t => match ev t c with
      | .c (.p (.v (.bool q))) => bif q then evC C P f m (p ++ [0]) a t h K else evC C P f m (p ++ [1]) b t h K
      | _ => .fail := rfl
theorem evC_block (id : Nat) (a : Code) : evC C P f m p (.block id a) t h K = evC C P f m (p ++ [0]) a t h fun e t' h' => match e with
      | .exit i => if i = id then K .normal t' h' else K (.exit i) t' h'
      | e => K e t' h' := rfl
theorem evC_loop (a : Code) : evC C P f m p (.loop a) t h K = match localize m ((C.keep f p).map t) h with
      | some (vs, h', _) => .ask (.loop f m p vs h') fun r => K r.e (fromKeep (C.keep f p) r.vals) r.h
      | none => .fail := rfl
theorem evC_rangeFunc (g : Operand) (ps : Array Tmp) (a b : Code) : evC C P f m p (.rangeFunc g ps a b) t h K = match localize m ((C.keep f p).map t) h with
      | some (vs, h', _) => .ask (.loop f m p vs h') fun r => K r.e (fromKeep (C.keep f p) r.vals) r.h
      | none => .fail := rfl
theorem evC_exit (id : Nat) : evC C P f m p (.exit id) t h K = K (.exit id) t h := rfl
theorem evC_ret : evC C P f m p .ret t h K = K .ret t h := rfl
end
end T
end Go.Fx
