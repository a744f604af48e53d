/- The abstract heap: objects by number, a frame of slots, and an interpreter of the model's code over them, in passing style. No condition. -/
import Derived.Calls
import Derived.Orders
set_option linter.unusedVariables false
namespace Go.Proofs.YtaaacaejpchbpaaGreat
namespace Ab
open Go

inductive HObj where
  | none
  | cells (cs : List Value) (esz : Nat) (ro : Bool)
  | map (es : List (Value × Value))

structure Heap where
  size : Nat
  get : Nat → HObj

def Heap.push (h : Heap) (o : HObj) : Heap := ⟨h.size + 1, fun i => if i = h.size then o else h.get i⟩
def Heap.put (h : Heap) (j : Nat) (o : HObj) : Heap := ⟨h.size, fun i => if i = j then o else h.get i⟩

abbrev Fr := Nat → Option Value
def Fr.set (fr : Fr) (d : Nat) (v : Value) : Fr := fun s => if s = d then some v else fr s
def Fr.put (fr : Fr) (d : Option Nat) (v : Value) : Fr := match d with | some d => fr.set d v | none => fr
def Fr.skip (fr : Fr) (d : Option Nat) : Fr := fr.put d undef

inductive Kd where
  | int (k : IntKind) | bool | str | ptr | sl | map | any

inductive Sh where
  | int (k : IntKind) | bool | str | ptr | slice (e : Nat) | array (n e : Nat) | struct (fs : List (Nat × Nat)) | map (k e : Nat) | iface | tuple (ts : List Nat) | fn | other | no

structure TyR where
  sh : Sh
  size : Nat
  bytes : Nat
  zero : List Value
  ks : List Kd
  rc : Nat
  vc : Nat

def TyR.isAgg (r : TyR) : Bool := match r.sh with | .struct _ | .array _ _ => true | _ => false

def TyR.ok (r : TyR) : Bool := match r.sh with | .no => false | _ => true

inductive RK where
  | atom (k : Kd)
  | agg (ks : List Kd)

section
variable {ρ : Type}

def cI (k : IntKind) (v : Value) (K : Int → Option ρ) : Option ρ := match v with | .int k' n => if k' = k then K n else none | _ => none
def cB (v : Value) (K : Bool → Option ρ) : Option ρ := match v with | .bool b => K b | _ => none
def cS (v : Value) (K : ByteArray → Option ρ) : Option ρ := match v with | .string b => K b | _ => none
def cP (v : Value) (K : Option Addr → Option ρ) : Option ρ := match v with | .pointer b => K b | _ => none
def cL (v : Value) (K : Option Addr → Nat → Nat → Option ρ) : Option ρ := match v with | .slice p n c => K p n c | _ => none
def cM (v : Value) (K : Option Nat → Option ρ) : Option ρ := match v with | .map b => K b | _ => none
def cA (v : Value) (K : List Value → Option ρ) : Option ρ := match v with | .agg cs => K cs.toList | _ => none
def cT (v : Value) (K : List Value → Option ρ) : Option ρ := match v with | .tuple cs => K cs.toList | _ => none
def uc (l : List Value) (K : Value → List Value → Option ρ) : Option ρ := match l with | v :: l => K v l | [] => none
def ue (l : List Value) (K : Option ρ) : Option ρ := match l with | [] => K | _ => none

def cast1 (k : Kd) (v : Value) (K : Value → Option ρ) : Option ρ :=
  match k with
  | .int ik => cI ik v fun n => K (.int ik n)
  | .bool => cB v fun b => K (.bool b)
  | .str => cS v fun b => K (.string b)
  | .ptr => cP v fun b => K (.pointer b)
  | .sl => cL v fun p n c => K (.slice p n c)
  | .map => cM v fun r => K (.map r)
  | .any => K v

def castL : List Kd → List Value → (List Value → Option ρ) → Option ρ
  | [], l, K => ue l (K [])
  | k :: ks, l, K => uc l fun v l => cast1 k v fun v' => castL ks l fun r => K (v' :: r)

def castTy (r : TyR) (v : Value) (K : Value → Option ρ) : Option ρ :=
  match r.isAgg with
  | true => cA v fun l => castL r.ks l fun l' => K (.agg ⟨l'⟩)
  | false => match r.ks with | [k] => cast1 k v K | _ => none

def castTs (T : Nat → TyR) : List Nat → List Value → (List Value → Option ρ) → Option ρ
  | [], l, K => ue l (K [])
  | t :: ts, l, K => uc l fun v l => castTy (T t) v fun v' => castTs T ts l fun r => K (v' :: r)

def castAny (T : Nat → TyR) (t : Nat) (v : Value) (K : Value → Option ρ) : Option ρ :=
  match (T t).sh with
  | .tuple ts => cT v fun l => castTs T ts l fun r => K (.tuple ⟨r⟩)
  | _ => castTy (T t) v K

def castRK (k : RK) (v : Value) (K : Value → Option ρ) : Option ρ :=
  match k with
  | .atom k => cast1 k v K
  | .agg ks => cA v fun l => castL ks l fun l' => K (.agg ⟨l'⟩)

/- memory -/
def cellAt (h : Heap) (a : Addr) (i : Nat) : Option Value := match h.get a.block with | .cells cs _ _ => cs[a.off + i]? | _ => none
def nn (p : Option Addr) (K : Addr → Option ρ) : Option ρ := match p with | some a => K a | none => none
def ld (h : Heap) (p : Option Addr) (i : Nat) (K : Value → Option ρ) : Option ρ :=
  match p with
  | some a => match cellAt h a i with | some v => K v | none => none
  | none => none
def ldL (h : Heap) (p : Option Addr) : List Kd → Nat → (List Value → Option ρ) → Option ρ
  | [], _, K => K []
  | k :: ks, i, K => ld h p i fun v => cast1 k v fun v' => ldL h p ks (i + 1) fun r => K (v' :: r)
def ldTy (r : TyR) (h : Heap) (p : Option Addr) (K : Value → Option ρ) : Option ρ :=
  match r.isAgg with
  | true => if r.ks.length = r.size then ldL h p r.ks 0 fun l => K (.agg ⟨l⟩) else none
  | false => match r.ks with | [k] => ld h p 0 fun v => cast1 k v K | _ => none
def ldI (k : IntKind) (h : Heap) (p : Option Addr) (i : Nat) (K : Int → Option ρ) : Option ρ := ld h p i fun v => cI k v K
def ldB (h : Heap) (p : Option Addr) (i : Nat) (K : Bool → Option ρ) : Option ρ := ld h p i fun v => cB v K
def ldS (h : Heap) (p : Option Addr) (i : Nat) (K : ByteArray → Option ρ) : Option ρ := ld h p i fun v => cS v K
def ldP (h : Heap) (p : Option Addr) (i : Nat) (K : Option Addr → Option ρ) : Option ρ := ld h p i fun v => cP v K
def ldD (h : Heap) (p : Option Addr) (i : Nat) (K : Option Addr → Nat → Nat → Option ρ) : Option ρ := ld h p i fun v => cL v K
def ldM (h : Heap) (p : Option Addr) (i : Nat) (K : Option Nat → Option ρ) : Option ρ := ld h p i fun v => cM v K

def setL : List Value → Nat → List Value → List Value
  | cs, _, [] => cs
  | cs, o, v :: vs => setL (cs.set o v) (o + 1) vs
def one : Value → Bool
  | .agg _ | .tuple _ => false
  | _ => true
def st (h : Heap) (p : Option Addr) (vs : List Value) (K : Heap → Option ρ) : Option ρ :=
  match p with
  | some a => match h.get a.block with
    | .cells cs e false => if a.off + vs.length ≤ cs.length ∧ vs.all one = true then K (h.put a.block (.cells (setL cs a.off vs) e false)) else none
    | _ => none
  | none => none

/- the cells of a slice, or the bytes of a string -/
def src (h : Heap) (esz : Nat) (x : Value) (K : List Value → Option ρ) : Option ρ :=
  match x with
  | .slice none n _ => if n = 0 then K [] else none
  | .slice (some a) n _ => match h.get a.block with
    | .cells cs _ _ => if a.off + n * esz ≤ cs.length then K ((cs.drop a.off).take (n * esz)) else none
    | _ => none
  | .string s => K (s.data.toList.map fun b => .int .u8 b.toNat)
  | _ => none
def lenV (x : Value) : Nat := match x with | .slice _ n _ => n | .string s => s.size | _ => 0
def byteL : List Value → List UInt8 → Option (List UInt8)
  | [], acc => some acc.reverse
  | .int .u8 n :: l, acc => byteL l (UInt8.ofNat n.toNat :: acc)
  | _ :: _, _ => none
def toStr (h : Heap) (p : Option Addr) (n : Nat) : Option ByteArray :=
  match p with
  | none => if n = 0 then some ⟨#[]⟩ else none
  | some a => match h.get a.block with
    | .cells cs _ _ => if a.off + n ≤ cs.length then (byteL ((cs.drop a.off).take n) []).map fun l => ⟨l.toArray⟩ else none
    | _ => none
def strOf (h : Heap) (p : Option Addr) (n : Nat) (K : ByteArray → Option ρ) : Option ρ := match toStr h p n with | some s => K s | none => none
def bytesOf (h : Heap) (s : ByteArray) (rc : Nat) (K : Option Addr → Nat → Nat → Heap → Option ρ) : Option ρ :=
  K (some ⟨h.size, 0, none⟩) s.size s.size (h.push (.cells (s.data.toList.map fun b => .int .u8 b.toNat) rc false))

/- a row's code: how many cells an element has, and (above 65536) one more than its type, where that is told; a variable's: no cells, and so on -/
def isV (e : Nat) : Bool := e % 65536 == 0
def small (n b : Nat) : Bool := decide (n * (b + 1) ≤ 1099511627776)

def app (h : Heap) (esz rc bts : Nat) (p : Option Addr) (n c : Nat) (m : Nat) (new : List Value) (K : Option Addr → Nat → Nat → Heap → Option ρ) : Option ρ :=
  if new.length = m * esz ∧ new.all one = true then
    if n + m ≤ c then
      match p with
      | none => if m = 0 then K none n c h else none
      | some a => match h.get a.block with
        | .cells cs e false => if a.off + n * esz + new.length ≤ cs.length then K p (n + m) c (h.put a.block (.cells (setL cs (a.off + n * esz) new) e false)) else none
        | _ => none
    else if small (n + m) bts then
      match p with
      | none => if n = 0 then K (some ⟨h.size, 0, none⟩) (n + m) (n + m) (h.push (.cells new rc false)) else none
      | some a => match h.get a.block with
        | .cells cs e false => if e = rc ∧ a.off + n * esz ≤ cs.length then K (some ⟨h.size, 0, none⟩) (n + m) (n + m) ((h.put a.block .none).push (.cells ((cs.drop a.off).take (n * esz) ++ new) rc false)) else none
        | _ => none
    else none
  else none

def tas (t t' : Nat) (K : Option ρ) : Option ρ := if t = t' then K else none
def nneg (b : Int) (K : Option ρ) : Option ρ := if 0 ≤ b then K else none
def nz (b : Int) (K : Option ρ) : Option ρ := if b = 0 then none else K
def inb (i : Int) (n : Nat) (K : Option ρ) : Option ρ := if 0 ≤ i ∧ i < n then K else none
def le_ (i j : Nat) (K : Option ρ) : Option ρ := if i ≤ j then K else none
def cat (a b : ByteArray) (K : ByteArray → Option ρ) : Option ρ := if ((a.size + b.size : Nat) : Int) ≤ 9223372036854775807 then K (a ++ b) else none
def idxS (s : ByteArray) (i : Int) (K : Int → Option ρ) : Option ρ := if 0 ≤ i then (match s[i.toNat]? with | some b => K b.toNat | none => none) else none
def bnd (i : Int) (n : Nat) (K : Nat → Option ρ) : Option ρ := if 0 ≤ i ∧ i ≤ n then K i.toNat else none

def shlV (k : IntKind) (x y : Int) : Int := k.wrap (x * 2 ^ (min y.toNat k.bits))
def shrV (k : IntKind) (x y : Int) : Int := x.fdiv (2 ^ (min y.toNat k.bits))
def bitV (op : BinOp) (k : IntKind) (x y : Int) : Int :=
  match op with
  | .and => k.wrap (BitVec.ofInt k.bits x &&& BitVec.ofInt k.bits y).toNat
  | .or => k.wrap (BitVec.ofInt k.bits x ||| BitVec.ofInt k.bits y).toNat
  | .xor => k.wrap (BitVec.ofInt k.bits x ^^^ BitVec.ofInt k.bits y).toNat
  | _ => k.wrap (BitVec.ofInt k.bits x &&& ~~~ BitVec.ofInt k.bits y).toNat

def binI (op : BinOp) (k : IntKind) (a b : Int) (K : Value → Option ρ) : Option ρ :=
  match op with
  | .add => K (.int k (k.wrap (a + b)))
  | .sub => K (.int k (k.wrap (a - b)))
  | .mul => K (.int k (k.wrap (a * b)))
  | .quo => nz b (K (.int k (k.wrap (a.tdiv b))))
  | .rem => nz b (K (.int k (a.tmod b)))
  | .and => K (.int k (bitV .and k a b))
  | .or => K (.int k (bitV .or k a b))
  | .xor => K (.int k (bitV .xor k a b))
  | .andNot => K (.int k (bitV .andNot k a b))
  | .eql => K (.bool (a == b))
  | .neq => K (.bool (a != b))
  | .lss => K (.bool (decide (a < b)))
  | .leq => K (.bool (decide (a ≤ b)))
  | .gtr => K (.bool (decide (a > b)))
  | .geq => K (.bool (decide (a ≥ b)))
  | _ => none

def binS (op : BinOp) (x y : ByteArray) (K : Value → Option ρ) : Option ρ :=
  match op with
  | .add => cat x y fun s => K (.string s)
  | .eql => K (.bool (x.toList == y.toList))
  | .neq => K (.bool (!(x.toList == y.toList)))
  | .lss => K (.bool (Op.bytesLess x.toList y.toList))
  | _ => none

def peq (p q : Option Addr) (K : Bool → Option ρ) : Option ρ :=
  match q with
  | none => K p.isNone
  | some b => match p with
    | none => K false
    | some a => none

def eqL : List Value → List Value → (Bool → Option ρ) → Option ρ
  | [], [], K => K true
  | .int k a :: l, .int k' b :: l', K => if k = k' then eqL l l' fun r => K (a == b && r) else none
  | .bool a :: l, .bool b :: l', K => eqL l l' fun r => K (a == b && r)
  | .string a :: l, .string b :: l', K => eqL l l' fun r => K (a == b && r)
  | _, _, _ => none
def bin (T : Nat → TyR) (Q : Nat → Bool) (op : BinOp) (t : Nat) (x y : Value) (K : Value → Option ρ) : Option ρ :=
  match x, y with
  | .int k a, .int k' b =>
    match op with
    | .shl => nneg b (K (.int k (shlV k a b)))
    | .shr => nneg b (K (.int k (shrV k a b)))
    | op => if k = k' then binI op k a b K else none
  | .string a, .string b => binS op a b K
  | .bool a, .bool b => match (T t).sh with | .bool => (match op with | .eql => K (.bool (a == b)) | .neq => K (.bool (!(a == b))) | _ => none) | _ => none
  | .pointer p, .pointer q => match (T t).sh with | .ptr => (match op with | .eql => peq p q fun b => K (.bool b) | .neq => peq p q fun b => K (.bool (!b)) | _ => none) | _ => none
  | .agg a, .agg b => match Q t with
    | true => (match op with | .eql => eqL a.toList b.toList fun r => K (.bool r) | .neq => eqL a.toList b.toList fun r => K (.bool (!r)) | _ => none)
    | false => none
  | .nilFunc, .nilFunc => match (T t).sh with | .fn => (match op with | .eql => K (.bool true) | .neq => K (.bool false) | _ => none) | _ => none
  | .func _ _ _, .nilFunc => match (T t).sh with | .fn => (match op with | .eql => K (.bool false) | .neq => K (.bool true) | _ => none) | _ => none
  | _, _ => none

def un (op : UnOp) (x : Value) (K : Value → Option ρ) : Option ρ :=
  match op, x with
  | .neg, .int k n => K (.int k (k.wrap (0 - n)))
  | .xor, .int k n => K (.int k (bitV .xor k (if k.signed then -1 else k.max) n))
  | .not, .bool b => K (.bool (!b))
  | _, _ => none

def okA : Value → Bool
  | .bool _ | .int _ _ | .string _ | .pointer none | .slice none 0 0 | .map none | .nilFunc | .nilIface => true
  | _ => false
def okC : Value → Bool
  | .agg cs => cs.toList.all okA
  | v => okA v
def ev (fr : Fr) (x : Operand) (K : Value → Option ρ) : Option ρ :=
  match x with
  | .tmp t => match fr t with | some v => K v | none => none
  | .const v => match okC v with | true => K v | false => none
  | .func f => K (.func (.func f) #[] #[])
  | .global _ => none
def evL (fr : Fr) : List Operand → (List Value → Option ρ) → Option ρ
  | [], K => K []
  | x :: xs, K => ev fr x fun v => evL fr xs fun r => K (v :: r)
def evO (fr : Fr) (x : Option Operand) (K : Option Value → Option ρ) : Option ρ :=
  match x with | none => K none | some x => ev fr x fun v => K (some v)

def cnn (v : Value) (K : Option ρ) : Option ρ := match v with | .iface _ _ => K | .func (.func _) _ _ => K | _ => none

structure Env where
  T : Nat → TyR
  M : Nat → String → Option (Nat × Option Nat)   -- of a type, by a method's name: the function, and where the receiver is read through the pointer, its type
  Q : Nat → Bool   -- types whose '==' is told cell by cell
  ann : Nat → Option (List (Nat × RK))
  S : Nat → List Value → Heap → Option (Value × Heap)   -- a call
  J : Nat → List Value → Heap → Option (Value × Heap)   -- on from a point of this function

def cl (r : Option (Value × Heap)) (K : Value → Heap → Option ρ) : Option ρ := match r with | some (v, h) => K v h | none => none
def cF (v : Value) (K : Nat → List Value → List Value → Option ρ) : Option ρ := match v with | .func (.func f) a b => K f a.toList b.toList | _ => none
def cX (v : Value) (K : Nat → Value → Option ρ) : Option ρ := match v with | .iface t v => K t v | _ => none
def inv (T : Nat → TyR) (M : Nat → String → Option (Nat × Option Nat)) (S : Nat → List Value → Heap → Option (Value × Heap)) (t : Nat) (v : Value) (m : String) (args : List Value) (h : Heap) (K : Value → Heap → Option ρ) : Option ρ :=
  match M t m with
  | some (f, none) => cl (S f (v :: args) h) K
  | some (f, some e) => cP v fun p => ldTy (T e) h p fun v => cl (S f (v :: args) h) K
  | none => none

def fillL : List Value → List (Nat × Value) → (Nat → Option (Nat × Nat)) → (List Value → Option ρ) → Option ρ
  | cs, [], _, K => K cs
  | cs, (i, v) :: ps, pl, K =>
    match pl i with
    | none => none
    | some (off, size) => if v.cells.toList.length = size ∧ off + size ≤ cs.length then fillL (setL cs off v.cells.toList) ps pl K else none
def placeS (T : Nat → TyR) (fs : List (Nat × Nat)) (i : Nat) : Option (Nat × Nat) :=
  match fs[i]? with
  | some f => match (T f.2).ok with | true => some (f.1, (T f.2).size) | false => none
  | none => none
def placeA (e : TyR) (i : Nat) : Option (Nat × Nat) := match e.ok with | true => some (i * e.size, e.size) | false => none
def partsL (fr : Fr) : List (Nat × Operand) → (List (Nat × Value) → Option ρ) → Option ρ
  | [], K => K []
  | (i, x) :: xs, K => ev fr x fun v => partsL fr xs fun r => K ((i, v) :: r)

def gt (cs : List Value) (i : Nat) (K : Value → Option ρ) : Option ρ := match cs[i]? with | some v => K v | none => none
def partTy (T : Nat → TyR) (t : Nat) (cs : List Value) (off : Nat) (K : Value → Option ρ) : Option ρ :=
  match (T t).isAgg with
  | true => if off + (T t).size ≤ cs.length then K (.agg ⟨(cs.drop off).take (T t).size⟩) else none
  | false => match cs[off]? with | some v => K v | none => none

def repL (n : Nat) (z : List Value) : List Value := match n with | 0 => [] | n + 1 => z ++ repL n z
def mnV (a b : Int) : Int := if b < a then b else a
def mxV (a b : Int) : Int := if b > a then b else a
def minL : Value → List Value → (Value → Option ρ) → Option ρ
  | v, [], K => K v
  | .int k a, .int k' b :: l, K => if k = k' then minL (.int k (mnV a b)) l K else none
  | _, _, _ => none
def maxL : Value → List Value → (Value → Option ρ) → Option ρ
  | v, [], K => K v
  | .int k a, .int k' b :: l, K => if k = k' then maxL (.int k (mxV a b)) l K else none
  | _, _, _ => none
def cpy (h : Heap) (esz : Nat) (p : Option Addr) (n : Nat) (x : Value) (K : Int → Heap → Option ρ) : Option ρ :=
  src h esz x fun new => if min (lenV x) n = 0 then K 0 h else if new.length = lenV x * esz then st h p (new.take (min (lenV x) n * esz)) fun h => K (min (lenV x) n : Nat) h else none
def mkS (h : Heap) (l c : Int) (rc bts : Nat) (z : List Value) (K : Heap → Option ρ) : Option ρ :=
  if 0 ≤ l ∧ l ≤ c ∧ small c.toNat bts then K (h.push (.cells (repL c.toNat z) rc false)) else none
def slp (p : Option Addr) (c a sz : Nat) : Option Addr :=
  p.map fun q => if a = 0 then q else match q.spot with
    | some _ => q
    | none => if c = a then ⟨q.block, q.off, some 0⟩ else q.add (a * sz)
def bi (E : Env) (b : Builtin) (ats : List Nat) (args : List Value) (h : Heap) (K : Value → Heap → Option ρ) : Option ρ :=
  match b, args with
  | .len, [x] =>
    match ats with
    | [t] => match (E.T t).sh, x with
      | .str, .string s => K (.int .i64 s.size) h
      | .slice _, .slice _ n _ => K (.int .i64 n) h
      | .array n _, _ => K (.int .i64 n) h
      | .map _ _, .map none => K (.int .i64 0) h
      | .map _ _, .map (some r) => match h.get r with | .map es => K (.int .i64 es.length) h | _ => none
      | _, _ => none
    | _ => none
  | .append, [s, x] =>
    match ats with
    | t :: t2 :: _ => match (E.T t).sh, (E.T t2).sh, s with
      | .slice _, .int _, _ => none
      | .slice _, .no, _ => none
      | .slice e, _, .slice p n c => if (E.T e).zero.length = (E.T e).size ∧ (E.T e).size ≠ 0 then src h (E.T e).size x fun new => app h (E.T e).size (E.T e).rc (E.T e).bytes p n c (lenV x) new fun p n c h => K (.slice p n c) h else none
      | _, _, _ => none
    | _ => none
  | .copy, [d, x] =>
    match ats with
    | t :: _ => match (E.T t).sh, d with
      | .slice e, .slice p n _ => match (E.T e).ok with
        | true => cpy h (E.T e).size p n x fun m h => K (.int .i64 m) h
        | false => none
      | _, _ => none
    | _ => none
  | .min, x :: xs => minL x xs fun v => K v h
  | .max, x :: xs => maxL x xs fun v => K v h
  | _, _ => none

def conv (E : Env) (s d : Nat) (x : Value) (h : Heap) (K : Value → Heap → Option ρ) : Option ρ :=
  match (E.T d).sh, x with
  | .int k, .int _ n => match (E.T s).ok with | true => K (.int k (k.wrap n)) h | false => none
  | .str, .string b => match (E.T s).sh with | .str => K (.string b) h | _ => none
  | .slice e, .string b => match (E.T s).sh, (E.T e).sh with | .str, .int .u8 => bytesOf h b (E.T e).rc fun p n c h => K (.slice p n c) h | _, _ => none
  | .str, .slice p n _ => match (E.T s).sh with
    | .slice e => match (E.T e).sh with | .int .u8 => strOf h p n fun b => K (.string b) h | _ => none
    | _ => none
  | _, _ => none

/- a variable of its own, no row that may have grown -/
def fx0 (h : Heap) (q : Addr) (K : Option ρ) : Option ρ := match h.get q.block with | .cells _ e false => (match isV e with | true => K | false => none) | _ => none
/- a row whose elements have so many cells, or a variable -/
def rowB (o : HObj) (rc : Nat) : Bool := match o with | .cells _ e _ => e == rc || isV e | _ => false
def fxE (h : Heap) (p : Option Addr) (sz : Nat) (K : Option ρ) : Option ρ := match p with | none => K | some q => match rowB (h.get q.block) sz with | true => K | false => none
def slc (E : Env) (t : Nat) (x : Value) (lo hi mx : Option Value) (h : Heap) (K : Value → Option ρ) : Option ρ :=
  match mx with
  | some _ => none
  | none =>
    match (E.T t).sh, x with
    | .str, .string s =>
      opt hi s.size s.size fun b => opt lo b 0 fun a => K (.string (s.extract a b))
    | .slice e, .slice p n c => match (E.T e).ok with
      | true => fxE h p (E.T e).rc (opt hi c n fun b => opt lo b 0 fun a => K (.slice (slp p c a (E.T e).size) (b - a) (c - a)))
      | false => none
    | .array n e, .pointer p => match (E.T e).ok with
      | true => nn p fun q => fx0 h q (opt hi n n fun b => opt lo b 0 fun a => K (.slice (slp (some q) n a (E.T e).size) (b - a) (n - a)))
      | false => none
    | _, _ => none
where
  opt (x : Option Value) (most dflt : Nat) (K : Nat → Option ρ) : Option ρ :=
    match x with
    | none => K dflt
    | some (.int _ i) => bnd i most K
    | some _ => none

def ixA (E : Env) (t : Nat) (x i : Value) (K : Value → Option ρ) : Option ρ :=
  match i with
  | .int _ i =>
    match (E.T t).sh, x with
    | .array n e, .pointer p => match (E.T e).ok with
      | true => nn p fun a => inb i n (K (.pointer (some (a.add (i.toNat * (E.T e).size)))))
      | false => none
    | .slice e, .slice p n _ => match (E.T e).ok with
      | true => inb i n (nn p fun a => K (.pointer (some (a.add (i.toNat * (E.T e).size)))))
      | false => none
    | _, _ => none
  | _ => none

def hop (E : Env) (o : Oper) (fr : Fr) (h : Heap) (K : Value → Heap → Option ρ) : Option ρ :=
  match o.op with
  | .move x | .assign x => ev fr x fun v => K v h
  | .pick c a b => ev fr c fun c => cB c fun c => cond c (ev fr a fun v => K v h) (ev fr b fun v => K v h)
  | .alloc t => if (E.T t).ok = true ∧ (E.T t).zero.length = (E.T t).size then K (.pointer (some ⟨h.size, 0, none⟩)) (h.push (.cells (E.T t).zero (E.T t).vc false)) else none
  | .box t x => ev fr x fun v => K (.pointer (some ⟨h.size, 0, none⟩)) (h.push (.cells v.cells.toList (E.T t).vc false))
  | .build t ps => partsL fr ps.toList fun l =>
      match (E.T t).sh with
      | .struct fs => if (E.T t).zero.length = (E.T t).size then fillL (E.T t).zero l (placeS E.T fs) fun cs => K (.agg ⟨cs⟩) h else none
      | .array _ e => if (E.T e).ok = true ∧ (E.T t).zero.length = (E.T t).size then fillL (E.T t).zero l (placeA (E.T e)) fun cs => K (.agg ⟨cs⟩) h else none
      | _ => none
  | .buildSlice t n ps => partsL fr ps.toList fun l =>
      match (E.T t).sh with
      | .slice e => if (E.T e).zero.length = (E.T e).size ∧ n * (E.T e).size ≤ 16777216 then fillL (repL n (E.T e).zero) l (placeA (E.T e)) fun cs =>
          K (.slice (some ⟨h.size, 0, none⟩) n n) (h.push (.cells cs (E.T e).rc false)) else none
      | _ => none
  | .load t a => ev fr a fun v => cP v fun p => ldTy (E.T t) h p fun v => K v h
  | .store t a x => ev fr a fun v => cP v fun p => ev fr x fun v => if (E.T t).ok = true ∧ v.cells.toList.length = (E.T t).size then st h p v.cells.toList fun h => K undef h else none
  | .nilCheck x => ev fr x fun v =>
      match v with
      | .pointer p => nn p fun a => K (.pointer (some a)) h
      | v => cnn v (K v h)
  | .binOp op t x y _ => ev fr x fun x => ev fr y fun y => bin E.T E.Q op t x y fun v => K v h
  | .unOp op _ x => ev fr x fun x => un op x fun v => K v h
  | .convert s d x => ev fr x fun x => conv E s d x h K
  | .makeInterface t x => match (E.T t).sh with
    | .no | .iface => none
    | _ => ev fr x fun v => K (.iface t v) h
  | .makeFunc fn a b => evL fr a.toList fun a => evL fr b.toList fun b => K (.func fn ⟨a⟩ ⟨b⟩) h
  | .makeSlice t l c => ev fr l fun l => ev fr c fun c =>
      match (E.T t).sh, l, c with
      | .slice e, .int .i64 l, .int .i64 c => if (E.T e).zero.length = (E.T e).size then mkS h l c (E.T e).rc (E.T e).bytes (E.T e).zero fun h' => K (.slice (some ⟨h.size, 0, none⟩) l.toNat c.toNat) h' else none
      | _, _, _ => none
  | .slice t x lo hi mx => ev fr x fun x => evO fr lo fun lo => evO fr hi fun hi => evO fr mx fun mx => slc E t x lo hi mx h fun v => K v h
  | .fieldAddr s x f => ev fr x fun v =>
      match (E.T s).sh with
        | .struct fs => match fs[f]? with
          | some (off, t) => match (E.T t).ok, (E.T t).size with
            | true, _ + 1 => cP v fun p => nn p fun a => K (.pointer (some (a.add off))) h
            | _, _ => none
          | none => none
        | _ => none
  | .field s x f => ev fr x fun v => cA v fun cs =>
      match (E.T s).sh with
      | .struct fs => match fs[f]? with
        | some (off, t) => match (E.T t).ok with
          | true => partTy E.T t cs off fun v => castTy (E.T t) v fun v => K v h
          | false => none
        | none => none
      | _ => none
  | .indexAddr t x i => ev fr x fun x => ev fr i fun i => ixA E t x i fun v => K v h
  | .index t x i => ev fr x fun x => ev fr i fun i =>
      match (E.T t).sh, x, i with
      | .str, .string s, .int _ i => idxS s i fun b => K (.int .u8 b) h
      | .array n e, .agg cs, .int _ i => match (E.T e).ok with
        | true => inb i n (partTy E.T e cs.toList (i.toNat * (E.T e).size) fun v => castTy (E.T e) v fun v => K v h)
        | false => none
      | _, _, _ => none
  | .extract x i => ev fr x fun v =>
      match v with
      | .tuple vs => match vs.toList[i]? with | some v => K v h | none => none
      | _ => none
  | .typeAssert x _ t ok => ev fr x fun v =>
      match (E.T t).sh with
      | .iface | .no => none
      | _ => cX v fun t' v => tas t' t (castTy (E.T t) v fun v => K (match ok with | true => .tuple ⟨[v, .bool true]⟩ | false => v) h)
  | .call c =>
    match c.callee with
    | .builtin b => evL fr c.args.toList fun args => bi E b c.argTypes.toList args h K
    | .value f => ev fr f fun f => evL fr c.args.toList fun args =>
        cF f fun f first cap => cl (E.S f (first ++ args ++ cap) h) fun v h => castAny E.T o.type v fun v => K v h
    | .invoke r m => ev fr r fun r => evL fr c.args.toList fun args =>
        cX r fun t v => inv E.T E.M E.S t v m args h fun v h => castAny E.T o.type v fun v => K v h
  | _ => none

/- a region whose order is the text's -/
def hops (E : Env) (all : List Oper) : List Oper → Fr → Heap → (Fr → Heap → Option ρ) → Option ρ
  | [], fr, h, K => K fr h
  | o :: os, fr, h, K =>
    match o.guard with
    | none => hop E o fr h fun v h => hops E all os (fr.put o.dst v) h K
    | some (j, want) =>
      match (all[j]?).bind (·.dst) with
      | none => none
      | some g =>
        match fr g with
        | some (.bool b) =>
          cond b
            (match want with
              | true => hop E o (fr.set g (.bool true)) h fun v h => hops E all os ((fr.set g (.bool true)).put o.dst v) h K
              | false => hops E all os ((fr.set g (.bool true)).skip o.dst) h K)
            (match want with
              | false => hop E o (fr.set g (.bool false)) h fun v h => hops E all os ((fr.set g (.bool false)).put o.dst v) h K
              | true => hops E all os ((fr.set g (.bool false)).skip o.dst) h K)
        | some (.tuple _) => hops E all os (fr.skip o.dst) h K
        | _ => none

/- a region that draws its order -/
def heavy (o : Oper) : Bool :=
  match o.op with
  | .move _ | .assign _ | .pick .. | .alloc _ | .box .. | .build .. | .buildSlice .. | .load .. | .nilCheck _ | .binOp .. | .unOp .. | .convert .. | .makeInterface .. | .makeFunc .. | .makeSlice .. | .slice ..
  | .fieldAddr .. | .field .. | .indexAddr .. | .index .. | .extract .. | .typeAssert .. => false
  | .call { callee := .builtin .len, .. } | .call { callee := .builtin .min, .. } | .call { callee := .builtin .max, .. } => false
  | _ => true

def bef (ops : List Oper) : List Nat :=
  ops.foldl (init := []) fun acc o =>
    acc ++ [o.after.toList.foldl (fun s e => match Region.binds .any e with | true => s ||| 2 ^ e.on ||| acc.getD e.on 0 | false => s) 0]

def pickR (ops : List Oper) (bs : List Nat) (done : Nat) (hv : Bool) : List Nat → Option Nat
  | [] => none
  | i :: is =>
    match ops[i]? with
    | some o => if heavy o == hv && ((bs.getD i 0) &&& done) == bs.getD i 0 then some i else pickR ops bs done hv is
    | none => none
def canon (ops : List Oper) (bs : List Nat) : Nat → Nat → List Nat → List Nat
  | 0, _, _ => []
  | f + 1, done, left =>
    match pickR ops bs done false left with
    | some i => i :: canon ops bs f (done ||| 2 ^ i) (left.filter (· != i))
    | none => match pickR ops bs done true left with
      | some i => i :: canon ops bs f (done ||| 2 ^ i) (left.filter (· != i))
      | none => []

inductive Lg where
  | cells (p : Option Addr) (vs : List Value)
  | str (p : Option Addr) (n : Nat) (s : ByteArray)
  | obj (i : Nat) (o : HObj)
  | tag (q : Addr)
  | row (p : Option Addr) (sz : Nat)
  | no
  | yes

def vsame : Value → Value → Bool
  | .bool a, .bool b => a == b
  | .int k a, .int k' b => k == k' && a == b
  | .string a, .string b => a == b
  | .pointer a, .pointer b => a == b
  | .slice a n c, .slice b m d => a == b && n == m && c == d
  | .map a, .map b => a == b
  | .nilFunc, .nilFunc => true
  | .nilIface, .nilIface => true
  | _, _ => false
def vsameL : List Value → List Value → Bool
  | [], [] => true
  | v :: l, v' :: l' => vsame v v' && vsameL l l'
  | _, _ => false
def cellsSame (h : Heap) (p : Option Addr) : List Value → Nat → Bool
  | [], _ => true
  | v :: vs, i => (match p with | some a => (match cellAt h a i with | some v' => vsame v v' | none => false) | none => false) && cellsSame h p vs (i + 1)
def osame : HObj → HObj → Bool
  | .cells cs e r, .cells cs' e' r' => vsameL cs cs' && e == e' && r == r'
  | _, _ => false
def Lg.ok (l : Lg) (h : Heap) : Bool :=
  match l with
  | .cells p vs => cellsSame h p vs 0
  | .str p n s => (match toStr h p n with | some s' => s' == s | none => false)
  | .obj i o => osame o (h.get i)
  | .tag q => (match h.get q.block with | .cells _ e false => isV e | _ => false)
  | .row p sz => (match p with | none => true | some q => rowB (h.get q.block) sz)
  | .no => false
  | .yes => true
def chk (l : Lg) (h : Heap) (K : Option ρ) : Option ρ := match l.ok h with | true => K | false => none

/- what a light operation leaves to be looked at again behind a heavy one -/
def logOf (E : Env) (o : Oper) (fr : Fr) (v : Value) (h h' : Heap) (K : Lg → Option ρ) : Option ρ :=
  match o.op with
  | .load t a => ev fr a fun a => cP a fun p => match (E.T t).isAgg with | true => K (.cells p v.cells.toList) | false => K (.cells p [v])
  | .slice t x .. => ev fr x fun x => match (E.T t).sh, x with | .array _ _, .pointer (some q) => K (.tag q) | .slice e, .slice p _ _ => K (.row p (E.T e).rc) | _, _ => K .yes
  | .convert _ d x => ev fr x fun x => match (E.T d).sh, x, v with
      | .str, .slice p n _, .string s => K (.str p n s)
      | .slice _, _, _ => K (.obj h.size (h'.get h.size))
      | _, _, _ => K .yes
  | .alloc _ | .box .. | .buildSlice .. | .makeSlice .. => K (.obj h.size (h'.get h.size))
  | .move _ | .assign _ | .pick .. | .build .. | .nilCheck _ | .binOp .. | .unOp .. | .makeInterface .. | .makeFunc ..
  | .fieldAddr .. | .field .. | .indexAddr .. | .index .. | .extract .. | .typeAssert .. => K .yes
  | .call { callee := .builtin .len, argTypes := ts, .. } => (match (ts[0]?).map (fun t => (E.T t).sh) with | some (.map _ _) => K .no | _ => K .yes)
  | .call { callee := .builtin .min, .. } | .call { callee := .builtin .max, .. } => K .yes
  | _ => K .no

def chkAll (b : Nat) (h : Heap) (K : Option ρ) : List (Nat × Lg) → Option ρ
  | [] => K
  | (j, .yes) :: l => chkAll b h K l
  | (j, e) :: l => match b.testBit j with | true => chkAll b h K l | false => chk e h (chkAll b h K l)

def hopsD (E : Env) (all : List Oper) (bs : List Nat) : List Nat → List (Nat × Lg) → Fr → Heap → (Fr → Heap → Option ρ) → Option ρ
  | [], _, fr, h, K => K fr h
  | i :: is, log, fr, h, K =>
    match all[i]? with
    | none => none
    | some o =>
      match o.guard with
      | none => hopD E all bs i o fr h log fun fr h log => hopsD E all bs is log fr h K
      | some (j, want) =>
        match (all[j]?).bind (·.dst) with
        | none => none
        | some g =>
          match fr g with
          | some (.bool b) =>
            cond b
              (match want with
                | true => hopD E all bs i o (fr.set g (.bool true)) h log fun fr h log => hopsD E all bs is log fr h K
                | false => hopsD E all bs is log ((fr.set g (.bool true)).skip o.dst) h K)
              (match want with
                | false => hopD E all bs i o (fr.set g (.bool false)) h log fun fr h log => hopsD E all bs is log fr h K
                | true => hopsD E all bs is log ((fr.set g (.bool false)).skip o.dst) h K)
          | some (.tuple _) => hopsD E all bs is log (fr.skip o.dst) h K
          | _ => none
where
  hopD (E : Env) (all : List Oper) (bs : List Nat) (i : Nat) (o : Oper) (fr : Fr) (h : Heap) (log : List (Nat × Lg)) (K : Fr → Heap → List (Nat × Lg) → Option ρ) : Option ρ :=
    hop E o fr h fun v h' =>
      match heavy o with
      | true => chkAll (bs.getD i 0) h' (K (fr.put o.dst v) h' log) log
      | false => logOf E o fr v h h' fun e => K (fr.put o.dst v) h' ((i, e) :: log)

def down (b : Bool) (c : Code) : Code :=
  match c, b with
  | .seq a _, false => a
  | .seq _ b, true => b
  | .cond _ a _, false => a
  | .cond _ _ b, true => b
  | .block _ c, _ => c
  | .loop c, _ => c
  | _, _ => .skip
def cDown : Nat → Nat → Code → Code
  | 0, _, c => c
  | i + 1, p, c => cDown i p (down (p.testBit i) c)
def cN (p : Nat) (c : Code) : Code := cDown p.log2 p c

def getS (fr : Fr) : List (Nat × RK) → (List Value → Option ρ) → Option ρ
  | [], K => K []
  | (s, k) :: l, K => match fr s with | some v => castRK k v fun v' => getS fr l fun r => K (v' :: r) | none => none
def mkFr : List (Nat × RK) → List Value → Fr
  | (s, _) :: l, v :: vs => fun t => if t = s then some v else mkFr l vs t
  | _, _ => fun _ => none
end

abbrev Out := Option (Value × Heap)
abbrev Kont := Exit → Fr → Heap → Out
def jump (E : Env) (p : Nat) (l : List (Nat × RK)) (fr : Fr) (h : Heap) : Out := getS fr l fun vs => E.J p vs h
def enter (E : Env) (p : Nat) (fr : Fr) (h : Heap) (go : Out) : Out :=
  match E.ann p with
  | none => go
  | some l => jump E p l fr h
def kBlk (id : Nat) (K : Kont) : Kont := fun e fr h => match e with | .exit i => (match i == id with | true => K .normal fr h | false => K (.exit i) fr h) | e => K e fr h
def kSeq (f : Fr → Heap → Out) (K : Kont) : Kont := fun e fr h => match e with | .normal => f fr h | e => K e fr h
def kLoop (E : Env) (p : Nat) (K : Kont) : Kont := fun e fr h => match e with | .normal => (match E.ann p with | some l => jump E p l fr h | none => none) | e => K e fr h

def hc (E : Env) : Code → Nat → Fr → Heap → Kont → Out
  | .skip, _, fr, h, K => K .normal fr h
  | .seq a b, p, fr, h, K => enter E (2 * p) fr h (hc E a (2 * p) fr h (kSeq (fun fr h => enter E (2 * p + 1) fr h (hc E b (2 * p + 1) fr h K)) K))
  | .cond c a b, p, fr, h, K => ev fr c fun v => cB v fun t => cond t (enter E (2 * p) fr h (hc E a (2 * p) fr h K)) (enter E (2 * p + 1) fr h (hc E b (2 * p + 1) fr h K))
  | .block id c, p, fr, h, K => enter E (2 * p) fr h (hc E c (2 * p) fr h (kBlk id K))
  | .loop c, p, fr, h, K => enter E (2 * p) fr h (hc E c (2 * p) fr h (kLoop E p K))
  | .region _ ops false, p, fr, h, K => hops E ops.toList ops.toList fr h (K .normal)
  | .region _ ops true, p, fr, h, K => hopsD E ops.toList (bef ops.toList) (canon ops.toList (bef ops.toList) ops.toList.length 0 (List.range ops.toList.length)) [] fr h (K .normal)
  | .exit id, _, fr, h, K => K (.exit id) fr h
  | .ret, _, fr, h, K => K .ret fr h
  | _, _, _, _, _ => none

/- the continuation of a point: what stands round it -/
def kDown (E : Env) : Nat → Nat → Code → Kont → Kont
  | 0, _, _, K => K
  | i + 1, p, c, K =>
    let q := p >>> (i + 1)
    match c with
    | .seq a b => match p.testBit i with
      | true => kDown E i p b K
      | false => kDown E i p a (kSeq (fun fr h => enter E (2 * q + 1) fr h (hc E b (2 * q + 1) fr h K)) K)
    | .cond _ a b => match p.testBit i with
      | true => kDown E i p b K
      | false => kDown E i p a K
    | .block id c => kDown E i p c (kBlk id K)
    | .loop c => kDown E i p c (kLoop E q K)
    | _ => K

def resL (T : Nat → TyR) (fr : Fr) (h : Heap) : List ResultVar → (List Value → Option (Value × Heap)) → Option (Value × Heap)
  | [], K => K []
  | .tmp t :: l, K => match fr t with | some v => resL T fr h l fun r => K (v :: r) | none => none
  | .cell t ty :: l, K => match fr t with
    | some v => cP v fun p => ldTy (T ty) h p fun v => resL T fr h l fun r => K (v :: r)
    | none => none
def kRet (T : Nat → TyR) (fn : Func) : Kont := fun e fr h =>
  match e with
  | .normal | .ret => resL T fr h fn.results.toList fun l => match l with | [v] => some (v, h) | l => some (.tuple ⟨l⟩, h)
  | _ => none
def argFr (args : List Value) : Fr := fun s => args[s]?

structure Tab where
  T : Nat → TyR
  M : Nat → String → Option (Nat × Option Nat)
  F : Nat → Option Func
  Q : Nat → Bool
  A : Nat → Nat → Option (List (Nat × RK))
  prim : Nat → Option (List Value → Heap → Out)

def start (ann : Nat → Option (List (Nat × RK))) (p : Nat) (vs : List Value) : Option Fr :=
  match p with
  | 1 => some (argFr vs)
  | p => match ann p with
    | some l => some (mkFr l vs)
    | none => none
def exec (E : Env) (fn : Func) (p : Nat) (vs : List Value) (h : Heap) : Out :=
  match fn.body, start E.ann p vs with
  | some c, some fr => hc E (cN p c) p fr h (kDown E p.log2 p c (kRet E.T fn))
  | _, _ => none

/- function f from its point p on (1: its beginning) -/
def run (B : Tab) : Nat → Nat → Nat → List Value → Heap → Out
  | 0, _, _, _, _ => none
  | k + 1, f, p, vs, h =>
    match B.prim f with
    | some g => g vs h
    | none => match B.F f with
      | none => none
      | some fn => exec ⟨B.T, B.M, B.Q, B.A f, fun g => run B k g 1, run B k f⟩ fn p vs h

end Ab
end Go.Proofs.YtaaacaejpchbpaaGreat
