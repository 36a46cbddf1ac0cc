/- Code whose types are looked up already, and what it does to values without addresses. -/
import Derived.Test.YtdgmlepakippmaaAx1
namespace Go.Ax
open Go Go.RowKit

abbrev Env := Nat → AV
def up (e : Env) (d : Nat) (x : AV) : Env := fun t => if t = d then x else e t
def e0 : Env := fun _ => .any
def ups (e : Env) : Option Nat → AV → Env
  | some d, x => up e d x
  | none, _ => e
def envOf : List AV → Nat → Env
  | [], _ => e0
  | x :: l, i => up (envOf l (i + 1)) i x

abbrev int (n : Int) : AV := .v (.int .i64 n)
abbrev u8 (n : Int) : AV := .v (.int .u8 n)
abbrev bool (b : Bool) : AV := .v (.bool b)
def mkS (l : List UInt8) : ByteArray := ⟨l.toArray⟩
def bs (s : ByteArray) : List UInt8 := s.data.toList
abbrev str (l : List UInt8) : AV := .v (.string (mkS l))
abbrev undefA : AV := .v (.tuple #[])
abbrev nilS : AV := .v (.slice none 0 0)

inductive LX where
  | t (n : Nat)
  | c (x : AV)
  deriving Inhabited

def ev (e : Env) : LX → AV
  | .t n => e n
  | .c x => x

inductive Cv where
  | toInt (k : IntKind)
  | same
  | strBytes
  | bytesStr
  | runeStr
  | sameB
  deriving Inhabited

/-- The kind of a map's key; of what '==' compares. -/
inductive KD where
  | int
  | str
  | bool
  | fn
  | agg (ks : List KD)
  deriving Inhabited

/-- What 'len' and a slice expression work on. -/
inductive LK where
  | str
  | slc
  | map
  deriving Inhabited

inductive LOp where
  | mv (x : LX)
  | pick (c a b : LX)
  | alloc (zs : List AV)
  | box (imm : Bool) (x : LX)
  | build (zs : List AV) (ps : List (Nat × Nat × LX))
  | bsl (imm : Bool) (sz len : Nat) (zs : List AV) (ps : List (Nat × LX))
  | mkmap
  | ins (kd : KD) (m k x : LX)
  | load (ag : Bool) (n : Nat) (p : LX)
  | store (n : Nat) (p x : LX)
  | nilchk (x : LX)
  | bin (kd : KD) (op : BinOp) (x y : LX)
  | not (x : LX)
  | neg (x : LX)
  | conv (c : Cv) (x : LX)
  | mkfn (f : Fn) (first caps : List LX)
  | msl (sz bytes : Nat) (zs : List AV) (len cap : LX)
  | slice (lk : LK) (n : Nat) (x : LX) (lo hi : Option LX)
  | faddr (off : Nat) (p : LX)
  | fld (ag : Bool) (off n : Nat) (x : LX)
  | iaddr (sz : Nat) (x i : LX)
  | idx (x i : LX)
  | look (kd : KD) (zero : AV) (ok : Bool) (m k : LX)
  | ext (x : LX) (i : Nat)
  | len (lk : LK) (x : LX)
  | append (sz bytes : Nat) (s x : LX)
  | copy (sz : Nat) (s x : LX)
  | min2 (x y : LX)
  | max2 (x y : LX)
  | call (f : LX) (args : List LX)
  | frz (x : LX)
  | own (sz : Nat) (x : LX)
  | isnil (neg : Bool) (x : LX)
  | bad
  deriving Inhabited

structure LO where
  d : Option Nat
  g : Option (Nat × Bool)
  op : LOp
  deriving Inhabited

inductive LCode where
  | skip
  | ops (l : List LO)
  | draw (hd tl : List LO)
  | seq (a b : LCode)
  | cond (x : LX) (a b : LCode)
  | block (id : Nat) (c : LCode)
  | loop (c : LCode)
  | exit (id : Nat)
  | ret
  deriving Inhabited

/-- What an operation comes to: its condition, its value, the objects behind it. -/
structure Res where
  ok : Prop
  x : AV
  H : AHeap

abbrev Res.no (H : AHeap) : Res := ⟨False, .any, H⟩

def cellsOf : AV → List AV
  | .agg cs => cs
  | x => [x]
def c1 : AV → Bool
  | .v x => one x
  | .any => false
  | .agg _ => false
  | .tup _ => false
  | _ => true
def cellsV (ag : Bool) (n : Nat) (cs : List AV) : AV := if ag then .agg (cs.take n) else cs.headD .any
def splice (cs : List AV) (off : Nat) (new : List AV) : List AV := cs.take off ++ new ++ cs.drop (off + new.length)
def c1s (cs : List AV) : Bool := cs.all c1

def rBox (imm : Bool) (x : AV) (H : AHeap) : Res :=
  if imm then ⟨c1s (cellsOf x) = true ∧ clL (cellsOf x) = true, .vp (cellsOf x) 0, H⟩
  else ⟨c1s (cellsOf x) = true, .ptr H.length 0 0, H ++ [.box (cellsOf x)]⟩

def fillA : List AV → List (Nat × Nat × AV) → Prop × List AV
  | cs, [] => (True, cs)
  | cs, (off, n, x) :: ps => let r := fillA (splice cs off (cellsOf x)) ps; (((cellsOf x).length = n ∧ off + n ≤ cs.length ∧ c1s (cellsOf x) = true) ∧ r.1, r.2)

def rBuild (zs : List AV) (ps : List (Nat × Nat × AV)) (H : AHeap) : Res := ⟨(fillA zs ps).1, .agg (fillA zs ps).2, H⟩

def fillS (sz : Nat) : List (List AV) → List (Nat × AV) → Prop × List (List AV)
  | xs, [] => (True, xs)
  | xs, (i, x) :: ps => let r := fillS sz (xs.set i (cellsOf x)) ps; (((cellsOf x).length = sz ∧ i < xs.length ∧ c1s (cellsOf x) = true ∧ clL (cellsOf x) = true) ∧ r.1, r.2)

def rBsl (imm : Bool) (sz len : Nat) (zs : List AV) (ps : List (Nat × AV)) (H : AHeap) : Res :=
  let r := fillS sz (List.replicate len zs) ps
  if imm then ⟨r.1, .sl sz r.2, H⟩
  else ⟨r.1, .os H.length 0 0 len, H ++ [.arr 0 sz r.2]⟩

/-- Are two keys one? -/
def kEq : Value → Value → Bool
  | .int k a, .int k' b => k == k' && a == b
  | .string a, .string b => bs a == bs b
  | .bool a, .bool b => a == b
  | _, _ => false
/-- Can the two be compared at once? -/
def kCmp : Value → Value → Bool
  | .int k _, .int k' _ => k == k'
  | .string _, .string _ => true
  | .bool _, .bool _ => true
  | _, _ => false

def kIs : KD → Value → Bool
  | .int, .int _ _ => true
  | .str, .string _ => true
  | .bool, .bool _ => true
  | _, _ => false

def rIns (kd : KD) (m k x : AV) (H : AHeap) : Res :=
  match m, k with
  | .om r ver, .v k =>
    match H[r]? with
    | some (.map ver' ks vs) => ⟨ver = ver' ∧ (∀ k' ∈ ks, kCmp k k' = true ∧ kEq k k' = false) ∧ kIs kd k = true ∧ x.cl = true, .any, H.set r (.map ver (ks ++ [k]) (vs ++ [x]))⟩
    | _ => .no H
  | _, _ => .no H

def rLoadO (ag : Bool) (n i off : Nat) (H : AHeap) : Option HO → Res
  | some (.box cs) => ⟨off + n ≤ cs.length ∧ (ag = true ∨ n = 1), cellsV ag n (cs.drop off), H⟩
  | some (.arr _ sz xs) => ⟨i < xs.length ∧ off + n ≤ sz ∧ (ag = true ∨ n = 1), cellsV ag n ((xs.getD i []).drop off), H⟩
  | _ => .no H
def isVer (ver : Nat) : Option HO → Prop
  | some (.box _) => ver = 0
  | some (.arr v _ _) => ver = v
  | some (.map v _ _) => ver = v
  | _ => False
def isBox : Option HO → Prop
  | some (.box _) => True
  | _ => False
def isArr : Option HO → Prop
  | some (.arr _ _ _) => True
  | _ => False
def Res.also (p : Prop) (r : Res) : Res := ⟨p ∧ r.ok, r.x, r.H⟩

def rLoad (ag : Bool) (n : Nat) (p : AV) (H : AHeap) : Res :=
  match p with
  | .ptr r ver off => (rLoadO ag n 0 off H H[r]?).also (isBox H[r]? ∧ isVer ver H[r]?)
  | .pe r ver i off => (rLoadO ag n i off H H[r]?).also (isArr H[r]? ∧ isVer ver H[r]?)
  | .vp cs off => ⟨off + n ≤ cs.length ∧ (ag = true ∨ n = 1), cellsV ag n (cs.drop off), H⟩
  | _ => .no H

def rStoreO (n i off r : Nat) (x : AV) (H : AHeap) : Option HO → Res
  | some (.box cs) => ⟨off + n ≤ cs.length ∧ (cellsOf x).length = n ∧ c1s (cellsOf x) = true, .any, H.set r (.box (splice cs off (cellsOf x)))⟩
  | some (.arr ver sz xs) => ⟨i < xs.length ∧ off + n ≤ sz ∧ (cellsOf x).length = n ∧ c1s (cellsOf x) = true ∧ clL (cellsOf x) = true, .any, H.set r (.arr ver sz (xs.set i (splice (xs.getD i []) off (cellsOf x))))⟩
  | _ => .no H

def rStore (n : Nat) (p x : AV) (H : AHeap) : Res :=
  match p with
  | .ptr r ver off => (rStoreO n 0 off r x H H[r]?).also (isBox H[r]? ∧ isVer ver H[r]?)
  | .pe r ver i off => (rStoreO n i off r x H H[r]?).also (isArr H[r]? ∧ isVer ver H[r]?)
  | _ => .no H

def rNil (x : AV) (H : AHeap) : Res :=
  match x with
  | .vp _ _ => ⟨True, x, H⟩
  | .mp _ _ => ⟨True, x, H⟩
  | .fn (.func f) a b => ⟨True, .fn (.func f) a b, H⟩
  | .ptr _ ver _ => ⟨isVer ver (match x with | .ptr r _ _ => H[r]? | _ => none), x, H⟩
  | .pe _ ver _ _ => ⟨isVer ver (match x with | .pe r _ _ _ => H[r]? | _ => none), x, H⟩
  | _ => .no H

/-- Cell by cell: are they of these kinds, are they alike. -/
def cEq : List KD → List AV → List AV → Prop × Bool
  | [], [], [] => (True, true)
  | k :: ks, .v a :: l, .v b :: m => let r := cEq ks l m; ((kIs k a = true ∧ kIs k b = true ∧ kCmp a b = true) ∧ r.1, kEq a b && r.2)
  | _, _, _ => (False, false)

def iBin (op : BinOp) (k k' : IntKind) (a b : Int) (H : AHeap) : Res :=
  match op with
  | .add => ⟨k = k', .v (.int k (k.wrap (a + b))), H⟩
  | .sub => ⟨k = k', .v (.int k (k.wrap (a - b))), H⟩
  | .mul => ⟨k = k', .v (.int k (k.wrap (a * b))), H⟩
  | .quo => ⟨k = k' ∧ b ≠ 0, .v (.int k (k.wrap (a.tdiv b))), H⟩
  | .rem => ⟨k = k' ∧ b ≠ 0, .v (.int k (a.tmod b)), H⟩
  | .and => ⟨k = k', .v (.int k (k.wrap (BitVec.ofInt k.bits a &&& BitVec.ofInt k.bits b).toNat)), H⟩
  | .or => ⟨k = k', .v (.int k (k.wrap (BitVec.ofInt k.bits a ||| BitVec.ofInt k.bits b).toNat)), H⟩
  | .xor => ⟨k = k', .v (.int k (k.wrap (BitVec.ofInt k.bits a ^^^ BitVec.ofInt k.bits b).toNat)), H⟩
  | .eql => ⟨k = k', bool (decide (a = b)), H⟩
  | .neq => ⟨k = k', bool (!decide (a = b)), H⟩
  | .lss => ⟨k = k', bool (decide (a < b)), H⟩
  | .leq => ⟨k = k', bool (decide (a ≤ b)), H⟩
  | .gtr => ⟨k = k', bool (decide (b < a)), H⟩
  | .geq => ⟨k = k', bool (decide (b ≤ a)), H⟩
  | .shl => ⟨0 ≤ b, .v (.int k (k.wrap (a * 2 ^ (min b.toNat k.bits)))), H⟩
  | .shr => ⟨0 ≤ b, .v (.int k (a.fdiv (2 ^ (min b.toNat k.bits)))), H⟩
  | _ => .no H

def sBin (op : BinOp) (a b : List UInt8) (H : AHeap) : Res :=
  match op with
  | .add => ⟨((a.length + b.length : Nat) : Int) ≤ 9223372036854775807, str (a ++ b), H⟩
  | .eql => ⟨True, bool (decide (a = b)), H⟩
  | .neq => ⟨True, bool (!decide (a = b)), H⟩
  | .lss => ⟨True, bool (Op.bytesLess a b), H⟩
  | .leq => ⟨True, bool (Op.bytesLess a b || decide (a = b)), H⟩
  | .gtr => ⟨True, bool (!(Op.bytesLess a b || decide (a = b))), H⟩
  | .geq => ⟨True, bool (!Op.bytesLess a b), H⟩
  | _ => .no H

def eqRes (op : BinOp) (p : Prop) (b : Bool) (H : AHeap) : Res :=
  match op with
  | .eql => ⟨p, bool b, H⟩
  | .neq => ⟨p, bool (!b), H⟩
  | _ => .no H

def isKD : KD → KD → Bool
  | .int, .int => true
  | .str, .str => true
  | .bool, .bool => true
  | .fn, .fn => true
  | _, _ => false

def rBin (kd : KD) (op : BinOp) (x y : AV) (H : AHeap) : Res :=
  match x, y with
  | .v (.int k a), .v (.int k' b) => iBin op k k' a b H
  | .v (.string a), .v (.string b) => sBin op (bs a) (bs b) H
  | .v (.bool a), .v (.bool b) => eqRes op (isKD kd .bool = true) (decide (a = b)) H
  | .agg xs, .agg ys => match kd with
    | .agg ks => eqRes op (cEq ks xs ys).1 (cEq ks xs ys).2 H
    | _ => .no H
  | .fn _ _ _, .v .nilFunc => eqRes op (isKD kd .fn = true) false H
  | .v .nilFunc, .v .nilFunc => eqRes op (isKD kd .fn = true) true H
  | _, _ => .no H

def rNot (x : AV) (H : AHeap) : Res :=
  match x with
  | .v (.bool b) => ⟨True, bool (!b), H⟩
  | _ => .no H
def rNeg (x : AV) (H : AHeap) : Res :=
  match x with
  | .v (.int k n) => ⟨True, .v (.int k (k.wrap (0 - n))), H⟩
  | _ => .no H

def byteRow (b : UInt8) : List AV := [u8 b.toNat]
/-- The bytes that rows of one cell are. -/
def rowBytes : List (List AV) → Option (List UInt8)
  | [] => some []
  | [.v (.int .u8 n)] :: l => (rowBytes l).map (UInt8.ofNat n.toNat :: ·)
  | _ => none

def osRows (r ver off len : Nat) (H : AHeap) : Option (List (List AV)) :=
  match H[r]? with
  | some (.arr ver' _ xs) => if ver = ver' ∧ off + len ≤ xs.length then some ((xs.drop off).take len) else none
  | _ => none
/-- The elements of a slice, or of a string's bytes. -/
def rowsOf (H : AHeap) : AV → Option (List (List AV))
  | .sl _ xs => some xs
  | .os r ver off len => osRows r ver off len H
  | .v (.slice none 0 0) => some []
  | .nc => some []
  | .v (.string s) => some ((bs s).map byteRow)
  | _ => none

def szOk (H : AHeap) (sz : Nat) : AV → Prop
  | .sl sz' xs => sz' = sz ∨ xs = []
  | .os r _ _ _ => match H[r]? with | some (.arr _ sz' _) => sz' = sz | _ => False
  | .v (.slice none 0 0) => True
  | .nc => True
  | .v (.string _) => sz = 1
  | _ => False

def rConv (c : Cv) (x : AV) (H : AHeap) : Res :=
  match c, x with
  | .toInt k, .v (.int _ n) => ⟨True, .v (.int k (k.wrap n)), H⟩
  | .same, .v (.string s) => ⟨True, .v (.string s), H⟩
  | .strBytes, .v (.string s) => ⟨((bs s).length : Int) < 9223372036854775808, .sl 1 ((bs s).map byteRow), H⟩
  | .bytesStr, .v (.string _) => .no H
  | .bytesStr, y => ⟨szOk H 1 y ∧ ((rowsOf H y).bind rowBytes).isSome = true, str (((rowsOf H y).bind rowBytes).getD []), H⟩
  | .sameB, .os r ver off len => ⟨0 < len ∧ isArr H[r]? ∧ isVer ver H[r]?, .os r ver off len, H⟩
  | .runeStr, .v (.int _ n) => ⟨True, .v (.string (Utf8.encode n)), H⟩
  | _, _ => .no H

def rMsl (sz bytes : Nat) (zs : List AV) (len cap : AV) (H : AHeap) : Res :=
  match len, cap with
  | .v (.int .i64 n), .v (.int .i64 c) => ⟨0 ≤ n ∧ n ≤ c ∧ c * bytes ≤ 140737488355328 ∧ c ≤ 140737488355328 ∧ zs.length = sz, .os H.length 0 0 n.toNat, H ++ [.arr 0 sz (List.replicate c.toNat zs)]⟩
  | _, _ => .no H

def bnd (d : Int) : Option AV → Option Int
  | none => some d
  | some (.v (.int _ n)) => some n
  | _ => none

def rSliceN (x : AV) (lo hi : Option Int) (H : AHeap) : Res :=
  match x, lo, hi with
  | .v (.string s), some l, some h => ⟨0 ≤ l ∧ l ≤ h ∧ h ≤ (bs s).length, str (((bs s).drop l.toNat).take (h.toNat - l.toNat)), H⟩
  | .sl sz xs, some l, some h => ⟨0 ≤ l ∧ l ≤ h ∧ h ≤ xs.length, .sl sz ((xs.drop l.toNat).take (h.toNat - l.toNat)), H⟩
  | .os r ver off len, some l, some h => ⟨0 ≤ l ∧ l ≤ h ∧ h ≤ len ∧ isArr H[r]? ∧ isVer ver H[r]?, .os r ver (off + l.toNat) (h.toNat - l.toNat), H⟩
  | .v (.slice none 0 0), some l, some h => ⟨l = 0 ∧ h = 0, nilS, H⟩
  | _, _, _ => .no H

def lenOf : AV → Option Nat
  | .v (.string s) => some (bs s).length
  | .sl _ xs => some xs.length
  | .os _ _ _ len => some len
  | .v (.slice none 0 0) => some 0
  | .nc => some 0
  | .mp ks _ => some ks.length
  | .v (.map none) => some 0
  | _ => none

def lkOk : LK → AV → Bool
  | .str, .v (.string _) => true
  | .slc, .sl _ _ => true
  | .slc, .os _ _ _ _ => true
  | .slc, .nc => true
  | .slc, .v (.slice none 0 0) => true
  | .map, .mp _ _ => true
  | .map, .v (.map none) => true
  | _, _ => false

def rSlice (lk : LK) (n : Nat) (x : AV) (lo hi : Option AV) (H : AHeap) : Res := (rSliceN x (bnd 0 lo) (bnd ((lenOf x).getD 0) hi) H).also (lkOk lk x = true ∧ szOk H n x)

def verOk (H : AHeap) : AV → Prop
  | .os r ver _ _ => isArr H[r]? ∧ isVer ver H[r]?
  | _ => True

def rLen (lk : LK) (x : AV) (H : AHeap) : Res := ⟨lkOk lk x = true ∧ verOk H x, int ((lenOf x).getD 0), H⟩

def rFaddr (off : Nat) (p : AV) (H : AHeap) : Res :=
  match p with
  | .ptr r ver o => ⟨isBox H[r]? ∧ isVer ver H[r]?, .ptr r ver (o + off), H⟩
  | .pe r ver i o => ⟨isArr H[r]? ∧ isVer ver H[r]?, .pe r ver i (o + off), H⟩
  | .vp cs o => ⟨True, .vp cs (o + off), H⟩
  | _ => .no H

def rFld (ag : Bool) (off n : Nat) (x : AV) (H : AHeap) : Res :=
  match x with
  | .agg cs => ⟨off + n ≤ cs.length ∧ (ag = true ∨ n = 1), cellsV ag n (cs.drop off), H⟩
  | _ => .no H

def rIaddr (sz : Nat) (x i : AV) (H : AHeap) : Res :=
  match x, i with
  | .sl sz' xs, .v (.int _ n) => ⟨sz' = sz ∧ 0 ≤ n ∧ n < xs.length, .vp (xs.getD n.toNat []) 0, H⟩
  | .os r ver off len, .v (.int _ n) => ⟨0 ≤ n ∧ n < len ∧ szOk H sz (.os r ver off len) ∧ isVer ver H[r]?, .pe r ver (off + n.toNat) 0, H⟩
  | _, _ => .no H

def rIdx (x i : AV) (H : AHeap) : Res :=
  match x, i with
  | .v (.string s), .v (.int _ n) => ⟨0 ≤ n ∧ n < (bs s).length, u8 ((bs s).getD n.toNat 0).toNat, H⟩
  | _, _ => .no H

def mget (k : Value) : List Value → List AV → Option AV
  | k' :: ks, x :: vs => if kEq k k' = true then some x else mget k ks vs
  | _, _ => none
def lookV (zero : AV) (ok : Bool) : Option AV → AV
  | some x => if ok then .tup [x, bool true] else x
  | none => if ok then .tup [zero, bool false] else zero
def rLookN (kd : KD) (zero : AV) (ok : Bool) (k : Value) (ks : List Value) (vs : List AV) (H : AHeap) : Res :=
  ⟨(∀ k' ∈ ks, kCmp k k' = true) ∧ kIs kd k = true, lookV zero ok (mget k ks vs), H⟩
def rLook (kd : KD) (zero : AV) (ok : Bool) (m k : AV) (H : AHeap) : Res :=
  match m, k with
  | .mp ks vs, .v k => rLookN kd zero ok k ks vs H
  | .om r ver, .v k => match H[r]? with
    | some (.map ver' ks vs) => (rLookN kd zero ok k ks vs H).also (ver = ver')
    | _ => .no H
  | _, _ => .no H

def rExt (x : AV) (i : Nat) (H : AHeap) : Res :=
  match x with
  | .tup xs => ⟨i < xs.length, xs.getD i .any, H⟩
  | _ => .no H

def rAppendO (sz bytes : Nat) (r ver len : Nat) (ys : Option (List (List AV))) (H : AHeap) : Option HO → Res
  | some (.arr ver' sz' xs) => match ys with
    | some ys => ⟨ver = ver' ∧ sz' = sz ∧ len ≤ xs.length ∧ (len + ys.length) * bytes ≤ 140737488355328 ∧ len + ys.length ≤ 140737488355328, .os r (ver + 1) 0 (len + ys.length), H.set r (.arr (ver + 1) sz (xs.take len ++ ys))⟩
    | none => .no H
  | _ => .no H
def rAppendN (sz bytes : Nat) (ys : Option (List (List AV))) (H : AHeap) : Res :=
  match ys with
  | some ys => ⟨0 < sz ∧ ys.length * bytes ≤ 140737488355328 ∧ ys.length ≤ 140737488355328, .os H.length 0 0 ys.length, H ++ [.arr 0 sz ys]⟩
  | none => .no H
def rAppend (sz bytes : Nat) (s x : AV) (H : AHeap) : Res :=
  match s with
  | .os r ver 0 len => (rAppendO sz bytes r ver len (rowsOf H x) H H[r]?).also (szOk H sz x)
  | .v (.slice none 0 0) => (rAppendN sz bytes (rowsOf H x) H).also (szOk H sz x)
  | .nc => (rAppendN sz bytes (rowsOf H x) H).also (szOk H sz x)
  | _ => .no H

def rCopy (sz : Nat) (s x : AV) (H : AHeap) : Res :=
  match s, rowsOf H x with
  | .os r ver off len, some ys => match H[r]? with
    | some (.arr ver' sz' xs) => ⟨ver = ver' ∧ sz' = sz ∧ szOk H sz x ∧ off + len ≤ xs.length, int (min ys.length len : Nat), H.set r (.arr ver sz (xs.take off ++ ys.take (min ys.length len) ++ xs.drop (off + min ys.length len)))⟩
    | _ => .no H
  | _, _ => .no H

def rMin (x y : AV) (H : AHeap) : Res :=
  match x, y with
  | .v (.int k a), .v (.int _ b) => ⟨True, .v (.int k (if b < a then b else a)), H⟩
  | _, _ => .no H
def rMax (x y : AV) (H : AHeap) : Res :=
  match x, y with
  | .v (.int k a), .v (.int _ b) => ⟨True, .v (.int k (if a < b then b else a)), H⟩
  | _, _ => .no H

/-- An object that nobody changes any more. -/
def rFrz (x : AV) (H : AHeap) : Res :=
  match x with
  | .os r ver off len => match H[r]? with
    | some (.arr ver' sz xs) => ⟨ver = ver' ∧ off + len ≤ xs.length, .sl sz ((xs.drop off).take len), H.set r .dead⟩
    | _ => .no H
  | .om r ver => match H[r]? with
    | some (.map ver' ks vs) => ⟨ver = ver', .mp ks vs, H.set r .dead⟩
    | _ => .no H
  | .ptr r ver off => match H[r]? with
    | some (.box cs) => ⟨ver = 0 ∧ clL cs = true, .vp cs off, H.set r .dead⟩
    | _ => .no H
  | .v (.slice none 0 0) => ⟨True, .sl 0 [], H⟩
  | .sl sz xs => ⟨True, .sl sz xs, H⟩
  | _ => .no H

def rOwn (sz : Nat) (x : AV) (H : AHeap) : Res :=
  match x with
  | .v (.slice none 0 0) => ⟨0 < sz, .os H.length 0 0 0, H ++ [.arr 0 sz []]⟩
  | _ => .no H

/-- May this slice be nil? -/
def nilOk (x : AV) (b : Bool) : Prop :=
  match x with
  | .v (.slice none 0 0) => b = true
  | .sl _ xs => b = true → xs = []
  | .os _ _ _ len => b = true → len = 0
  | _ => True
def slcK (H : AHeap) : AV → Prop
  | .v (.slice none 0 0) => True
  | .sl _ _ => True
  | .os r ver _ _ => isArr H[r]? ∧ isVer ver H[r]?
  | .nc => True
  | _ => False

def ares (op : LOp) (e : Env) (H : AHeap) : Res :=
  match op with
  | .mv x => ⟨True, ev e x, H⟩
  | .pick _ _ _ => .no H
  | .alloc zs => ⟨c1s zs = true, .ptr H.length 0 0, H ++ [.box zs]⟩
  | .box imm x => rBox imm (ev e x) H
  | .build zs ps => rBuild zs (ps.map fun (o, n, x) => (o, n, ev e x)) H
  | .bsl imm sz len zs ps => rBsl imm sz len zs (ps.map fun (i, x) => (i, ev e x)) H
  | .mkmap => ⟨True, .om H.length 0, H ++ [.map 0 [] []]⟩
  | .ins kd m k x => rIns kd (ev e m) (ev e k) (ev e x) H
  | .load ag n p => rLoad ag n (ev e p) H
  | .store n p x => rStore n (ev e p) (ev e x) H
  | .nilchk x => rNil (ev e x) H
  | .bin kd op x y => rBin kd op (ev e x) (ev e y) H
  | .not x => rNot (ev e x) H
  | .neg x => rNeg (ev e x) H
  | .conv c x => rConv c (ev e x) H
  | .mkfn f first caps => ⟨True, .fn f (first.map (ev e)) (caps.map (ev e)), H⟩
  | .msl sz bytes zs len cap => rMsl sz bytes zs (ev e len) (ev e cap) H
  | .slice lk n x lo hi => rSlice lk n (ev e x) (lo.map (ev e)) (hi.map (ev e)) H
  | .faddr off p => rFaddr off (ev e p) H
  | .fld ag off n x => rFld ag off n (ev e x) H
  | .iaddr sz x i => rIaddr sz (ev e x) (ev e i) H
  | .idx x i => rIdx (ev e x) (ev e i) H
  | .look kd zero ok m k => rLook kd zero ok (ev e m) (ev e k) H
  | .ext x i => rExt (ev e x) i H
  | .len lk x => rLen lk (ev e x) H
  | .append sz bytes s x => rAppend sz bytes (ev e s) (ev e x) H
  | .copy sz s x => rCopy sz (ev e s) (ev e x) H
  | .min2 x y => rMin (ev e x) (ev e y) H
  | .max2 x y => rMax (ev e x) (ev e y) H
  | .call _ _ => .no H
  | .frz x => rFrz (ev e x) H
  | .own sz x => rOwn sz (ev e x) H
  | .isnil _ _ => .no H
  | .bad => .no H

inductive Out where
  | normal
  | exit (id : Nat)
  | ret

def acall (P : Program) (f : AV) (args : List AV) (H : AHeap) (K : AV → AHeap → Prop) : Prop :=
  match f with
  | .fn (.func k) first caps => ACall P k (first ++ args ++ caps) H K
  | _ => False

def aop (P : Program) (op : LOp) (e : Env) (H : AHeap) (K : AV → AHeap → Prop) : Prop :=
  match op with
  | .call f args => acall P (ev e f) (args.map (ev e)) H K
  | .pick c a b => match ev e c with
    | .v (.bool t) => if t = true then K (ev e a) H else K (ev e b) H
    | _ => False
  | .isnil neg x => slcK H (ev e x) ∧ ∀ b, nilOk (ev e x) b → K (bool (b ^^ neg)) H
  | op => (ares op e H).ok ∧ K (ares op e H).x (ares op e H).H

def aops (P : Program) : List LO → Env → AHeap → (Env → AHeap → Prop) → Prop
  | [], e, H, K => K e H
  | o :: l, e, H, K =>
    match o.g with
    | none => aop P o.op e H fun x H' => aops P l (ups e o.d x) H' K
    | some (t, want) =>
      match e t with
      | .v (.bool b) => if b = true then (if want = true then aop P o.op (up e t (bool true)) H fun x H' => aops P l (ups (up e t (bool true)) o.d x) H' K else aops P l (ups (up e t (bool true)) o.d undefA) H K)
          else (if want = true then aops P l (ups (up e t (bool false)) o.d undefA) H K else aop P o.op (up e t (bool false)) H fun x H' => aops P l (ups (up e t (bool false)) o.d x) H' K)
      | .v (.tuple _) => aops P l (ups e o.d undefA) H K
      | _ => False

/-- In a region that draws its order: what touches no object. -/
def aopq (P : Program) (op : LOp) (e : Env) (H : AHeap) (K : AV → Prop) : Prop :=
  match op with
  | .call f args => match ev e f with
    | .fn (.func k) first caps => ∃ x, APure P k (first ++ args.map (ev e) ++ caps) x ∧ clL (first ++ args.map (ev e) ++ caps) = true ∧ K x
    | _ => False
  | .pick c a b => match ev e c with
    | .v (.bool t) => if t = true then K (ev e a) else K (ev e b)
    | _ => False
  | .frz _ => False
  | .own _ _ => False
  | .isnil _ _ => False
  | op => (ares op e H).ok ∧ (ares op e H).H = H ∧ K (ares op e H).x

def aopsq (P : Program) : List LO → Env → AHeap → (Env → Prop) → Prop
  | [], e, _, K => K e
  | o :: l, e, H, K =>
    match o.g with
    | none => aopq P o.op e H fun x => aopsq P l (ups e o.d x) H K
    | some (t, want) =>
      match e t with
      | .v (.bool b) => if b = true then (if want = true then aopq P o.op (up e t (bool true)) H fun x => aopsq P l (ups (up e t (bool true)) o.d x) H K else aopsq P l (ups (up e t (bool true)) o.d undefA) H K)
          else (if want = true then aopsq P l (ups (up e t (bool false)) o.d undefA) H K else aopq P o.op (up e t (bool false)) H fun x => aopsq P l (ups (up e t (bool false)) o.d x) H K)
      | .v (.tuple _) => aopsq P l (ups e o.d undefA) H K
      | _ => False

def markX (e : Env) (x : LX) (b : Bool) : Env :=
  match x with
  | .t n => up e n (bool b)
  | .c _ => e

def awp (P : Program) : LCode → Env → AHeap → (Out → Env → AHeap → Prop) → Prop
  | .skip, e, H, K => K .normal e H
  | .ops l, e, H, K => aops P l e H (K .normal)
  | .draw hd tl, e, H, K => aopsq P hd e H fun e' => aops P tl e' H (K .normal)
  | .seq a b, e, H, K => awp P a e H fun o e' H' => match o with | .normal => awp P b e' H' K | o => K o e' H'
  | .cond x a b, e, H, K => match ev e x with
    | .v (.bool t) => if t = true then awp P a (markX e x true) H K else awp P b (markX e x false) H K
    | _ => False
  | .block id c, e, H, K => awp P c e H fun o e' H' => match o with | .exit j => if j = id then K .normal e' H' else K (.exit j) e' H' | o => K o e' H'
  | .loop c, e, H, K => ∃ (I : Env → AHeap → Prop) (μ : Env → AHeap → Nat), I e H ∧ ∀ e H, I e H → awp P c e H fun o e' H' => match o with | .normal => I e' H' ∧ μ e' H' < μ e H | o => K o e' H'
  | .exit id, e, H, K => K (.exit id) e H
  | .ret, e, H, K => K .ret e H

inductive RV where
  | tmp (t : Nat)
  | cell (t : Nat) (ag : Bool) (n : Nat)

def resV (e : Env) (H : AHeap) : RV → Res
  | .tmp t => ⟨True, e t, H⟩
  | .cell t ag n => rLoad ag n (e t) H
def resVs (e : Env) (H : AHeap) (l : List RV) : Res :=
  match l with
  | [r] => resV e H r
  | l => ⟨∀ r ∈ l, (resV e H r).ok, .tup (l.map fun r => (resV e H r).x), H⟩

structure LFn where
  n : Nat
  res : List RV
  body : LCode

/-- What stands behind the last statement of a function. -/
def retQ (res : List RV) (R : AV → AHeap → Prop) : Out → Env → AHeap → Prop
  | .exit _, _, _ => False
  | _, e, H => (resVs e H res).ok ∧ R (resVs e H res).x H

inductive Item where
  | code (c : LCode)
  | ops (l : List LO)
  | opq (l tl : List LO)
  | blk (id : Nat)
  | lp (R : Env → AHeap → Prop)

def runK (P : Program) : List Item → (Out → Env → AHeap → Prop) → Out → Env → AHeap → Prop
  | [], Q, o, e, H => Q o e H
  | .code c :: k, Q, .normal, e, H => awp P c e H (runK P k Q)
  | .code _ :: k, Q, o, e, H => runK P k Q o e H
  | .ops l :: k, Q, .normal, e, H => aops P l e H (runK P k Q .normal)
  | .ops _ :: k, Q, o, e, H => runK P k Q o e H
  | .opq l tl :: k, Q, .normal, e, H => aopsq P l e H fun e' => aops P tl e' H (runK P k Q .normal)
  | .opq _ _ :: k, Q, o, e, H => runK P k Q o e H
  | .blk id :: k, Q, o, e, H => match o with | .exit j => if j = id then runK P k Q .normal e H else runK P k Q (.exit j) e H | o => runK P k Q o e H
  | .lp R :: k, Q, o, e, H => match o with | .normal => R e H | o => runK P k Q o e H

end Go.Ax
