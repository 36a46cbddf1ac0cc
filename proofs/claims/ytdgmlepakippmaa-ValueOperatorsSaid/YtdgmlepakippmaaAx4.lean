/- Looking the types of the code up: from the model's code to code without types. -/
import Derived.Test.YtdgmlepakippmaaAx2
namespace Go.Ax
open Go Go.RowKit

inductive HK where
  | imm
  | pre (d : Nat) (op : LOp)
  | tail
  deriving Inhabited

/-- A hint of the prover's: region, operation, what. -/
structure Hn where
  reg : Nat
  idx : Nat
  k : HK
  deriving Inhabited

def lx (n : Nat) : Operand → Option LX
  | .tmp t => if t < n then some (.t t) else none
  | .const v => some (.c (.v v))
  | .func f => some (.c (.fn (.func f) [] []))
  | .global _ => none

def lxs (n : Nat) : List Operand → Option (List LX)
  | [] => some []
  | x :: l => match lx n x, lxs n l with
    | some y, some m => some (y :: m)
    | _, _ => none

def lxo (n : Nat) : Option Operand → Option (Option LX)
  | none => some none
  | some x => (lx n x).map some

def tyD (P : Program) (t : TypeId) : TypeDesc := (P.underlying t).getD .invalid
def tySz (P : Program) (t : TypeId) : Option Nat := (P.info? t).map (·.size)
def tyAg (P : Program) (t : TypeId) : Option Bool :=
  match P.underlying t with
  | some (.struct _) => some true
  | some (.array _ _) => some true
  | some _ => some false
  | none => none
def tyZero (P : Program) (t : TypeId) : Option Value := (P.info? t).bind (·.zero)
def avs (l : List Value) : List AV := l.map .v
def zeroA : Value → AV
  | .agg cs => .agg (avs cs.toList)
  | z => .v z
/-- The kinds of the cells of these fields, behind those of l, without gaps; g: the kinds of a type. -/
def flatFs (P : Program) (g : TypeId → Option (List KD)) : List KD → List Field → Option (List KD)
  | l, [] => some l
  | l, f :: fs => match g f.type, tySz P f.type, tyAg P f.type with
    | some m, some n, some _ => if f.name ≠ "_" ∧ f.offset = l.length ∧ m.length = n then flatFs P g (l ++ m) fs else none
    | _, _, _ => none

/-- The kinds of a type's cells. -/
def flatTo (P : Program) : Nat → TypeId → Option (List KD)
  | 0, _ => none
  | d + 1, t =>
    match P.underlying t with
    | some (.int _) => some [.int]
    | some .string => some [.str]
    | some .bool => some [.bool]
    | some (.struct fs) => if P.stoodInHeld t then none else flatFs P (flatTo P d) [] fs.toList
    | _ => none

def tyKD (P : Program) (t : TypeId) : Option KD :=
  match P.underlying t with
  | some (.int _) => some .int
  | some .string => some .str
  | some .bool => some .bool
  | some (.func _ _ _) => some .fn
  | some (.struct _) => if P.eqGuardType P.depth t then none else (flatTo P 8 t).map .agg
  | _ => none

def isInt (P : Program) (t : TypeId) : Bool := match P.underlying t with | some (.int _) => true | _ => false
def isStr (P : Program) (t : TypeId) : Bool := match P.underlying t with | some .string => true | _ => false

def lowPs (n : Nat) (place : Nat → Option (Nat × Nat)) : List (Nat × Operand) → Option (List (Nat × Nat × LX))
  | [] => some []
  | (i, x) :: l => match place i, lx n x, lowPs n place l with
    | some (off, sz), some y, some m => some ((off, sz, y) :: m)
    | _, _, _ => none
def lowSs (n : Nat) : List (Nat × Operand) → Option (List (Nat × LX))
  | [] => some []
  | (i, x) :: l => match lx n x, lowSs n l with
    | some y, some m => some ((i, y) :: m)
    | _, _ => none

def placesOf (P : Program) (fs : List Field) : Option (List (Nat × Nat)) :=
  match fs with
  | [] => some []
  | f :: l => match tySz P f.type, placesOf P l with
    | some n, some m => some ((f.offset, n) :: m)
    | _, _ => none

def lowBuild (P : Program) (n : Nat) (t : TypeId) (ps : List (Nat × Operand)) : Option LOp :=
  match tyZero P t, P.underlying t with
  | some (.agg z), some (.struct fs) => match placesOf P fs.toList with
    | some pl => (lowPs n (fun i => pl[i]?) ps).map (.build (avs z.toList))
    | none => none
  | some (.agg z), some (.array _ el) => match tySz P el with
    | some sz => (lowPs n (fun i => some (i * sz, sz)) ps).map (.build (avs z.toList))
    | none => none
  | _, _ => none

def lowBsl (P : Program) (n : Nat) (imm : Bool) (t : TypeId) (len : Nat) (ps : List (Nat × Operand)) : Option LOp :=
  match P.underlying t with
  | some (.slice el) => match tySz P el, tyZero P el, lowSs n ps with
    | some sz, some z, some m => if 0 < sz ∧ z.cells.size = sz ∧ len * sz ≤ 16777216 ∧ z.cells.toList.all one then some (.bsl imm sz len (avs z.cells.toList) m) else none
    | _, _, _ => none
  | _ => none

def lowConv (P : Program) (n : Nat) (src dst : TypeId) (x : Operand) : Option LOp :=
  match P.underlying src, P.underlying dst, lx n x with
  | some (.int _), some (.int k), some y => some (.conv (.toInt k) y)
  | some .string, some .string, some y => some (.conv .same y)
  | some (.int _), some .string, some y => some (.conv .runeStr y)
  | some .string, some (.slice e), some y => match P.underlying e with
    | some (.int .u8) => some (.conv .strBytes y)
    | _ => none
  | some (.slice e), some .string, some y => match P.underlying e, tySz P e with
    | some (.int .u8), some 1 => some (.conv .bytesStr y)
    | _, _ => none
  | some (.slice e), some (.slice _), some y => match P.underlying e with
    | some (.int .u8) => if (src == dst) = true then some (.conv .sameB y) else none
    | _ => none
  | _, _, _ => none

def lowCall (P : Program) (n : Nat) (c : Call) : Option LOp :=
  match c.callee with
  | .value f => match lx n f, lxs n c.args.toList with
    | some g, some m => some (.call g m)
    | _, _ => none
  | .builtin .len => match lxs n c.args.toList, c.argTypes.toList with
    | some [x], [t] => match P.underlying t with
      | some .string => some (.len .str x)
      | some (.slice _) => some (.len .slc x)
      | some (.map _ _) => some (.len .map x)
      | _ => none
    | _, _ => none
  | .builtin .append => match lxs n c.args.toList, c.argTypes.toList with
    | some [s, x], [t, u] => match P.underlying t with
      | some (.slice el) => match P.info? el, P.underlying u with
        | some i, some (.slice _) => if 0 < i.size ∧ (i.zero.map (·.cells.size)) = some i.size then some (.append i.size i.bytes s x) else none
        | some i, some .string => if i.size = 1 ∧ (i.zero.map (·.cells.size)) = some 1 then some (.append i.size i.bytes s x) else none
        | _, _ => none
      | _ => none
    | _, _ => none
  | .builtin .copy => match lxs n c.args.toList, c.argTypes.toList with
    | some [s, x], [t, _] => match P.underlying t with
      | some (.slice el) => (tySz P el).bind fun sz => if 0 < sz then some (.copy sz s x) else none
      | _ => none
    | _, _ => none
  | .builtin .min => match lxs n c.args.toList with
    | some [x, y] => some (.min2 x y)
    | _ => none
  | .builtin .max => match lxs n c.args.toList with
    | some [x, y] => some (.max2 x y)
    | _ => none
  | _ => none

def isNilC : Operand → Bool
  | .const (.slice none 0 0) => true
  | _ => false
def isEq : BinOp → Option Bool
  | .eql => some false
  | .neq => some true
  | _ => none
def lowBin (P : Program) (n : Nat) (op : BinOp) (t : TypeId) (x y : Operand) : Option LOp :=
  match P.underlying t with
  | some (.slice _) => match isEq op, lx n x with
    | some neg, some x => if isNilC y then some (.isnil neg x) else none
    | _, _ => none
  | _ => match tyKD P t, lx n x, lx n y with
    | some kd, some x, some y => some (.bin kd op x y)
    | _, _, _ => none

def lowOp0 (P : Program) (n : Nat) (imm : Bool) (o : Oper) : Option LOp :=
  match o.op with
  | .move x => (lx n x).map .mv
  | .assign x => (lx n x).map .mv
  | .pick c a b => match lx n c, lx n a, lx n b with
    | some c, some a, some b => some (.pick c a b)
    | _, _, _ => none
  | .alloc t => match tyZero P t with
    | some z => some (.alloc (avs z.cells.toList))
    | none => none
  | .box _ x => (lx n x).map (.box imm)
  | .build t ps => lowBuild P n t ps.toList
  | .buildSlice t len ps => lowBsl P n imm t len ps.toList
  | .makeMap _ none => some .mkmap
  | .insert t m k x | .mapUpdate t m k x => match P.underlying t, lx n m, lx n k, lx n x with
    | some (.map kt _), some m, some k, some x => (tyKD P kt).map fun kd => .ins kd m k x
    | _, _, _, _ => none
  | .load t p => match tyAg P t, tySz P t, lx n p with
    | some ag, some sz, some p => some (.load ag sz p)
    | _, _, _ => none
  | .store t p x => match tySz P t, lx n p, lx n x with
    | some sz, some p, some x => some (.store sz p x)
    | _, _, _ => none
  | .nilCheck x => (lx n x).map .nilchk
  | .binOp op t x y _ => lowBin P n op t x y
  | .unOp .not _ x => (lx n x).map .not
  | .unOp .neg _ x => (lx n x).map .neg
  | .convert src dst x => lowConv P n src dst x
  | .makeFunc f first caps => match lxs n first.toList, lxs n caps.toList with
    | some a, some b => some (.mkfn f a b)
    | _, _ => none
  | .makeSlice t l c => match P.underlying t, lx n l, lx n c with
    | some (.slice el), some l, some c => match P.info? el with
      | some i => match i.zero with
        | some z => if 0 < i.size ∧ z.cells.size = i.size ∧ z.cells.toList.all one then some (.msl i.size i.bytes (avs z.cells.toList) l c) else none
        | none => none
      | none => none
    | _, _, _ => none
  | .slice t x lo hi none => match P.underlying t, lx n x, lxo n lo, lxo n hi with
    | some .string, some x, some lo, some hi => some (.slice .str 1 x lo hi)
    | some (.slice el), some x, some lo, some hi => (tySz P el).map fun n => .slice .slc n x lo hi
    | _, _, _, _ => none
  | .fieldAddr s p f => match P.underlying s, lx n p with
    | some (.struct fs), some p => match fs[f]? with
      | some fd => match tySz P fd.type with
        | some 0 => none
        | some _ => some (.faddr fd.offset p)
        | none => none
      | none => none
    | _, _ => none
  | .field s x f => match P.underlying s, lx n x with
    | some (.struct fs), some x => match fs[f]? with
      | some fd => match tyAg P fd.type, tySz P fd.type with
        | some ag, some sz => some (.fld ag fd.offset sz x)
        | _, _ => none
      | none => none
    | _, _ => none
  | .indexAddr t x i => match P.underlying t, lx n x, lx n i with
    | some (.slice el), some x, some i => (tySz P el).map fun sz => .iaddr sz x i
    | _, _, _ => none
  | .index t x i => match P.underlying t, lx n x, lx n i with
    | some .string, some x, some i => some (.idx x i)
    | _, _, _ => none
  | .lookup t m k ok => match P.underlying t, lx n m, lx n k with
    | some (.map kt el), some m, some k => match tyKD P kt, tyZero P el with
      | some kd, some z => some (.look kd (zeroA z) ok m k)
      | _, _ => none
    | _, _, _ => none
  | .extract x i => (lx n x).map (.ext · i)
  | .call c => lowCall P n c
  | _ => none

def lowOp (P : Program) (n : Nat) (imm : Bool) (o : Oper) : LOp := (lowOp0 P n imm o).getD .bad

def lowG (ops : Array Oper) (n : Nat) : Option (Nat × Bool) → Option (Option (Nat × Bool))
  | none => some none
  | some (j, want) => match (ops[j]?).bind (·.dst) with
    | some t => if t < n then some (some (t, want)) else none
    | none => none

def hasImm (hs : List Hn) (reg i : Nat) : Bool := hs.any fun h => h.reg == reg && h.idx == i && (match h.k with | .imm => true | _ => false)
def presAt (hs : List Hn) (reg i : Nat) : List LO := hs.filterMap fun h => if h.reg == reg && h.idx == i then (match h.k with | .pre d op => some ⟨some d, none, op⟩ | _ => none) else none
/-- A step of the proof's own: it turns what is known of one slot. -/
def ghost (d : Option Nat) : LOp → Bool
  | .frz (.t t) => d == some t
  | .own _ (.t t) => d == some t
  | _ => false
def ghosts (n : Nat) (l : List LO) : Bool := l.all fun o => o.g.isNone && ghost o.d o.op && (match o.d with | some d => decide (d < n) | none => false)
def tailAt (hs : List Hn) (reg : Nat) (n : Nat) : Nat := ((hs.find? fun h => h.reg == reg && (match h.k with | .tail => true | _ => false)).map (·.idx)).getD n

def dstOk (n : Nat) : Option Nat → Bool
  | some d => decide (d < n)
  | none => true

def lowOne (P : Program) (n : Nat) (imm : Bool) (ops : Array Oper) (o : Oper) : Option LO :=
  match lowG ops n o.guard with
  | some g => if dstOk n o.dst then some ⟨o.dst, g, lowOp P n imm o⟩ else none
  | none => none

def lowOps (P : Program) (n : Nat) (hs : List Hn) (reg : Nat) (ops : Array Oper) : Nat → List Oper → Option (List LO)
  | i, [] => if ghosts n (presAt hs reg i) then some (presAt hs reg i) else none
  | i, o :: l => match lowOne P n (hasImm hs reg i) ops o, lowOps P n hs reg ops (i + 1) l with
    | some lo, some m => if ghosts n (presAt hs reg i) then some (presAt hs reg i ++ lo :: m) else none
    | _, _ => none

def lowHd (P : Program) (n : Nat) (hs : List Hn) (reg : Nat) (ops : Array Oper) : Nat → List Oper → Option (List LO)
  | _, [] => some []
  | i, o :: l => match lowOne P n (hasImm hs reg i) ops o, lowHd P n hs reg ops (i + 1) l with
    | some lo, some m => some (lo :: m)
    | _, _ => none

def LX.rd : LX → List Nat
  | .t n => [n]
  | .c _ => []
def rdL (l : List LX) : List Nat := l.flatMap LX.rd
def rdO : Option LX → List Nat
  | some x => x.rd
  | none => []
def LOp.rd : LOp → List Nat
  | .mv x => x.rd
  | .pick c a b => c.rd ++ a.rd ++ b.rd
  | .alloc _ => []
  | .box _ x => x.rd
  | .build _ ps => ps.flatMap (·.2.2.rd)
  | .bsl _ _ _ _ ps => ps.flatMap (·.2.rd)
  | .mkmap => []
  | .ins _ m k x => m.rd ++ k.rd ++ x.rd
  | .load _ _ p => p.rd
  | .store _ p x => p.rd ++ x.rd
  | .nilchk x => x.rd
  | .bin _ _ x y => x.rd ++ y.rd
  | .not x => x.rd
  | .neg x => x.rd
  | .conv _ x => x.rd
  | .mkfn _ a b => rdL a ++ rdL b
  | .msl _ _ _ l c => l.rd ++ c.rd
  | .slice _ _ x lo hi => x.rd ++ rdO lo ++ rdO hi
  | .faddr _ p => p.rd
  | .fld _ _ _ x => x.rd
  | .iaddr _ x i => x.rd ++ i.rd
  | .idx x i => x.rd ++ i.rd
  | .look _ _ _ m k => m.rd ++ k.rd
  | .ext x _ => x.rd
  | .len _ x => x.rd
  | .append _ _ s x => s.rd ++ x.rd
  | .copy _ s x => s.rd ++ x.rd
  | .min2 x y => x.rd ++ y.rd
  | .max2 x y => x.rd ++ y.rd
  | .call f args => f.rd ++ rdL args
  | .frz x => x.rd
  | .own _ x => x.rd
  | .isnil _ x => x.rd
  | .bad => []
def LO.rd (o : LO) : List Nat := (match o.g with | some (t, _) => [t] | none => []) ++ o.op.rd

def memO (d : Option Nat) (l : List Nat) : Bool :=
  match d with
  | some t => l.contains t
  | none => false
/-- Do the two get in each other's way? -/
def confl (a b : LO) : Bool := memO a.d b.rd || memO b.d a.rd || (a.d.isSome && a.d == b.d)

/-- Whatever order is drawn: what is named by two of the first h operations is ordered, and the rest comes behind, one by one. -/
def drawOk (ops : Array Oper) (hd : List LO) (h : Nat) : Bool :=
  let b := Region.before ops
  (List.range ops.size).all fun j => (List.range j).all fun i =>
    (b.getD j 0).testBit i || (decide (j < h) && !confl (hd.getD i default) (hd.getD j default))

def edgesOk (ops : Array Oper) : Bool := (List.range ops.size).all fun i => ((ops[i]?).map (·.after.all fun e => !Region.binds .any e || decide (e.on < i))).getD true

/-- Reads memory at most. -/
def quietK : LOp → Bool
  | .mv _ => true
  | .pick _ _ _ => true
  | .box imm _ => imm
  | .build _ _ => true
  | .bsl imm _ _ _ _ => imm
  | .load _ _ _ => true
  | .nilchk _ => true
  | .bin _ _ _ _ => true
  | .not _ => true
  | .neg _ => true
  | .conv _ _ => true
  | .mkfn _ _ _ => true
  | .slice _ _ _ _ _ => true
  | .faddr _ _ => true
  | .fld _ _ _ _ => true
  | .iaddr _ _ _ => true
  | .idx _ _ => true
  | .look _ _ _ _ _ => true
  | .ext _ _ => true
  | .len _ _ => true
  | .min2 _ _ => true
  | .max2 _ _ => true
  | .call _ _ => true
  | _ => false
/-- Has nothing to do with memory. -/
def heapless : LOp → Bool
  | .mv _ => true
  | .pick _ _ _ => true
  | .build _ _ => true
  | .bin _ _ _ _ => true
  | .not _ => true
  | .neg _ => true
  | .mkfn _ _ _ => true
  | .fld _ _ _ _ => true
  | .idx _ _ => true
  | .ext _ _ => true
  | .min2 _ _ => true
  | .max2 _ _ => true
  | .call _ _ => true
  | _ => false
/-- Makes a new object, and changes none. -/
def fresh : LOp → Bool
  | .alloc _ => true
  | .box imm _ => !imm
  | .bsl imm _ _ _ _ => !imm
  | .mkmap => true
  | .msl _ _ _ _ _ => true
  | _ => false
def tlAt (P : Program) (n : Nat) (hs : List Hn) (reg : Nat) (ops : Array Oper) (j : Nat) : LO :=
  match ops[j]? with
  | some o => (lowOne P n (hasImm hs reg j) ops o).getD default
  | none => default
/-- As drawOk, but an operation behind the first h may be drawn ahead of one of them, where the two have nothing to do with each other. -/
def drawOk2 (P : Program) (n : Nat) (hs : List Hn) (reg : Nat) (ops : Array Oper) (hd : List LO) (h : Nat) : Bool :=
  let b := Region.before ops
  (List.range ops.size).all fun j => (List.range j).all fun i =>
    (b.getD j 0).testBit i || (decide (j < h) && !confl (hd.getD i default) (hd.getD j default)) ||
      (decide (i < h) && decide (h ≤ j) && (presAt hs reg j).isEmpty && quietK (hd.getD i default).op && !confl (hd.getD i default) (tlAt P n hs reg ops j) && (heapless (hd.getD i default).op || fresh (tlAt P n hs reg ops j).op))

def lowC (P : Program) (n : Nat) (hs : List Hn) : Code → Option LCode
  | .skip => some .skip
  | .region id ops false => (lowOps P n hs id ops 0 ops.toList).map .ops
  | .region id ops true =>
    let h := tailAt hs id ops.size
    match lowHd P n hs id ops 0 (ops.toList.take h), lowOps P n hs id ops h (ops.toList.drop h) with
    | some hd, some tl => if (drawOk ops hd h || drawOk2 P n hs id ops hd h) && edgesOk ops && P.follows .mixedOrders && decide (h ≤ ops.size) then some (.draw hd tl) else none
    | _, _ => none
  | .seq a b => match lowC P n hs a, lowC P n hs b with
    | some a, some b => some (.seq a b)
    | _, _ => none
  | .cond c a b => match lx n c, lowC P n hs a, lowC P n hs b with
    | some c, some a, some b => some (.cond c a b)
    | _, _, _ => none
  | .block id c => (lowC P n hs c).map (.block id)
  | .loop c => (lowC P n hs c).map .loop
  | .exit id => some (.exit id)
  | .ret => some .ret
  | _ => none

def lowRs (P : Program) (n : Nat) : List ResultVar → Option (List RV)
  | [] => some []
  | .tmp t :: l => match lowRs P n l with
    | some m => if t < n then some (.tmp t :: m) else none
    | none => none
  | .cell t ty :: l => match lowRs P n l, tyAg P ty, tySz P ty with
    | some m, some ag, some sz => if t < n then some (.cell t ag sz :: m) else none
    | _, _, _ => none

def lowFn (P : Program) (fn : Func) (hs : List Hn) : Option LFn :=
  match fn.body, lowRs P fn.ntmps fn.results.toList with
  | some c, some rs => match lowC P fn.ntmps hs c with
    | some b => if fn.params.size + fn.nfree ≤ fn.ntmps ∧ (fn.name == "runtime.NumGoroutine") = false then some ⟨fn.ntmps, rs, b⟩ else none
    | none => none
  | _, _ => none

end Go.Ax
