/- Parts, merged by a program (wip/tools/merge.py): Ax3 Ax23 Ax26 Ax28 Ax29 Fx Tb1 Tb2 Shelf Tb3. -/
import Derived.Test.YtiibbkbcebccnaaM2
import Derived.Test.YtiibbkbcebccnaaChecked
import Derived.Shelf.Strings.Builder1
import Derived.KernelRfl
import Derived.Shelf.Strings.Builder2
import Derived.Shelf.Strings.OnBuilder
import Derived.Shelf.Utf8.RuneCount
import Derived.Shelf.Strings.Search1
import Derived.Shelf.Strings.Search2
import Derived.Shelf.Strings.Search3
import Derived.Shelf.Strings.Count
import Derived.Shelf.LaysM
import Derived.Shelf.Strings.Shaped
import Derived.Test.YtiibbkbcebccnaaProg
/- The steps of a run, as rules for rewriting. -/
namespace Go.Ax
open Go Go.RowKit

section
variable {P : Program} {k : List Item} {Q : Out → Env → AHeap → Prop} {e : Env} {H : AHeap} {d : Option Nat} {l : List LO}

/-- On with the value of an operation. -/
def goK (P : Program) (r : Res) (e : Env) (d : Option Nat) (l : List LO) (k : List Item) (Q : Out → Env → AHeap → Prop) : Prop :=
  r.ok ∧ runK P (.ops l :: k) Q .normal (ups e d r.x) r.H
def opK (P : Program) (op : LOp) (e : Env) (H : AHeap) (d : Option Nat) (l : List LO) (k : List Item) (Q : Out → Env → AHeap → Prop) : Prop :=
  aop P op e H fun x H' => runK P (.ops l :: k) Q .normal (ups e d x) H'
/-- A call, and on with what it hands back. -/
def callK (P : Program) (f : AV) (args : List AV) (H : AHeap) (e : Env) (d : Option Nat) (l : List LO) (k : List Item) (Q : Out → Env → AHeap → Prop) : Prop :=
  acall P f args H fun x H' => runK P (.ops l :: k) Q .normal (ups e d x) H'
def callF (P : Program) (f : FuncId) (args : List AV) (H : AHeap) (e : Env) (d : Option Nat) (l : List LO) (k : List Item) (Q : Out → Env → AHeap → Prop) : Prop :=
  ACall P f args H fun x H' => runK P (.ops l :: k) Q .normal (ups e d x) H'
def nilK (P : Program) (neg : Bool) (x : AV) (e : Env) (H : AHeap) (d : Option Nat) (l : List LO) (k : List Item) (Q : Out → Env → AHeap → Prop) : Prop :=
  slcK H x ∧ ∀ b, nilOk x b → runK P (.ops l :: k) Q .normal (ups e d (bool (b ^^ neg))) H
def gK (P : Program) (x : AV) (want : Bool) (op : LOp) (e : Env) (t : Nat) (H : AHeap) (d : Option Nat) (l : List LO) (k : List Item) (Q : Out → Env → AHeap → Prop) : Prop :=
  match x with
  | .v (.bool b) => if b = true then (if want = true then opK P op (up e t (bool true)) H d l k Q else runK P (.ops l :: k) Q .normal (ups (up e t (bool true)) d undefA) H)
      else (if want = true then runK P (.ops l :: k) Q .normal (ups (up e t (bool false)) d undefA) H else opK P op (up e t (bool false)) H d l k Q)
  | .v (.tuple _) => runK P (.ops l :: k) Q .normal (ups e d undefA) H
  | _ => False
def pickK (P : Program) (c a b : AV) (e : Env) (H : AHeap) (d : Option Nat) (l : List LO) (k : List Item) (Q : Out → Env → AHeap → Prop) : Prop :=
  match c with
  | .v (.bool t) => if t = true then runK P (.ops l :: k) Q .normal (ups e d a) H else runK P (.ops l :: k) Q .normal (ups e d b) H
  | _ => False
def cK (P : Program) (v : AV) (x : LX) (a b : LCode) (e : Env) (H : AHeap) (k : List Item) (Q : Out → Env → AHeap → Prop) : Prop :=
  match v with
  | .v (.bool t) => if t = true then runK P (.code a :: k) Q .normal (markX e x true) H else runK P (.code b :: k) Q .normal (markX e x false) H
  | _ => False

@[push_cast] theorem goK_mk (p : Prop) (x : AV) (H' : AHeap) : goK P ⟨p, x, H'⟩ e d l k Q = (p ∧ runK P (.ops l :: k) Q .normal (ups e d x) H') := rfl
@[push_cast] theorem also_mk (p q : Prop) (x : AV) (H' : AHeap) : Res.also p ⟨q, x, H'⟩ = ⟨p ∧ q, x, H'⟩ := rfl

@[push_cast] theorem rk_nil (o : Out) : runK P [] Q o e H = Q o e H := rfl
@[push_cast] theorem rk_skip : runK P (.code .skip :: k) Q .normal e H = runK P k Q .normal e H := rfl
@[push_cast] theorem rk_seq (a b : LCode) : runK P (.code (.seq a b) :: k) Q .normal e H = runK P (.code a :: .code b :: k) Q .normal e H := by
  show awp P a e H _ = awp P a e H _
  congr 1
  funext o e' H'
  cases o <;> rfl
@[push_cast] theorem rk_block (id : Nat) (c : LCode) : runK P (.code (.block id c) :: k) Q .normal e H = runK P (.code c :: .blk id :: k) Q .normal e H := by
  show awp P c e H _ = awp P c e H _
  rfl
@[push_cast] theorem rk_exit (id : Nat) : runK P (.code (.exit id) :: k) Q .normal e H = runK P k Q (.exit id) e H := rfl
@[push_cast] theorem rk_ret : runK P (.code .ret :: k) Q .normal e H = runK P k Q .ret e H := rfl
@[push_cast] theorem rk_code_exit (c : LCode) (id : Nat) : runK P (.code c :: k) Q (.exit id) e H = runK P k Q (.exit id) e H := rfl
@[push_cast] theorem rk_code_ret (c : LCode) : runK P (.code c :: k) Q .ret e H = runK P k Q .ret e H := rfl
@[push_cast] theorem rk_blk : ∀ (id : Nat), runK P (.blk id :: k) Q .normal e H = runK P k Q .normal e H := fun _ => rfl
@[push_cast] theorem rk_blk_exit (id j : Nat) : runK P (.blk id :: k) Q (.exit j) e H = if j = id then runK P k Q .normal e H else runK P k Q (.exit j) e H := rfl
@[push_cast] theorem rk_blk_ret (id : Nat) : runK P (.blk id :: k) Q .ret e H = runK P k Q .ret e H := rfl
@[push_cast] theorem rk_lp (R : Env → AHeap → Prop) : runK P (.lp R :: k) Q .normal e H = R e H := rfl
@[push_cast] theorem rk_lp_exit (R : Env → AHeap → Prop) (j : Nat) : runK P (.lp R :: k) Q (.exit j) e H = runK P k Q (.exit j) e H := rfl
@[push_cast] theorem rk_lp_ret (R : Env → AHeap → Prop) : runK P (.lp R :: k) Q .ret e H = runK P k Q .ret e H := rfl
@[push_cast] theorem rk_ops (l : List LO) : runK P (.code (.ops l) :: k) Q .normal e H = runK P (.ops l :: k) Q .normal e H := rfl
@[push_cast] theorem rk_opsnil : runK P (.ops [] :: k) Q .normal e H = runK P k Q .normal e H := rfl
@[push_cast] theorem rk_op (op : LOp) : runK P (.ops (⟨d, none, op⟩ :: l) :: k) Q .normal e H = opK P op e H d l k Q := rfl
@[push_cast] theorem rk_opg (t : Nat) (want : Bool) (op : LOp) : runK P (.ops (⟨d, some (t, want), op⟩ :: l) :: k) Q .normal e H = gK P (e t) want op e t H d l k Q := by
  simp only [runK, aops, gK, opK]
  try (cases e t with
  | v x => cases x <;> rfl
  | _ => rfl)
@[push_cast] theorem rk_cond (x : LX) (a b : LCode) : runK P (.code (.cond x a b) :: k) Q .normal e H = cK P (ev e x) x a b e H k Q := by
  simp only [runK, awp, cK]
  cases ev e x with
  | v x => cases x <;> rfl
  | _ => rfl
@[push_cast] theorem cK_bool (t : Bool) (x : LX) (a b : LCode) : cK P (.v (.bool t)) x a b e H k Q = if t = true then runK P (.code a :: k) Q .normal (markX e x true) H else runK P (.code b :: k) Q .normal (markX e x false) H := rfl
@[push_cast] theorem gK_t (b : Bool) (op : LOp) (t : Nat) : gK P (.v (.bool b)) true op e t H d l k Q = if b = true then opK P op (up e t (bool true)) H d l k Q else runK P (.ops l :: k) Q .normal (ups (up e t (bool false)) d undefA) H := by simp [gK]
@[push_cast] theorem gK_f (b : Bool) (op : LOp) (t : Nat) : gK P (.v (.bool b)) false op e t H d l k Q = if b = true then runK P (.ops l :: k) Q .normal (ups (up e t (bool true)) d undefA) H else opK P op (up e t (bool false)) H d l k Q := by simp [gK]
@[push_cast] theorem gK_u (us : Array Value) (want : Bool) (op : LOp) (t : Nat) : gK P (.v (.tuple us)) want op e t H d l k Q = runK P (.ops l :: k) Q .normal (ups e d undefA) H := rfl

@[push_cast] theorem opK_mv (x : LX) : opK P (.mv x) e H d l k Q = runK P (.ops l :: k) Q .normal (ups e d (ev e x)) H := by simp [opK, aop, ares]
@[push_cast] theorem opK_pick (c a b : LX) : opK P (.pick c a b) e H d l k Q = pickK P (ev e c) (ev e a) (ev e b) e H d l k Q := by
  simp only [opK, aop, pickK]
  cases ev e c with
  | v x => cases x <;> rfl
  | _ => rfl
@[push_cast] theorem pickK_b (t : Bool) (a b : AV) : pickK P (.v (.bool t)) a b e H d l k Q = if t = true then runK P (.ops l :: k) Q .normal (ups e d a) H else runK P (.ops l :: k) Q .normal (ups e d b) H := rfl
@[push_cast] theorem opK_allocb (t : TypeId) (zs : List AV) : opK P (.allocb t zs) e H d l k Q = goK P ⟨isNilP (zs.headD .any) = true ∧ c1s zs = true, .ptr H.length 0 0, H ++ [.box (.bnil t :: zs.drop 1)]⟩ e d l k Q := rfl
@[push_cast] theorem opK_alloc (zs : List AV) : opK P (.alloc zs) e H d l k Q = goK P ⟨c1s zs = true, .ptr H.length 0 0, H ++ [.box zs]⟩ e d l k Q := rfl
@[push_cast] theorem opK_box (imm : Bool) (x : LX) : opK P (.box imm x) e H d l k Q = goK P (rBox imm (ev e x) H) e d l k Q := rfl
@[push_cast] theorem opK_build (zs : List AV) (ps : List (Nat × Nat × LX)) : opK P (.build zs ps) e H d l k Q = goK P (rBuild zs (ps.map fun (o, n, x) => (o, n, ev e x)) H) e d l k Q := rfl
@[push_cast] theorem opK_bsl (imm : Bool) (sz len : Nat) (zs : List AV) (ps : List (Nat × LX)) : opK P (.bsl imm sz len zs ps) e H d l k Q = goK P (rBsl imm sz len zs (ps.map fun (i, x) => (i, ev e x)) H) e d l k Q := rfl
@[push_cast] theorem opK_mkmap : opK P .mkmap e H d l k Q = goK P ⟨True, .om H.length 0, H ++ [.map 0 [] []]⟩ e d l k Q := rfl
@[push_cast] theorem keyV_v (x : Value) : keyV (.v x) = .v x := rfl
@[push_cast] theorem keyV_two (a b : Value) : keyV (.agg [.v a, .v b]) = .v (.agg #[a, b]) := rfl
@[push_cast] theorem opK_ins (kd : KD) (m x y : LX) : opK P (.ins kd m x y) e H d l k Q = goK P (rIns kd (ev e m) (keyV (ev e x)) (ev e y) H) e d l k Q := rfl
@[push_cast] theorem opK_load (ag : Bool) (n : Nat) (p : LX) : opK P (.load ag n p) e H d l k Q = goK P (rLoad ag n (ev e p) H) e d l k Q := rfl
@[push_cast] theorem opK_loadb (ag : Bool) (n : Nat) (p : LX) : opK P (.loadb ag n p) e H d l k Q = goK P (rLoadB ag n (ev e p) H) e d l k Q := rfl
@[push_cast] theorem opK_store (n : Nat) (p x : LX) : opK P (.store n p x) e H d l k Q = goK P (rStore n (ev e p) (ev e x) H) e d l k Q := rfl
@[push_cast] theorem opK_nilchk (x : LX) : opK P (.nilchk x) e H d l k Q = goK P (rNil (ev e x) H) e d l k Q := rfl
@[push_cast] theorem opK_bin (kd : KD) (op : BinOp) (x y : LX) : opK P (.bin kd op x y) e H d l k Q = goK P (rBin kd op (ev e x) (ev e y) H) e d l k Q := rfl
@[push_cast] theorem opK_not (x : LX) : opK P (.not x) e H d l k Q = goK P (rNot (ev e x) H) e d l k Q := rfl
@[push_cast] theorem opK_neg (x : LX) : opK P (.neg x) e H d l k Q = goK P (rNeg (ev e x) H) e d l k Q := rfl
@[push_cast] theorem opK_conv (c : Cv) (x : LX) : opK P (.conv c x) e H d l k Q = goK P (rConv c (ev e x) H) e d l k Q := rfl
@[push_cast] theorem opK_mkfn (f : Fn) (a b : List LX) : opK P (.mkfn f a b) e H d l k Q = goK P ⟨True, .fn f (a.map (ev e)) (b.map (ev e)), H⟩ e d l k Q := rfl
@[push_cast] theorem opK_msl (sz bytes : Nat) (zs : List AV) (len cap : LX) : opK P (.msl sz bytes zs len cap) e H d l k Q = goK P (rMsl sz bytes zs (ev e len) (ev e cap) H) e d l k Q := rfl
@[push_cast] theorem opK_slice (lk : LK) (n : Nat) (x : LX) (lo hi : Option LX) : opK P (.slice lk n x lo hi) e H d l k Q = goK P (rSlice lk n (ev e x) (lo.map (ev e)) (hi.map (ev e)) H) e d l k Q := rfl
@[push_cast] theorem opK_faddr (off : Nat) (p : LX) : opK P (.faddr off p) e H d l k Q = goK P (rFaddr off (ev e p) H) e d l k Q := rfl
@[push_cast] theorem opK_fld (ag : Bool) (off n : Nat) (x : LX) : opK P (.fld ag off n x) e H d l k Q = goK P (rFld ag off n (ev e x) H) e d l k Q := rfl
@[push_cast] theorem opK_iaddr (sz : Nat) (x i : LX) : opK P (.iaddr sz x i) e H d l k Q = goK P (rIaddr sz (ev e x) (ev e i) H) e d l k Q := rfl
@[push_cast] theorem opK_iaddrv (sz : Nat) (x i : LX) : opK P (.iaddrv sz x i) e H d l k Q = goK P (rIaddrV sz (ev e x) (ev e i) H) e d l k Q := rfl
@[push_cast] theorem opK_faddrb (off : Nat) (p : LX) : opK P (.faddrb off p) e H d l k Q = goK P (rFaddrB off (ev e p) H) e d l k Q := rfl
@[push_cast] theorem opK_idx (x i : LX) : opK P (.idx x i) e H d l k Q = goK P (rIdx (ev e x) (ev e i) H) e d l k Q := rfl
@[push_cast] theorem opK_look (kd : KD) (zero : AV) (ok : Bool) (m x : LX) : opK P (.look kd zero ok m x) e H d l k Q = goK P (rLook kd zero ok (ev e m) (keyV (ev e x)) H) e d l k Q := rfl
@[push_cast] theorem opK_ext (x : LX) (i : Nat) : opK P (.ext x i) e H d l k Q = goK P (rExt (ev e x) i H) e d l k Q := rfl
@[push_cast] theorem opK_len (lk : LK) (x : LX) : opK P (.len lk x) e H d l k Q = goK P (rLen lk (ev e x) H) e d l k Q := rfl
@[push_cast] theorem opK_append (sz bytes : Nat) (s x : LX) : opK P (.append sz bytes s x) e H d l k Q = goK P (rAppend sz bytes (ev e s) (ev e x) H) e d l k Q := rfl
@[push_cast] theorem opK_appendb (t : TypeId) (s x : LX) : opK P (.appendb t s x) e H d l k Q = goK P (rAppendB t (ev e s) (ev e x) H) e d l k Q := rfl
@[push_cast] theorem opK_copy (sz : Nat) (s x : LX) : opK P (.copy sz s x) e H d l k Q = goK P (rCopy sz (ev e s) (ev e x) H) e d l k Q := rfl
@[push_cast] theorem opK_min (x y : LX) : opK P (.min2 x y) e H d l k Q = goK P (rMin (ev e x) (ev e y) H) e d l k Q := rfl
@[push_cast] theorem opK_max (x y : LX) : opK P (.max2 x y) e H d l k Q = goK P (rMax (ev e x) (ev e y) H) e d l k Q := rfl
@[push_cast] theorem opK_frz (x : LX) : opK P (.frz x) e H d l k Q = goK P (rFrz (ev e x) H) e d l k Q := rfl
@[push_cast] theorem opK_frzf (sz off : Nat) (x : LX) : opK P (.frzf sz off x) e H d l k Q = goK P (rFrzf sz off (ev e x) H) e d l k Q := rfl
@[push_cast] theorem opK_own (sz : Nat) (x : LX) : opK P (.own sz x) e H d l k Q = goK P (rOwn sz (ev e x) H) e d l k Q := rfl
@[push_cast] theorem opK_bad : opK P .bad e H d l k Q = goK P (.no H) e d l k Q := rfl
@[push_cast] theorem opK_isnil (neg : Bool) (x : LX) : opK P (.isnil neg x) e H d l k Q = nilK P neg (ev e x) e H d l k Q := rfl
@[push_cast] theorem opK_call (f : LX) (args : List LX) : opK P (.call f args) e H d l k Q = callK P (ev e f) (args.map (ev e)) H e d l k Q := rfl
@[push_cast] theorem callK_fn (f : FuncId) (a b args : List AV) : callK P (.fn (.func f) a b) args H e d l k Q = callF P f (a ++ args ++ b) H e d l k Q := rfl

/-- A call of yield: a round. -/
def callY (P : Program) (f : Nat) (args : List AV) (H : AHeap) (e : Env) (d : Option Nat) (l : List LO) (k : List Item) (Q : Out → Env → AHeap → Prop) : Prop :=
  AYield P f args H fun x H' => runK P (.ops l :: k) Q .normal (ups e d x) H'
@[push_cast] theorem callK_yield (f : Nat) (args : List AV) : callK P (.v (.func (.yield f) #[] #[])) args H e d l k Q = callY P f args H e d l k Q := rfl
theorem callY_mono {f : Nat} {args : List AV} {R : AV → AHeap → Prop} (h : AYield P f args H R) (hk : ∀ y H', R y H' → runK P (.ops l :: k) Q .normal (ups e d y) H') : callY P f args H e d l k Q :=
  h.mono hk
@[push_cast] theorem rk_bgn (l0 : Nat) (lr : Go.Loop) (e0 : Env) (r : Nat) : runK P (.bgn l0 lr e0 r :: k) Q .normal e H = (H[r]? = some (.lp l0 lr e0 .ready) ∧ runK P k Q .normal e (H.set r (.lp l0 lr e0 .busy))) := rfl
@[push_cast] theorem rndQ_normal (l0 : Nat) (lr : Go.Loop) (e0 : Env) (r : Nat) (R : AV → AHeap → Prop) : rndQ l0 lr e0 r R .normal e H = (H[r]? = some (.lp l0 lr e0 .busy) ∧ R (bool true) (H.set r (.lp l0 lr e0 .ready))) := rfl
@[push_cast] theorem rndQ_exit (l0 : Nat) (lr : Go.Loop) (e0 : Env) (r id : Nat) (R : AV → AHeap → Prop) : rndQ l0 lr e0 r R (.exit id) e H = (H[r]? = some (.lp l0 lr e0 .busy) ∧ R (bool false) (H.set r (.lp l0 lr e0 (.done (some id))))) := rfl
@[push_cast] theorem rndQ_ret (l0 : Nat) (lr : Go.Loop) (e0 : Env) (r : Nat) (R : AV → AHeap → Prop) : rndQ l0 lr e0 r R .ret e H = (H[r]? = some (.lp l0 lr e0 .busy) ∧ R (bool false) (H.set r (.lp l0 lr e0 (.done none)))) := rfl
@[push_cast] theorem upL_cons (p : Nat) (ps : List Nat) (x : AV) (xs : List AV) : upL e (p :: ps) (x :: xs) = upL (up e p x) ps xs := rfl
@[push_cast] theorem upL_nil (xs : List AV) : upL e [] xs = e := by cases xs <;> rfl

/-- A call that computes x. -/
theorem callF_pure {f : FuncId} {args : List AV} {x : AV} (h : ACall P f args H fun y H' => y = x ∧ H' = H) (hk : runK P (.ops l :: k) Q .normal (ups e d x) H) : callF P f args H e d l k Q :=
  h.mono fun y H' ⟨hy, hH⟩ => by subst hy; subst hH; exact hk
theorem callF_mono {f : FuncId} {args : List AV} {R : AV → AHeap → Prop} (h : ACall P f args H R) (hk : ∀ y H', R y H' → runK P (.ops l :: k) Q .normal (ups e d y) H') : callF P f args H e d l k Q :=
  h.mono hk

theorem rk_loop {c : LCode} (I : Env → AHeap → Prop) (μ : Env → AHeap → Nat) (h0 : I e H)
    (h : ∀ e H, I e H → runK P (.code c :: .lp (fun e' H' => I e' H' ∧ μ e' H' < μ e H) :: k) Q .normal e H) : runK P (.code (.loop c) :: k) Q .normal e H := by
  refine ⟨I, μ, h0, fun e H hI => ?_⟩
  have h1 : awp P c e H (runK P (.lp (fun e' H' => I e' H' ∧ μ e' H' < μ e H) :: k) Q) := h e H hI
  have : (runK P (.lp (fun e' H' => I e' H' ∧ μ e' H' < μ e H) :: k) Q) = (fun o e' H' => match o with | .normal => I e' H' ∧ μ e' H' < μ e H | o => runK P k Q o e' H') := by
    funext o e' H'; cases o <;> rfl
  rw [this] at h1
  exact h1

/-! ### The same where an order is drawn -/
def gqK (P : Program) (r : Res) (e : Env) (H : AHeap) (d : Option Nat) (l tl : List LO) (k : List Item) (Q : Out → Env → AHeap → Prop) : Prop :=
  r.ok ∧ r.H = H ∧ runK P (.opq l tl :: k) Q .normal (ups e d r.x) H
def oqK (P : Program) (op : LOp) (e : Env) (H : AHeap) (d : Option Nat) (l tl : List LO) (k : List Item) (Q : Out → Env → AHeap → Prop) : Prop :=
  aopq P op e H fun x => runK P (.opq l tl :: k) Q .normal (ups e d x) H
def callQ (P : Program) (f : AV) (args : List AV) (H : AHeap) (e : Env) (d : Option Nat) (l tl : List LO) (k : List Item) (Q : Out → Env → AHeap → Prop) : Prop :=
  match f with
  | .fn (.func f) a b => ∃ x, APure P f (a ++ args ++ b) x ∧ clL (a ++ args ++ b) = true ∧ runK P (.opq l tl :: k) Q .normal (ups e d x) H
  | _ => False
def callQF (P : Program) (f : FuncId) (args : List AV) (H : AHeap) (e : Env) (d : Option Nat) (l tl : List LO) (k : List Item) (Q : Out → Env → AHeap → Prop) : Prop :=
  ∃ x, APure P f args x ∧ clL args = true ∧ runK P (.opq l tl :: k) Q .normal (ups e d x) H
def gqG (P : Program) (x : AV) (want : Bool) (op : LOp) (e : Env) (t : Nat) (H : AHeap) (d : Option Nat) (l tl : List LO) (k : List Item) (Q : Out → Env → AHeap → Prop) : Prop :=
  match x with
  | .v (.bool b) => if b = true then (if want = true then oqK P op (up e t (bool true)) H d l tl k Q else runK P (.opq l tl :: k) Q .normal (ups (up e t (bool true)) d undefA) H)
      else (if want = true then runK P (.opq l tl :: k) Q .normal (ups (up e t (bool false)) d undefA) H else oqK P op (up e t (bool false)) H d l tl k Q)
  | .v (.tuple _) => runK P (.opq l tl :: k) Q .normal (ups e d undefA) H
  | _ => False
variable {tl : List LO}
@[push_cast] theorem gqK_mk (p : Prop) (x : AV) (H' : AHeap) : gqK P ⟨p, x, H'⟩ e H d l tl k Q = (p ∧ H' = H ∧ runK P (.opq l tl :: k) Q .normal (ups e d x) H) := rfl
@[push_cast] theorem rk_draw (hd tl : List LO) : runK P (.code (.draw hd tl) :: k) Q .normal e H = runK P (.opq hd tl :: k) Q .normal e H := rfl
@[push_cast] theorem rk_opqnil : runK P (.opq [] tl :: k) Q .normal e H = runK P (.ops tl :: k) Q .normal e H := rfl
@[push_cast] theorem rk_oq (op : LOp) : runK P (.opq (⟨d, none, op⟩ :: l) tl :: k) Q .normal e H = oqK P op e H d l tl k Q := rfl
@[push_cast] theorem rk_oqg (t : Nat) (want : Bool) (op : LOp) : runK P (.opq (⟨d, some (t, want), op⟩ :: l) tl :: k) Q .normal e H = gqG P (e t) want op e t H d l tl k Q := by
  simp only [runK, aopsq, gqG, oqK]
  cases e t with
  | v x => cases x <;> rfl
  | _ => rfl
@[push_cast] theorem gqG_t (b : Bool) (op : LOp) (t : Nat) : gqG P (.v (.bool b)) true op e t H d l tl k Q = if b = true then oqK P op (up e t (bool true)) H d l tl k Q else runK P (.opq l tl :: k) Q .normal (ups (up e t (bool false)) d undefA) H := by simp [gqG]
@[push_cast] theorem gqG_f (b : Bool) (op : LOp) (t : Nat) : gqG P (.v (.bool b)) false op e t H d l tl k Q = if b = true then runK P (.opq l tl :: k) Q .normal (ups (up e t (bool true)) d undefA) H else oqK P op (up e t (bool false)) H d l tl k Q := by simp [gqG]
@[push_cast] theorem gqG_u (us : Array Value) (want : Bool) (op : LOp) (t : Nat) : gqG P (.v (.tuple us)) want op e t H d l tl k Q = runK P (.opq l tl :: k) Q .normal (ups e d undefA) H := rfl
@[push_cast] theorem oqK_mv (x : LX) : oqK P (.mv x) e H d l tl k Q = runK P (.opq l tl :: k) Q .normal (ups e d (ev e x)) H := by simp [oqK, aopq, ares]
@[push_cast] theorem oqK_pick (c a b : LX) : oqK P (.pick c a b) e H d l tl k Q = match ev e c with | .v (.bool t) => (if t = true then runK P (.opq l tl :: k) Q .normal (ups e d (ev e a)) H else runK P (.opq l tl :: k) Q .normal (ups e d (ev e b)) H) | _ => False := rfl
@[push_cast] theorem oqK_box (imm : Bool) (x : LX) : oqK P (.box imm x) e H d l tl k Q = gqK P (rBox imm (ev e x) H) e H d l tl k Q := rfl
@[push_cast] theorem oqK_build (zs : List AV) (ps : List (Nat × Nat × LX)) : oqK P (.build zs ps) e H d l tl k Q = gqK P (rBuild zs (ps.map fun (o, n, x) => (o, n, ev e x)) H) e H d l tl k Q := rfl
@[push_cast] theorem oqK_bsl (imm : Bool) (sz len : Nat) (zs : List AV) (ps : List (Nat × LX)) : oqK P (.bsl imm sz len zs ps) e H d l tl k Q = gqK P (rBsl imm sz len zs (ps.map fun (i, x) => (i, ev e x)) H) e H d l tl k Q := rfl
@[push_cast] theorem oqK_load (ag : Bool) (n : Nat) (p : LX) : oqK P (.load ag n p) e H d l tl k Q = gqK P (rLoad ag n (ev e p) H) e H d l tl k Q := rfl
@[push_cast] theorem oqK_loadb (ag : Bool) (n : Nat) (p : LX) : oqK P (.loadb ag n p) e H d l tl k Q = gqK P (rLoadB ag n (ev e p) H) e H d l tl k Q := rfl
@[push_cast] theorem oqK_nilchk (x : LX) : oqK P (.nilchk x) e H d l tl k Q = gqK P (rNil (ev e x) H) e H d l tl k Q := rfl
@[push_cast] theorem oqK_bin (kd : KD) (op : BinOp) (x y : LX) : oqK P (.bin kd op x y) e H d l tl k Q = gqK P (rBin kd op (ev e x) (ev e y) H) e H d l tl k Q := rfl
@[push_cast] theorem oqK_not (x : LX) : oqK P (.not x) e H d l tl k Q = gqK P (rNot (ev e x) H) e H d l tl k Q := rfl
@[push_cast] theorem oqK_neg (x : LX) : oqK P (.neg x) e H d l tl k Q = gqK P (rNeg (ev e x) H) e H d l tl k Q := rfl
@[push_cast] theorem oqK_conv (c : Cv) (x : LX) : oqK P (.conv c x) e H d l tl k Q = gqK P (rConv c (ev e x) H) e H d l tl k Q := rfl
@[push_cast] theorem oqK_mkfn (f : Fn) (a b : List LX) : oqK P (.mkfn f a b) e H d l tl k Q = gqK P ⟨True, .fn f (a.map (ev e)) (b.map (ev e)), H⟩ e H d l tl k Q := rfl
@[push_cast] theorem oqK_slice (lk : LK) (n : Nat) (x : LX) (lo hi : Option LX) : oqK P (.slice lk n x lo hi) e H d l tl k Q = gqK P (rSlice lk n (ev e x) (lo.map (ev e)) (hi.map (ev e)) H) e H d l tl k Q := rfl
@[push_cast] theorem oqK_faddr (off : Nat) (p : LX) : oqK P (.faddr off p) e H d l tl k Q = gqK P (rFaddr off (ev e p) H) e H d l tl k Q := rfl
@[push_cast] theorem oqK_fld (ag : Bool) (off n : Nat) (x : LX) : oqK P (.fld ag off n x) e H d l tl k Q = gqK P (rFld ag off n (ev e x) H) e H d l tl k Q := rfl
@[push_cast] theorem oqK_iaddr (sz : Nat) (x i : LX) : oqK P (.iaddr sz x i) e H d l tl k Q = gqK P (rIaddr sz (ev e x) (ev e i) H) e H d l tl k Q := rfl
@[push_cast] theorem oqK_iaddrv (sz : Nat) (x i : LX) : oqK P (.iaddrv sz x i) e H d l tl k Q = gqK P (rIaddrV sz (ev e x) (ev e i) H) e H d l tl k Q := rfl
@[push_cast] theorem oqK_faddrb (off : Nat) (p : LX) : oqK P (.faddrb off p) e H d l tl k Q = gqK P (rFaddrB off (ev e p) H) e H d l tl k Q := rfl
@[push_cast] theorem oqK_idx (x i : LX) : oqK P (.idx x i) e H d l tl k Q = gqK P (rIdx (ev e x) (ev e i) H) e H d l tl k Q := rfl
@[push_cast] theorem oqK_look (kd : KD) (zero : AV) (ok : Bool) (m x : LX) : oqK P (.look kd zero ok m x) e H d l tl k Q = gqK P (rLook kd zero ok (ev e m) (keyV (ev e x)) H) e H d l tl k Q := rfl
@[push_cast] theorem oqK_ext (x : LX) (i : Nat) : oqK P (.ext x i) e H d l tl k Q = gqK P (rExt (ev e x) i H) e H d l tl k Q := rfl
@[push_cast] theorem oqK_len (lk : LK) (x : LX) : oqK P (.len lk x) e H d l tl k Q = gqK P (rLen lk (ev e x) H) e H d l tl k Q := rfl
@[push_cast] theorem oqK_min (x y : LX) : oqK P (.min2 x y) e H d l tl k Q = gqK P (rMin (ev e x) (ev e y) H) e H d l tl k Q := rfl
@[push_cast] theorem oqK_max (x y : LX) : oqK P (.max2 x y) e H d l tl k Q = gqK P (rMax (ev e x) (ev e y) H) e H d l tl k Q := rfl
@[push_cast] theorem oqK_call (f : LX) (args : List LX) : oqK P (.call f args) e H d l tl k Q = callQ P (ev e f) (args.map (ev e)) H e d l tl k Q := by
  simp only [oqK, aopq, callQ]
  cases ev e f with
  | fn f a b => cases f <;> rfl
  | _ => rfl
@[push_cast] theorem callQ_fn (f : FuncId) (a b args : List AV) : callQ P (.fn (.func f) a b) args H e d l tl k Q = callQF P f (a ++ args ++ b) H e d l tl k Q := rfl
theorem callQF_pure {f : FuncId} {args : List AV} {x : AV} (h : APure P f args x) (hc : clL args = true) (hk : runK P (.opq l tl :: k) Q .normal (ups e d x) H) : callQF P f args H e d l tl k Q := ⟨x, h, hc, hk⟩

@[push_cast] theorem ups_some (t : Nat) (x : AV) : ups e (some t) x = up e t x := rfl
@[push_cast] theorem ups_none (x : AV) : ups e none x = e := rfl
@[push_cast] theorem up_same (t : Nat) (x : AV) : up e t x t = x := by simp [up]
@[push_cast] theorem up_at (t u : Nat) (x : AV) : up e t x u = if u = t then x else e u := rfl
@[push_cast] theorem ev_t (n : Nat) : ev e (.t n) = e n := rfl
@[push_cast] theorem ev_c (x : AV) : ev e (.c x) = x := rfl
@[push_cast] theorem markX_t (n : Nat) (b : Bool) : markX e (.t n) b = up e n (bool b) := rfl
@[push_cast] theorem markX_c (x : AV) (b : Bool) : markX e (.c x) b = e := rfl
@[push_cast] theorem retQ_ret (res : List RV) (R : AV → AHeap → Prop) : retQ res R .ret e H = ((resVs e H res).ok ∧ R (resVs e H res).x H) := rfl
@[push_cast] theorem retQ_normal (res : List RV) (R : AV → AHeap → Prop) : retQ res R .normal e H = ((resVs e H res).ok ∧ R (resVs e H res).x H) := rfl
@[push_cast] theorem resVs_1 (r : RV) : resVs e H [r] = resV e H r := rfl
@[push_cast] theorem resVs_2 (a b : RV) : resVs e H [a, b] = ⟨(resV e H a).ok ∧ (resV e H b).ok, .tup [(resV e H a).x, (resV e H b).x], H⟩ := by simp [resVs]
@[push_cast] theorem resVs_3 (a b c : RV) : resVs e H [a, b, c] = ⟨(resV e H a).ok ∧ (resV e H b).ok ∧ (resV e H c).ok, .tup [(resV e H a).x, (resV e H b).x, (resV e H c).x], H⟩ := by simp [resVs]
@[push_cast] theorem resVs_4 (a b c d : RV) : resVs e H [a, b, c, d] = ⟨(resV e H a).ok ∧ (resV e H b).ok ∧ (resV e H c).ok ∧ (resV e H d).ok, .tup [(resV e H a).x, (resV e H b).x, (resV e H c).x, (resV e H d).x], H⟩ := by simp [resVs]
@[push_cast] theorem resV_tmp (t : Nat) : resV e H (.tmp t) = ⟨True, e t, H⟩ := rfl
@[push_cast] theorem resV_cell (t : Nat) (ag : Bool) (n : Nat) : resV e H (.cell t ag n) = rLoad ag n (e t) H := rfl
@[push_cast] theorem envOf_nil (i : Nat) : envOf [] i = e0 := rfl
@[push_cast] theorem envOf_cons (x : AV) (l : List AV) (i : Nat) : envOf (x :: l) i = up (envOf l (i + 1)) i x := rfl
end

@[push_cast] theorem rIaddrV_sl (sz a : Nat) (b : List (List AV)) (i : AV) (H : AHeap) : rIaddrV sz (.sl a b) i H = rIaddr sz (.sl a b) i H := rfl
@[push_cast] theorem rFaddrB_ptr (off r v o : Nat) (H : AHeap) : rFaddrB off (.ptr r v o) H = rFaddr off (.ptr r v o) H := rfl
@[push_cast] theorem rFaddrB_vp (off : Nat) (cs : List AV) (o : Nat) (H : AHeap) : rFaddrB off (.vp cs o) H = rFaddr off (.vp cs o) H := rfl
@[push_cast] theorem rLoadB_ptr (ag : Bool) (n r v o : Nat) (H : AHeap) : rLoadB ag n (.ptr r v o) H = rLoad ag n (.ptr r v o) H := rfl
@[push_cast] theorem rLoadB_vp (ag : Bool) (n : Nat) (cs : List AV) (o : Nat) (H : AHeap) : rLoadB ag n (.vp cs o) H = rLoad ag n (.vp cs o) H := rfl
attribute [push_cast] rBox.eq_1 fillA.eq_1 fillA.eq_2 rBuild.eq_1 fillS.eq_1 fillS.eq_2 rBsl.eq_1 rIns.eq_1 rIns.eq_2 rLoadO.eq_1 rLoadO.eq_2 rLoadO.eq_3 isVer.eq_1 isVer.eq_2 isVer.eq_3 isVer.eq_4 isBox.eq_1 isBox.eq_2 isArr.eq_1 isArr.eq_2 rLoad.eq_1 rLoad.eq_2 rLoad.eq_3 rLoad.eq_4 rStoreO.eq_1 rStoreO.eq_2 rStoreO.eq_3 rStore.eq_1 rStore.eq_2 rStore.eq_3 rNil.eq_1 rNil.eq_2 rNil.eq_3 rNil.eq_4 rNil.eq_5 rNil.eq_6 cEq.eq_1 cEq.eq_2 cEq.eq_3 iBin.eq_1 iBin.eq_2 iBin.eq_3 iBin.eq_4 iBin.eq_5 iBin.eq_6 iBin.eq_7 iBin.eq_8 iBin.eq_9 iBin.eq_10 iBin.eq_11 iBin.eq_12 iBin.eq_13 iBin.eq_14 iBin.eq_15 iBin.eq_16 sBin.eq_1 sBin.eq_2 sBin.eq_3 sBin.eq_4 sBin.eq_5 sBin.eq_6 sBin.eq_7 sBin.eq_8 eqRes.eq_1 eqRes.eq_2 eqRes.eq_3 isKD.eq_1 isKD.eq_2 isKD.eq_3 isKD.eq_4 rBin.eq_1 rBin.eq_2 rBin.eq_3 rBin.eq_4 rBin.eq_5 rBin.eq_6 rBin.eq_7 rNot.eq_1 rNot.eq_2 rNeg.eq_1 rNeg.eq_2 rConv.eq_1 rConv.eq_2 rConv.eq_3 rConv.eq_4 rConv.eq_5 rConv.eq_6 rConv.eq_7 rConv.eq_8 rMsl.eq_1 rMsl.eq_2 bnd.eq_1 bnd.eq_2 bnd.eq_3 rSliceN.eq_1 rSliceN.eq_2 rSliceN.eq_3 rSliceN.eq_4 rSliceN.eq_5 lenOf.eq_1 lenOf.eq_2 lenOf.eq_3 lenOf.eq_4 lenOf.eq_5 lenOf.eq_6 lenOf.eq_7 lenOf.eq_8 rSlice.eq_1 lkOk.eq_1 lkOk.eq_2 lkOk.eq_3 lkOk.eq_4 lkOk.eq_5 lkOk.eq_6 lkOk.eq_7 verOk.eq_1 verOk.eq_2 rLen.eq_1 rFaddr.eq_1 rFaddr.eq_2 rFaddr.eq_3 rFaddr.eq_4 rFld.eq_1 rFld.eq_2 rIaddr.eq_1 rIaddr.eq_2 rIaddr.eq_3 rIdx.eq_1 rIdx.eq_2 lookV.eq_1 lookV.eq_2 rLookN.eq_1 rLook.eq_1 rLook.eq_2 rLook.eq_3 rExt.eq_1 rExt.eq_2 rAppendO.eq_1 rAppendO.eq_2 rAppendO.eq_3 rAppendN.eq_1 rAppendN.eq_2 rAppend.eq_1 rAppend.eq_2 rAppend.eq_3 rAppend.eq_4 rCopy.eq_1 rCopy.eq_2 rMin.eq_1 rMin.eq_2 rMax.eq_1 rMax.eq_2 rFrz.eq_1 rFrz.eq_2 rFrz.eq_3 rFrz.eq_4 rFrz.eq_5 rFrz.eq_6 rFrzN.eq_1 rFrzN.eq_2 rFrzN.eq_3 rFrzO.eq_1 rFrzfO.eq_1 rFrzfO.eq_2 rFrzf.eq_1 rOwn.eq_1 rOwn.eq_2 cellsOf.eq_1 cellsOf.eq_2 c1.eq_1 c1.eq_2 c1.eq_3 c1.eq_4 one.eq_1 one.eq_2 one.eq_3 cellsV.eq_1 splice.eq_1 osRows.eq_1 rowsOf.eq_1 rowsOf.eq_2 rowsOf.eq_3 rowsOf.eq_4 rowsOf.eq_5 rowsOf.eq_6 szOk.eq_1 szOk.eq_2 szOk.eq_3 szOk.eq_4 szOk.eq_5 szOk.eq_6 nilOk.eq_1 nilOk.eq_2 nilOk.eq_3 nilOk.eq_4 slcK.eq_1 slcK.eq_2 slcK.eq_3 slcK.eq_4 slcK.eq_5 kIs.eq_1 kIs.eq_2 kIs.eq_3 kIs.eq_4 AV.cl.eq_1 AV.cl.eq_2 AV.cl.eq_3 AV.cl.eq_4 AV.cl.eq_5 AV.cl.eq_6 AV.cl.eq_7 AV.cl.eq_8 kCmp.eq_1 kCmp.eq_2 kCmp.eq_3 kCmp.eq_4

@[push_cast] theorem verOk_v (H : AHeap) (x : Value) : verOk H (.v x) = True := rfl
@[push_cast] theorem verOk_sl (H : AHeap) (sz : Nat) (xs : List (List AV)) : verOk H (.sl sz xs) = True := rfl
@[push_cast] theorem verOk_mp (H : AHeap) (ks : List Value) (vs : List AV) : verOk H (.mp ks vs) = True := rfl
@[push_cast] theorem verOk_nc (H : AHeap) : verOk H .nc = True := rfl
@[push_cast] theorem bs_mkS (l : List UInt8) : bs (mkS l) = l := by simp [bs, mkS]
theorem mkS_bs (s : ByteArray) : mkS (bs s) = s := by cases s; simp [bs, mkS]
@[push_cast] theorem c1s_nil : c1s [] = true := rfl
@[push_cast] theorem c1s_cons (x : AV) (l : List AV) : c1s (x :: l) = (c1 x && c1s l) := rfl
@[push_cast] theorem clL_nil : clL [] = true := rfl
@[push_cast] theorem clL_cons (x : AV) (l : List AV) : clL (x :: l) = (x.cl && clL l) := by simp [clL]
@[push_cast] theorem wrap64_of (n : Int) (h : -9223372036854775808 ≤ n) (h' : n < 9223372036854775808) : IntKind.i64.wrap n = n := by
  simp [IntKind.wrap, IntKind.bits, IntKind.signed]
  split <;> omega
@[push_cast] theorem wrap8_of (n : Int) (h : 0 ≤ n) (h' : n < 256) : IntKind.u8.wrap n = n := by
  simp [IntKind.wrap, IntKind.bits, IntKind.signed]
  omega
@[push_cast] theorem wrap32_of (n : Int) (h : -2147483648 ≤ n) (h' : n < 2147483648) : IntKind.i32.wrap n = n := by
  simp [IntKind.wrap, IntKind.bits, IntKind.signed]
  split <;> omega
@[push_cast] theorem wrapu64_of (n : Int) (h : 0 ≤ n) (h' : n < 18446744073709551616) : IntKind.u64.wrap n = n := by
  simp [IntKind.wrap, IntKind.bits, IntKind.signed]
  omega

attribute [push_cast] List.map_cons List.map_nil List.cons_append List.nil_append List.append_nil List.length_cons List.length_nil List.take_zero List.take_nil List.take_succ_cons List.drop_zero List.drop_nil List.drop_succ_cons List.headD_cons
  List.getElem?_cons_zero List.getElem?_cons_succ List.set_cons_zero List.set_cons_succ List.getD_cons_zero List.getD_cons_succ List.replicate_succ List.replicate_zero List.length_append List.length_map
  if_true if_false ite_true ite_false true_and and_true Option.map_some Option.map_none Option.getD_some Option.getD_none Option.isSome_some decide_eq_true_eq decide_eq_false_iff_not Bool.not_eq_true' Bool.and_eq_true Bool.or_eq_true beq_iff_eq ne_eq not_true not_false_eq_true
  false_and and_false Bool.false_eq_true Bool.not_true Bool.not_false Bool.and_true Bool.and_false Bool.true_and Bool.false_and Bool.or_true Bool.or_false Bool.true_or Bool.false_or Bool.not_not Bool.not_eq_eq_eq_not ite_not
  List.mem_cons List.mem_nil_iff List.not_mem_nil forall_eq forall_eq_or_imp forall_const or_true true_or or_false false_or implies_true and_self or_self List.length_set Int.toNat_natCast eq_self

@[push_cast] theorem cellsOf_v (x : Value) : cellsOf (.v x) = [(.v x)] := rfl
@[push_cast] theorem cl_v (x : Value) : AV.cl (.v x) = true := by simp [AV.cl]
@[push_cast] theorem cellsOf_sl (a : Nat) (b : List (List AV)) : cellsOf (.sl a b) = [(.sl a b)] := rfl
@[push_cast] theorem c1_sl (a : Nat) (b : List (List AV)) : c1 (.sl a b) = true := rfl
@[push_cast] theorem cl_sl (a : Nat) (b : List (List AV)) : AV.cl (.sl a b) = true := by simp [AV.cl]
@[push_cast] theorem cellsOf_vp (a : List AV) (b : Nat) : cellsOf (.vp a b) = [(.vp a b)] := rfl
@[push_cast] theorem c1_vp (a : List AV) (b : Nat) : c1 (.vp a b) = true := rfl
@[push_cast] theorem cl_vp (a : List AV) (b : Nat) : AV.cl (.vp a b) = true := by simp [AV.cl]
@[push_cast] theorem cellsOf_fn (a : Fn) (b c : List AV) : cellsOf (.fn a b c) = [(.fn a b c)] := rfl
@[push_cast] theorem c1_fn (a : Fn) (b c : List AV) : c1 (.fn a b c) = true := rfl
@[push_cast] theorem cellsOf_mp (a : List Value) (b : List AV) : cellsOf (.mp a b) = [(.mp a b)] := rfl
@[push_cast] theorem c1_mp (a : List Value) (b : List AV) : c1 (.mp a b) = true := rfl
@[push_cast] theorem cl_mp (a : List Value) (b : List AV) : AV.cl (.mp a b) = true := by simp [AV.cl]
@[push_cast] theorem cellsOf_os (a b c d : Nat) : cellsOf (.os a b c d) = [(.os a b c d)] := rfl
@[push_cast] theorem c1_os (a b c d : Nat) : c1 (.os a b c d) = true := rfl
@[push_cast] theorem cellsOf_ptr (a b c : Nat) : cellsOf (.ptr a b c) = [(.ptr a b c)] := rfl
@[push_cast] theorem c1_ptr (a b c : Nat) : c1 (.ptr a b c) = true := rfl
@[push_cast] theorem cellsOf_pe (a b c d : Nat) : cellsOf (.pe a b c d) = [(.pe a b c d)] := rfl
@[push_cast] theorem c1_pe (a b c d : Nat) : c1 (.pe a b c d) = true := rfl
@[push_cast] theorem cellsOf_om (a b : Nat) : cellsOf (.om a b) = [(.om a b)] := rfl
@[push_cast] theorem c1_om (a b : Nat) : c1 (.om a b) = true := rfl
@[push_cast] theorem rAppendB_str (t : TypeId) (s : AV) (y : List UInt8) (H : AHeap) : rAppendB t s (str y) H = rAppendBS t s y H := rfl
@[push_cast] theorem rAppendBS_os (t : TypeId) (r ver len : Nat) (y : List UInt8) (H : AHeap) : rAppendBS t (.os r ver 0 len) y H = rAppendBO t r ver len y H H[r]? := rfl
@[push_cast] theorem rAppendBS_nil (t : TypeId) (y : List UInt8) (H : AHeap) : rAppendBS t nilS y H = rAppendBZ t y H := rfl
@[push_cast] theorem rAppendBZ_nil (t : TypeId) (H : AHeap) : rAppendBZ t [] H = ⟨True, nilS, H⟩ := rfl
theorem rAppendBZ_ne (t : TypeId) {y : List UInt8} (hy : y ≠ []) (H : AHeap) : rAppendBZ t y H = ⟨y.length ≤ 140737488355328, .os H.length 0 0 y.length, H ++ [.barr t 0 y]⟩ := if_neg hy
@[push_cast] theorem rAppendBO_barr (t : TypeId) (r ver len : Nat) (y : List UInt8) (H : AHeap) (t' ver' : Nat) (l : List UInt8) : rAppendBO t r ver len y H (some (.barr t' ver' l)) = ⟨ver = ver' ∧ t = t' ∧ len = l.length ∧ len + y.length ≤ 140737488355328, .os r (ver + 1) 0 (len + y.length), H.set r (.barr t (ver + 1) (l ++ y))⟩ := rfl
@[push_cast] theorem isNilP_nil : isNilP (.v (.pointer none)) = true := rfl
@[push_cast] theorem cellsOf_bnil (t : TypeId) : cellsOf (.bnil t) = [.bnil t] := rfl
@[push_cast] theorem c1_bnil (t : TypeId) : c1 (.bnil t) = false := rfl
@[push_cast] theorem cl_bnil (t : TypeId) : AV.cl (.bnil t) = true := by simp [AV.cl]
@[push_cast] theorem cellsOf_nc  : cellsOf .nc = [.nc] := rfl
@[push_cast] theorem c1_nc  : c1 .nc = true := rfl
@[push_cast] theorem cl_nc  : AV.cl .nc = true := by simp [AV.cl]
@[push_cast] theorem c1_v (x : Value) : c1 (.v x) = one x := rfl
@[push_cast] theorem one_int (k : IntKind) (n : Int) : one (.int k n) = true := rfl
@[push_cast] theorem one_bool (b : Bool) : one (.bool b) = true := rfl
@[push_cast] theorem one_string (s : ByteArray) : one (.string s) = true := rfl
@[push_cast] theorem one_slice (a : Option Addr) (l c : Nat) : one (.slice a l c) = true := rfl
@[push_cast] theorem one_map (a : Option Nat) : one (.map a) = true := rfl
@[push_cast] theorem one_pointer (a : Option Addr) : one (.pointer a) = true := rfl
@[push_cast] theorem get_len {α : Type} (H : List α) (x : α) (l : List α) : (H ++ x :: l)[H.length]? = some x := by simp
@[push_cast] theorem set_len {α : Type} (H : List α) (x y : α) (l : List α) : (H ++ x :: l).set H.length y = H ++ y :: l := by simp
@[push_cast] theorem get_add {α : Type} (H l : List α) (k : Nat) : (H ++ l)[H.length + k]? = l[k]? := by rw [List.getElem?_append_right (by omega)]; congr 1; omega
@[push_cast] theorem set_add {α : Type} (H l : List α) (k : Nat) (y : α) : (H ++ l).set (H.length + k) y = H ++ l.set k y := by rw [List.set_append_right _ _ (by omega)]; congr 2; omega
attribute [push_cast] List.append_assoc
end Go.Ax

/- More rules for proofs by steps: a loop whose state is named, a cut, parts of code. -/
namespace Go.Ax
open Go Go.RowKit
set_option linter.unusedSimpArgs false
set_option linter.unusedVariables false

section
variable {P : Program} {k : List Item} {Q : Out → Env → AHeap → Prop} {e : Env} {H : AHeap}

theorem aops_mono : ∀ {l : List LO} {e : Env} {H : AHeap} {K K' : Env → AHeap → Prop}, aops P l e H K → (∀ e H, K e H → K' e H) → aops P l e H K'
  | [], _, _, _, _, h, hK => hK _ _ h
  | o :: l, _, _, _, _, h, hK => by
    refine aops_of ?_
    rcases aops_cons h with ⟨h1, h2⟩ | ⟨h1, h2⟩
    · exact .inl ⟨h1, aop_mono h2 fun x H' hh => aops_mono hh hK⟩
    · exact .inr ⟨h1, aops_mono h2 hK⟩

theorem aopq_mono {op : LOp} {K K' : AV → Prop} (h : aopq P op e H K) (hK : ∀ x, K x → K' x) : aopq P op e H K' := by
  cases op <;> simp only [aopq] at h ⊢ <;> first | exact ⟨h.1, h.2.1, hK _ h.2.2⟩ | exact h.elim | skip
  case call f args =>
    split at h
    · obtain ⟨x, h1, h2, h3⟩ := h; exact ⟨x, h1, h2, hK _ h3⟩
    · exact h.elim
  case pick c a b =>
    split at h
    · split at h
      · rename_i hb; rw [if_pos hb]; exact hK _ h
      · rename_i hb; rw [if_neg hb]; exact hK _ h
    · exact h.elim

theorem aopsq_mono : ∀ {l : List LO} {e : Env} {K K' : Env → Prop}, aopsq P l e H K → (∀ e, K e → K' e) → aopsq P l e H K'
  | [], _, _, _, h, hK => hK _ h
  | o :: l, e, _, _, h, hK => by
    simp only [aopsq] at h ⊢
    split at h
    · exact aopq_mono h fun x hh => aopsq_mono hh hK
    · rename_i t want hg
      split at h
      · rename_i b hb
        cases b <;> cases want <;> simp only [if_true, Bool.false_eq_true, if_false] at h ⊢ <;> first | exact aopsq_mono h hK | exact aopq_mono h fun x hh => aopsq_mono hh hK
      · exact aopsq_mono h hK
      · exact h.elim

theorem lpOut_mono {st : LpSt} {K K' : Out → Prop} (h : lpOut st K) (hK : ∀ o, K o → K' o) : lpOut st K' := by
  cases st with
  | ready => exact hK _ h
  | busy => exact h
  | done o => cases o <;> exact hK _ h
theorem awp_mono : ∀ {c : LCode} {e : Env} {H : AHeap} {K K' : Out → Env → AHeap → Prop}, awp P c e H K → (∀ o e H, K o e H → K' o e H) → awp P c e H K' := by
  intro c
  induction c with
  | skip => intro e H K K' h hK; exact hK _ _ _ h
  | ops l => intro e H K K' h hK; exact aops_mono h fun e H hh => hK _ _ _ hh
  | draw hd tl => intro e H K K' h hK; exact aopsq_mono h fun e hh => aops_mono hh fun e H hh => hK _ _ _ hh
  | drawM hd pre mid post => intro e H K K' h hK; exact aopsq_mono h fun e hh σ hσ => aops_mono (hh σ hσ) fun e H hh => hK _ _ _ hh
  | seq a b iha ihb =>
    intro e H K K' h hK
    refine iha h fun o e' H' hh => ?_
    cases o with
    | normal => exact ihb hh hK
    | exit id => exact hK _ _ _ hh
    | ret => exact hK _ _ _ hh
  | cond x a b iha ihb =>
    intro e H K K' h hK
    simp only [awp] at h ⊢
    split at h
    · rename_i t ht
      cases t with
      | true => rw [if_pos rfl] at h ⊢; exact iha h hK
      | false => rw [if_neg (by simp)] at h ⊢; exact ihb h hK
    · exact h.elim
  | block id c ih =>
    intro e H K K' h hK
    refine ih h fun o e' H' hh => ?_
    cases o with
    | normal => exact hK _ _ _ hh
    | exit j =>
      simp only at hh ⊢
      split
      · rename_i hj; rw [if_pos hj] at hh; exact hK _ _ _ hh
      · rename_i hj; rw [if_neg hj] at hh; exact hK _ _ _ hh
    | ret => exact hK _ _ _ hh
  | loop c ih =>
    intro e H K K' h hK
    obtain ⟨I, μ, h1, h2⟩ := h
    refine ⟨I, μ, h1, fun e H hI => ih (h2 e H hI) fun o e' H' hh => ?_⟩
    cases o with
    | normal => exact hh
    | exit id => exact hK _ _ _ hh
    | ret => exact hK _ _ _ hh
  | range g ps a b iha ihb =>
    intro e H K K' h hK
    simp only [awp] at h ⊢
    split at h
    · intro l lr hy
      exact (h l lr hy).mono fun x H' ⟨st, h1, h2⟩ => ⟨st, h1, lpOut_mono h2 fun o => hK _ _ _⟩
    · exact h.elim
  | exit id => intro e H K K' h hK; exact hK _ _ _ h
  | ret => intro e H K K' h hK; exact hK _ _ _ h

theorem least {p : Nat → Prop} (h : ∃ n, p n) : ∃ n, p n ∧ ∀ m, p m → n ≤ m := by
  obtain ⟨n, hn⟩ := h
  induction n using Nat.strongRecOn with
  | _ n ih =>
    by_cases hh : ∃ m, m < n ∧ p m
    · obtain ⟨m, hm, hp⟩ := hh; exact ih m hm hp
    · exact ⟨n, hn, fun m hm => Nat.le_of_not_lt fun hlt => hh ⟨m, hlt, hm⟩⟩

/-- The next state of a loop. -/
inductive Nx {σ : Type} (I : σ → Env → AHeap → Prop) (μ : σ → Nat) (s : σ) (e : Env) (H : AHeap) : Prop where
  | mk (s' : σ) (h : I s' e H) (hm : μ s' < μ s)

open Classical in
/-- A loop whose state is s. -/
theorem rk_loopS {σ : Type} {c : LCode} (I : σ → Env → AHeap → Prop) (μ : σ → Nat) (s : σ) (h0 : I s e H)
    (h : ∀ s e H, I s e H → runK P (.code c :: .lp (Nx I μ s) :: k) Q .normal e H) : runK P (.code (.loop c) :: k) Q .normal e H := by
  have hex : ∀ e H, (∃ s, I s e H) → ∃ n, (∃ s, I s e H ∧ μ s = n) ∧ ∀ m, (∃ s, I s e H ∧ μ s = m) → n ≤ m := fun e H ⟨s, hs⟩ => least ⟨_, s, hs, rfl⟩
  refine rk_loop (fun e H => ∃ s, I s e H) (fun e H => if hx : ∃ s, I s e H then Classical.choose (hex e H hx) else 0) ⟨s, h0⟩ ?_
  intro e H hs
  obtain ⟨⟨s, hI, hm⟩, _⟩ := Classical.choose_spec (hex e H hs)
  refine awp_mono (h s e H hI) fun o e' H' hh => ?_
  cases o with
  | normal =>
    obtain ⟨s', hI', hlt⟩ := hh
    refine ⟨⟨s', hI'⟩, ?_⟩
    rw [dif_pos ⟨s', hI'⟩, dif_pos hs]
    have := (Classical.choose_spec (hex e' H' ⟨s', hI'⟩)).2 _ ⟨s', hI', rfl⟩
    omega
  | exit id => exact hh
  | ret => exact hh

/-- A drawn region with insertions in any order. -/
theorem rk_drawM {hd pre mid post : List LO} (J : Env → Prop) (h1 : runK P [.opq hd []] (fun o e' H' => o = .normal ∧ H' = H ∧ J e') .normal e H)
    (h2 : ∀ e', J e' → ∀ σ : List LO, σ.Perm mid → runK P (.ops (pre ++ σ ++ post) :: k) Q .normal e' H) : runK P (.code (.drawM hd pre mid post) :: k) Q .normal e H :=
  aopsq_mono (h1 : aopsq P hd e H _) fun e' hh σ hσ => h2 e' hh.2.2 σ hσ

/-- A range over a function: rounds, as the iterator calls for them. -/
def Rounds (P : Program) (l : Nat) (lr : Go.Loop) (e : Env) (ps : List Nat) (la lb : LCode) : Prop :=
  ∀ (args : List AV) (H1 : AHeap) (r : Nat) (R : AV → AHeap → Prop), args.length = ps.length → H1[r]? = some (.lp l lr e .ready) →
    runK P [.code la, .bgn l lr e r, .code lb] (rndQ l lr e r R) .normal (upL e ps args) H1 → AYield P l args H1 R
theorem rk_range {g : LX} {ps : List Nat} {la lb : LCode} {f : FuncId} {first caps : List AV} (hg : ev e g = .fn (.func f) first caps)
    (h : ∀ l lr, Rounds P l lr e ps la lb → ACall P f (first ++ [.v (.func (.yield l) #[] #[])] ++ caps) (H ++ [.lp l lr e .ready]) fun _ H' => ∃ st, H'[H.length]? = some (.lp l lr e st) ∧ lpOut st fun o => runK P k Q o e (H'.set H.length .dead)) :
    runK P (.code (.range g ps la lb) :: k) Q .normal e H := by
  show awp P (.range g ps la lb) e H _
  simp only [awp, hg]
  intro l lr hy
  refine h l lr fun args H1 r R hal hr hrun => hy args H1 r R hal hr ?_
  refine awp_mono (hrun : awp P la _ H1 _) fun o e1 H2 hh => ?_
  cases o with
  | normal =>
    obtain ⟨h1, h2⟩ := hh
    exact ⟨h1, awp_mono (h2 : awp P lb _ _ _) fun o e2 H3 h3 => h3⟩
  | exit id => exact hh.elim
  | ret => exact hh.elim

/-- A cut: what holds behind A is enough for B. -/
theorem rk_cut {a b : LCode} (J : Env → AHeap → Prop) (h1 : runK P (.code a :: .lp J :: k) Q .normal e H) (h2 : ∀ e H, J e H → runK P (.code b :: k) Q .normal e H) : runK P (.code (.seq a b) :: k) Q .normal e H := by
  rw [rk_seq]
  refine awp_mono (h1 : awp P a e H (runK P (.lp J :: k) Q)) fun o e' H' hh => ?_
  cases o with
  | normal => exact h2 _ _ hh
  | exit id => exact hh
  | ret => exact hh
end

@[push_cast] theorem toNat_add1 (i : Nat) : ((i : Int) + 1).toNat = i + 1 := by omega
@[push_cast] theorem toNat_add2 (i : Nat) : ((i : Int) + 2).toNat = i + 2 := by omega
@[push_cast] theorem toNat_add3 (i : Nat) : ((i : Int) + 3).toNat = i + 3 := by omega
@[push_cast] theorem toNat_add4 (i : Nat) : ((i : Int) + 4).toNat = i + 4 := by omega
@[push_cast] theorem toNat_add5 (i : Nat) : ((i : Int) + 5).toNat = i + 5 := by omega
@[push_cast] theorem toNat_addC (i j : Nat) : ((i : Int) + (j : Int)).toNat = i + j := by omega

attribute [push_cast] Nat.add_sub_cancel_left
@[push_cast] theorem take_map_len {α β : Type} (f : α → β) (l : List α) : (l.map f).take l.length = l.map f := by
  rw [List.take_of_length_le (by simp)]
@[push_cast] theorem take_map_len0 {α β : Type} (f : α → β) (l : List α) : ((l.map f).drop 0).take l.length = l.map f := by
  rw [List.drop_zero, List.take_of_length_le (by simp)]
/-- The part of code at a place. -/
def LCode.sub : List Nat → LCode → LCode
  | [], c => c
  | 0 :: l, .seq a _ => a.sub l
  | 1 :: l, .seq _ b => b.sub l
  | 0 :: l, .cond _ a _ => a.sub l
  | 1 :: l, .cond _ _ b => b.sub l
  | _ :: l, .block _ c => c.sub l
  | _ :: l, .loop c => c.sub l
  | _, c => c
end Go.Ax

/- Taking arguments apart by their types; rows of typed things. -/
namespace Go.Ax
open Go Go.RowKit
set_option linter.unusedSimpArgs false
set_option linter.unusedVariables false

section
variable {P : Program} {t e : TypeId} {xs : List AV}
def i64R (n : Int) : Prop := -9223372036854775808 ≤ n ∧ n ≤ 9223372036854775807
theorem val_int (hu : P.underlying t = some (.int .i64)) (h : Val P t xs) : ∃ n : Int, xs = [int n] ∧ i64R n := by
  cases h with
  | int hu' hw =>
    rw [hu] at hu'
    cases hu'
    refine ⟨_, rfl, ?_⟩
    simp [Lit.wf, IntKind.min, IntKind.max, IntKind.signed, IntKind.bits] at hw
    unfold i64R; omega
  | bool hu' => rw [hu] at hu'; cases hu'
  | str hu' => rw [hu] at hu'; cases hu'
  | sl hu' => rw [hu] at hu'; cases hu'
  | st hu' => rw [hu] at hu'; cases hu'
theorem val_bool (hu : P.underlying t = some .bool) (h : Val P t xs) : ∃ b : Bool, xs = [bool b] := by
  cases h with
  | bool hu' => exact ⟨_, rfl⟩
  | int hu' => rw [hu] at hu'; cases hu'
  | str hu' => rw [hu] at hu'; cases hu'
  | sl hu' => rw [hu] at hu'; cases hu'
  | st hu' => rw [hu] at hu'; cases hu'
theorem val_str (hu : P.underlying t = some .string) (h : Val P t xs) : ∃ s : List UInt8, xs = [str s] ∧ s.length ≤ 9223372036854775807 := by
  cases h with
  | str hu' hs =>
    rename_i s
    refine ⟨bs s, by rw [str, mkS_bs], ?_⟩
    have : (bs s).length = s.size := by simp [bs]
    unfold maxLen at hs
    omega
  | int hu' => rw [hu] at hu'; cases hu'
  | bool hu' => rw [hu] at hu'; cases hu'
  | sl hu' => rw [hu] at hu'; cases hu'
  | st hu' => rw [hu] at hu'; cases hu'
theorem val_sl {k : Nat} (hu : P.underlying t = some (.slice e)) (hk : P.cellsOf e = k) (h : Val P t xs) : ∃ rows, xs = [.sl k rows] ∧ rows.length ≤ 9223372036854775807 ∧ ∀ x ∈ rows, Val P e x := by
  cases h with
  | sl hu' hl hr =>
    rw [hu] at hu'
    cases hu'
    subst hk
    unfold maxLen at hl
    exact ⟨_, rfl, by omega, hr⟩
  | int hu' => rw [hu] at hu'; cases hu'
  | bool hu' => rw [hu] at hu'; cases hu'
  | str hu' => rw [hu] at hu'; cases hu'
  | st hu' => rw [hu] at hu'; cases hu'
theorem val_st {fs : Array Field} {k : Nat} (hu : P.underlying t = some (.struct fs)) (hk : P.cellsOf t = k) (h : Val P t xs) : xs.length = k ∧ ∀ (i : Nat) (f : Field), fs[i]? = some f → Val P f.type ((xs.drop f.offset).take (P.cellsOf f.type)) := by
  cases h with
  | st hu' hl hr =>
    rw [hu] at hu'
    cases hu'
    exact ⟨hl.trans hk, hr⟩
  | int hu' => rw [hu] at hu'; cases hu'
  | bool hu' => rw [hu] at hu'; cases hu'
  | str hu' => rw [hu] at hu'; cases hu'
  | sl hu' => rw [hu] at hu'; cases hu'
theorem val_fld {fs : Array Field} (hf : ∀ (i : Nat) (f : Field), fs[i]? = some f → Val P f.type ((xs.drop f.offset).take (P.cellsOf f.type))) (i t' off k : Nat) (h : (fs[i]?).map (fun f => (f.type, f.offset)) = some (t', off)) (hk : P.cellsOf t' = k) : Val P t' ((xs.drop off).take k) := by
  cases hh : fs[i]? with
  | none => rw [hh] at h; cases h
  | some f =>
    rw [hh] at h
    simp only [Option.map_some, Option.some.injEq, Prod.mk.injEq] at h
    have := hf i f hh
    rw [h.1, h.2, hk] at this
    exact this
theorem val_rows {α : Type} {enc : α → List AV} {ok : α → Prop} {rows : List (List AV)} (h : ∀ x ∈ rows, Val P e x) (ho : ∀ x, Val P e x → ∃ a, x = enc a ∧ ok a) : ∃ l : List α, rows = l.map enc ∧ ∀ a ∈ l, ok a := by
  induction rows with
  | nil => exact ⟨[], rfl, by simp⟩
  | cons x rows ih =>
    obtain ⟨a, rfl, ha⟩ := ho x (h x (by simp))
    obtain ⟨l, rfl, hl⟩ := ih fun y hy => h y (by simp [hy])
    exact ⟨a :: l, rfl, by simp only [List.mem_cons, forall_eq_or_imp]; exact ⟨ha, hl⟩⟩
end

@[push_cast] theorem one_nilFunc : one .nilFunc = true := rfl
@[push_cast] theorem one_func (f : Fn) (a b : Array Value) : one (.func f a b) = true := rfl
theorem kEqI (k : IntKind) (a b : Int) : kEq (.int k a) (.int k b) = decide (a = b) := by rw [Bool.eq_iff_iff]; simp [kEq]
theorem kEqS (a b : List UInt8) : kEq (.string (mkS a)) (.string (mkS b)) = decide (a = b) := by rw [Bool.eq_iff_iff]; simp [kEq, bs_mkS]
theorem kEqB (a b : Bool) : kEq (.bool a) (.bool b) = decide (a = b) := by cases a <;> cases b <;> rfl
@[push_cast] theorem rConv_bytes_os (r ver off len : Nat) (H : AHeap) : rConv .bytesStr (.os r ver off len) H = ⟨szOk H 1 (.os r ver off len) ∧ ((rowsOf H (.os r ver off len)).bind rowBytes).isSome = true, str (((rowsOf H (.os r ver off len)).bind rowBytes).getD []), H⟩ := rfl
@[push_cast] theorem rConv_bytes_sl (sz : Nat) (xs : List (List AV)) (H : AHeap) : rConv .bytesStr (.sl sz xs) H = ⟨szOk H 1 (.sl sz xs) ∧ ((rowsOf H (.sl sz xs)).bind rowBytes).isSome = true, str (((rowsOf H (.sl sz xs)).bind rowBytes).getD []), H⟩ := rfl
theorem rowBytes_nil : rowBytes [] = some [] := rfl
theorem rowBytes_cons (n : Int) (l : List (List AV)) : rowBytes ([.v (.int .u8 n)] :: l) = (rowBytes l).map (UInt8.ofNat n.toNat :: ·) := rfl
attribute [push_cast] Option.bind_some Bool.true_xor Bool.false_xor Bool.xor_false Bool.xor_true
/-! copy, step by step -/
def rCopyO (sz r ver off len : Nat) (ys : List (List AV)) (x : AV) (H : AHeap) : Option HO → Res
  | some (.arr ver' sz' xs) => ⟨ver = ver' ∧ sz' = sz ∧ szOk H sz x ∧ off + len ≤ xs.length, int (min ys.length len : Nat), H.set r (.arr ver sz (xs.take off ++ ys.take (min ys.length len) ++ xs.drop (off + min ys.length len)))⟩
  | _ => .no H
def rCopyN (sz : Nat) (s x : AV) (H : AHeap) : Option (List (List AV)) → Res
  | some ys => match s with
    | .os r ver off len => rCopyO sz r ver off len ys x H H[r]?
    | _ => .no H
  | none => .no H
@[push_cast] theorem rCopy_eq (sz : Nat) (s x : AV) (H : AHeap) : rCopy sz s x H = rCopyN sz s x H (rowsOf H x) := by
  unfold rCopy rCopyN rCopyO
  cases rowsOf H x with
  | none => cases s <;> rfl
  | some ys => cases s <;> rfl
@[push_cast] theorem rCopyN_os (sz r ver off len : Nat) (x : AV) (H : AHeap) (ys : List (List AV)) : rCopyN sz (.os r ver off len) x H (some ys) = rCopyO sz r ver off len ys x H H[r]? := rfl
@[push_cast] theorem rCopyO_arr (sz r ver off len ver' sz' : Nat) (ys xs : List (List AV)) (x : AV) (H : AHeap) : rCopyO sz r ver off len ys x H (some (.arr ver' sz' xs)) = ⟨ver = ver' ∧ sz' = sz ∧ szOk H sz x ∧ off + len ≤ xs.length, int (min ys.length len : Nat), H.set r (.arr ver sz (xs.take off ++ ys.take (min ys.length len) ++ xs.drop (off + min ys.length len)))⟩ := rfl
attribute [push_cast] List.length_replicate
def osRowsO (ver off len : Nat) : Option HO → Option (List (List AV))
  | some (.arr ver' _ xs) => if ver = ver' ∧ off + len ≤ xs.length then some ((xs.drop off).take len) else none
  | _ => none
theorem osRows_eq (r ver off len : Nat) (H : AHeap) : osRows r ver off len H = osRowsO ver off len H[r]? := rfl
theorem osRowsO_if (ver off len ver' sz : Nat) (xs : List (List AV)) : osRowsO ver off len (some (.arr ver' sz xs)) = if ver = ver' ∧ off + len ≤ xs.length then some ((xs.drop off).take len) else none := rfl
theorem osRowsO_arr {ver off len ver' sz : Nat} {xs : List (List AV)} (h : ver = ver' ∧ off + len ≤ xs.length) : osRowsO ver off len (some (.arr ver' sz xs)) = some ((xs.drop off).take len) := if_pos h

theorem rows_getD {α : Type} [Inhabited α] {l : List α} {enc : α → List AV} {j : Nat} (h : j < l.length) : (l.map enc).getD j [] = enc (l.getD j default) := by
  simp [List.getD_eq_getElem?_getD, h]
theorem rows_getD0 {α : Type} [Inhabited α] {l : List α} {enc : α → List AV} {j : Nat} (h : j < l.length) : (l.map enc).getD (0 + j) [] = enc (l.getD j default) := by
  rw [Nat.zero_add]; exact rows_getD h
theorem getD_mem' {α : Type} [Inhabited α] {l : List α} {j : Nat} (h : j < l.length) : l.getD j default ∈ l := by
  simp [List.getD_eq_getElem?_getD, h]
theorem take_snoc {α : Type} [Inhabited α] {l : List α} {j : Nat} (h : j < l.length) : l.take (j + 1) = l.take j ++ [l.getD j default] := by
  rw [List.take_succ_eq_append_getElem h]; simp [List.getD_eq_getElem?_getD, h]
theorem drop_cons {α : Type} [Inhabited α] {l : List α} {j : Nat} (h : j < l.length) : l.drop j = l.getD j default :: l.drop (j + 1) := by
  rw [List.drop_eq_getElem_cons h]; simp [List.getD_eq_getElem?_getD, h]
theorem intc {x : AV} {a : Int} {b : Int} (h : x = int a) (h2 : a = b) : x = int b := h.trans (by rw [h2])
theorem upto_succ {j : Nat} {p : Nat → Prop} (h : ∀ i, i < j → p i) (hj : p j) : ∀ i, i < j + 1 → p i := fun i hi => by
  by_cases e : i = j
  · rw [e]; exact hj
  · exact h i (by omega)
/-! Tests that the context decides. -/
theorem dT_lt {a b : Int} (h : a < b) : decide (a < b) = true := decide_eq_true h
theorem dF_lt {a b : Int} (h : ¬ a < b) : decide (a < b) = false := decide_eq_false h
theorem dT_le {a b : Int} (h : a ≤ b) : decide (a ≤ b) = true := decide_eq_true h
theorem dF_le {a b : Int} (h : ¬ a ≤ b) : decide (a ≤ b) = false := decide_eq_false h
theorem dT_eq {a b : Int} (h : a = b) : decide (a = b) = true := decide_eq_true h
theorem dF_eq {a b : Int} (h : ¬ a = b) : decide (a = b) = false := decide_eq_false h
attribute [push_cast] decide_true decide_false
/-- An index as Go says it. -/
def idxI : Option Nat → Int
  | some i => i
  | none => -1
theorem find_some {α : Type} [Inhabited α] {l : List α} {p : α → Bool} {j : Nat} (h : j < l.length) (hp : p (l.getD j default) = true) (hb : ∀ i, i < j → p (l.getD i default) = false) : l.findIdx? p = some j := by
  rw [List.findIdx?_eq_some_iff_getElem]
  have e : ∀ i (hi : i < l.length), l.getD i default = l[i] := fun i hi => by simp [List.getD_eq_getElem?_getD, hi]
  refine ⟨h, by rw [← e j h]; exact hp, fun i hi => ?_⟩
  have := hb i hi
  rw [e i (by omega)] at this
  simp [this]
theorem find_none {α : Type} [Inhabited α] {l : List α} {p : α → Bool} (hb : ∀ i, i < l.length → p (l.getD i default) = false) : l.findIdx? p = none := by
  rw [List.findIdx?_eq_none_iff]
  intro x hx
  obtain ⟨i, hi, rfl⟩ := List.mem_iff_getElem.1 hx
  have := hb i hi
  simpa [List.getD_eq_getElem?_getD, hi] using this
theorem find_lt {α : Type} [Inhabited α] {l : List α} {p : α → Bool} {j : Nat} (h : l.findIdx? p = some j) : j < l.length ∧ p (l.getD j default) = true := by
  rw [List.findIdx?_eq_some_iff_getElem] at h
  obtain ⟨h1, h2, _⟩ := h
  exact ⟨h1, by simpa [List.getD_eq_getElem?_getD, h1] using h2⟩
theorem ext_take {α : Type} [Inhabited α] {a b : List α} {j : Nat} (h : a.take j = b.take j) (ha : j < a.length) (hb : j < b.length) (he : a.getD j default = b.getD j default) : a.take (j + 1) = b.take (j + 1) := by
  rw [take_snoc ha, take_snoc hb, h, he]
theorem all_take {α : Type} (l : List α) {n : Nat} (h : l.length ≤ n) : l.take n = l := List.take_of_length_le h
end Go.Ax

/- Insertions into a new map, in any order. -/
namespace Go.Ax
open Go Go.RowKit
set_option linter.unusedSimpArgs false
set_option linter.unusedVariables false

section
variable {P : Program} {k : List Item} {Q : Out → Env → AHeap → Prop} {e : Env} {H : AHeap}

def insK : LO → Value
  | ⟨_, _, .ins _ _ (.c (.v k)) _⟩ => k
  | _ => default
def insV (e : Env) : LO → AV
  | ⟨_, _, .ins _ _ _ x⟩ => ev e x
  | _ => .any
/-- An insertion of a number's entry into the map in slot m. -/
def IsIns (e : Env) (m : Nat) (o : LO) : Prop := ∃ (i : Int) (x : LX), o = ⟨none, none, .ins .int (.t m) (.c (.v (.int .i64 i))) x⟩ ∧ (ev e x).cl = true

theorem ins_run {m : Nat} {post : List LO} (he : e m = .om H.length 0) : ∀ (σ : List LO) (ks : List Value) (vs : List AV), (∀ o ∈ σ, IsIns e m o) → (∀ k ∈ ks, ∃ i : Int, k = .int .i64 i) → (ks ++ σ.map insK).Nodup →
    runK P (.ops post :: k) Q .normal e (H ++ [.map 0 (ks ++ σ.map insK) (vs ++ σ.map (insV e))]) → runK P (.ops (σ ++ post) :: k) Q .normal e (H ++ [.map 0 ks vs])
  | [], ks, vs, _, _, _, h => by simpa using h
  | o :: σ, ks, vs, hi, hk, hn, h => by
    obtain ⟨i, x, rfl, hx⟩ := hi o (by simp)
    have hfresh : ∀ k' ∈ ks, kCmp (.int .i64 i) k' = true ∧ kEq (.int .i64 i) k' = false := by
      intro k' hk'
      obtain ⟨i', rfl⟩ := hk k' hk'
      refine ⟨by simp [kCmp], ?_⟩
      rw [kEqI, decide_eq_false_iff_not]
      rintro rfl
      rw [List.nodup_append] at hn
      exact hn.2.2 _ hk' (.int .i64 i) (by simp [insK]) rfl
    show runK P (.ops (⟨none, none, .ins .int (.t m) (.c (.v (.int .i64 i))) x⟩ :: (σ ++ post)) :: k) Q .normal e (H ++ [.map 0 ks vs])
    rw [rk_op, opK_ins]
    have hr : rIns .int (ev e (.t m)) (keyV (ev e (.c (.v (.int .i64 i))))) (ev e x) (H ++ [.map 0 ks vs]) = ⟨0 = 0 ∧ (∀ k' ∈ ks, kCmp (.int .i64 i) k' = true ∧ kEq (.int .i64 i) k' = false) ∧ kIs .int (.int .i64 i) = true ∧ (ev e x).cl = true, .any, H ++ [.map 0 (ks ++ [.int .i64 i]) (vs ++ [ev e x])]⟩ := by
      show rIns .int (e m) (.v (.int .i64 i)) _ _ = _
      rw [he]
      simp [rIns, ev]
    rw [hr, goK_mk]
    refine ⟨⟨rfl, hfresh, rfl, hx⟩, ?_⟩
    have hkn : (ks ++ [Value.int .i64 i]) ++ σ.map insK = ks ++ (⟨none, none, .ins .int (.t m) (.c (.v (.int .i64 i))) x⟩ :: σ : List LO).map insK := by simp [insK]
    have hvn : (vs ++ [ev e x]) ++ σ.map (insV e) = vs ++ (⟨none, none, .ins .int (.t m) (.c (.v (.int .i64 i))) x⟩ :: σ : List LO).map (insV e) := by simp [insV]
    refine ins_run he σ _ _ (fun o ho => hi o (by simp [ho])) (fun k' hk' => ?_) (by rw [hkn]; exact hn) (by rw [hkn, hvn]; exact h)
    rcases List.mem_append.1 hk' with hk' | hk'
    · exact hk k' hk'
    · simp at hk'; exact ⟨i, hk'⟩

theorem mget_some {i : Int} {x : AV} : ∀ {l : List LO}, (∀ o ∈ l, ∃ i : Int, insK o = .int .i64 i) → (l.map insK).Nodup → (mget (.int .i64 i) (l.map insK) (l.map (insV e)) = some x ↔ ∃ o ∈ l, insK o = .int .i64 i ∧ insV e o = x)
  | [], _, _ => by simp [mget]
  | o :: l, hi, hn => by
    obtain ⟨i', hi'⟩ := hi o (by simp)
    simp only [List.map_cons, List.nodup_cons] at hn
    simp only [List.map_cons, mget, hi', kEqI, decide_eq_true_eq, List.mem_cons, exists_eq_or_imp]
    by_cases h : i = i'
    · subst h
      rw [if_pos rfl]
      constructor
      · intro hh; exact .inl ⟨rfl, by simpa using hh⟩
      · rintro (⟨_, hh⟩ | ⟨o', ho', hk, _⟩)
        · simpa using hh
        · exact absurd (List.mem_map.2 ⟨o', ho', hk.trans hi'.symm⟩) hn.1
    · rw [if_neg h, mget_some (fun o ho => hi o (by simp [ho])) hn.2]
      constructor
      · intro hh; exact .inr hh
      · rintro (⟨hk, _⟩ | hh)
        · injection hk with _ h2; exact absurd h2.symm h
        · exact hh
/-- A map looks up the same, in whatever order its entries came. -/
theorem mget_perm {i : Int} {σ l : List LO} (hp : σ.Perm l) (hi : ∀ o ∈ l, ∃ i : Int, insK o = .int .i64 i) (hn : (l.map insK).Nodup) : mget (.int .i64 i) (σ.map insK) (σ.map (insV e)) = mget (.int .i64 i) (l.map insK) (l.map (insV e)) := by
  have hi' : ∀ o ∈ σ, ∃ i : Int, insK o = .int .i64 i := fun o ho => hi o (hp.mem_iff.1 ho)
  have hn' : (σ.map insK).Nodup := (hp.map insK).nodup_iff.2 hn
  apply Option.ext
  intro x
  rw [mget_some hi' hn', mget_some hi hn]
  exact ⟨fun ⟨o, h1, h2⟩ => ⟨o, hp.mem_iff.1 h1, h2⟩, fun ⟨o, h1, h2⟩ => ⟨o, hp.mem_iff.2 h1, h2⟩⟩
end
end Go.Ax

/- Calls: what is handed back as a value; arguments that say less. -/
namespace Go.Ax
open Go
set_option linter.unusedSimpArgs false
set_option linter.unusedVariables false

variable {P : Program} {H : AHeap}
/-- A slice of one's own that is handed back is a value. -/
theorem ACall.frz {k : FuncId} {args : List AV} {R : AV → AHeap → Prop} (h : ACall P k args H R) (hR : ∀ x H', R x H' → (rFrz x H').ok) :
    ACall P k args H fun y H2 => ∃ x H', R x H' ∧ y = (rFrz x H').x ∧ H2 = (rFrz x H').H :=
  ⟨h.1, fun X ρ w vs a b => (h.2 X ρ w vs a b).mono fun _ w' ⟨v, x, H', ρ', e, r, g1, g2, g3⟩ => by
    obtain ⟨ρ2, f1, f2, f3⟩ := snd_frz g1 g2 (hR _ _ r)
    exact ⟨v, _, _, ρ2, e, ⟨x, H', r, rfl, rfl⟩, f1, f2, g3.trans f3⟩⟩
/-- The same of a slice in a struct that is handed back. -/
theorem ACall.frzf {k : FuncId} {args : List AV} {R : AV → AHeap → Prop} (sz off : Nat) (h : ACall P k args H R) (hR : ∀ x H', R x H' → (rFrzf sz off x H').ok) :
    ACall P k args H fun y H2 => ∃ x H', R x H' ∧ y = (rFrzf sz off x H').x ∧ H2 = (rFrzf sz off x H').H :=
  ⟨h.1, fun X ρ w vs a b => (h.2 X ρ w vs a b).mono fun _ w' ⟨v, x, H', ρ', e, r, g1, g2, g3⟩ => by
    obtain ⟨ρ2, f1, f2, f3⟩ := snd_frzf g1 g2 (hR _ _ r)
    exact ⟨v, _, _, ρ2, e, ⟨x, H', r, rfl, rfl⟩, f1, f2, g3.trans f3⟩⟩
/-- y says no more than x. -/
def AV.Le (x y : AV) : Prop := ∀ (w : World) (M : Nat → Prop) (ρ : Nat → Loc) (n : Nat) (v : Value), Rep w M ρ n x v → Rep w M ρ n y v
theorem AV.Le.refl (x : AV) : AV.Le x x := fun _ _ _ _ _ h => h
theorem AV.Le.nil (sz : Nat) : AV.Le (.v (.slice none 0 0)) (.sl sz []) := fun w M ρ n v h => by
  cases h
  exact .slE _ _ _ _
theorem AV.Le.agg {xs ys : List AV} (hl : xs.length = ys.length) (h : ∀ (i : Nat) (x y : AV), xs[i]? = some x → ys[i]? = some y → AV.Le x y) : AV.Le (.agg xs) (.agg ys) := fun w M ρ n v hv => by
  cases hv with
  | agg _ _ us hl' hr =>
    refine .agg _ _ _ (by omega) fun i y u hy hu => ?_
    have hi : i < xs.length := by have := (List.getElem?_eq_some_iff.1 hy).1; omega
    exact h i xs[i] y (List.getElem?_eq_getElem hi) hy _ _ _ _ _ (hr i _ u (List.getElem?_eq_getElem hi) hu)
/-- A call with arguments that say more. -/
theorem ACall.args {k : FuncId} {xs ys : List AV} {R : AV → AHeap → Prop} (h : ACall P k ys H R) (hl : xs.length = ys.length) (hle : ∀ (i : Nat) (x y : AV), xs[i]? = some x → ys[i]? = some y → AV.Le x y) : ACall P k xs H R :=
  ⟨h.1, fun X ρ w vs a b => h.2 X ρ w vs a (by
    obtain ⟨b1, b2⟩ := b
    refine ⟨by omega, fun i y u hy hu => ?_⟩
    have hi : i < xs.length := by have := (List.getElem?_eq_some_iff.1 hy).1; omega
    exact hle i xs[i] y (List.getElem?_eq_getElem hi) hy _ _ _ _ _ (b2 i _ u (List.getElem?_eq_getElem hi) hu))⟩
/-- A result that says less. -/
theorem ACall.res {k : FuncId} {args : List AV} {R : AV → AHeap → Prop} (h : ACall P k args H R) : ACall P k args H fun y H' => ∃ x, R x H' ∧ AV.Le x y := by
  refine h.mono fun x H' r => ⟨x, r, AV.Le.refl x⟩
theorem ACall.resTo {k : FuncId} {args : List AV} {R R' : AV → AHeap → Prop} (h : ACall P k args H R) (hr : ∀ x H', R x H' → ∃ y, AV.Le x y ∧ R' y H') : ACall P k args H R' :=
  ⟨h.1, fun X ρ w vs a b => (h.2 X ρ w vs a b).mono fun _ w' ⟨v, x, H', ρ', e, r, g1, g2, g3⟩ => by
    obtain ⟨y, h1, h2⟩ := hr _ _ r
    exact ⟨v, y, H', ρ', e, h2, g1, h1 _ _ _ _ _ g2, g3⟩⟩
end Go.Ax

/- The functions, lowered. Printed by a program (wip/tools/pl.py). -/
namespace Go.Proofs.Ytiibbkbcebccnaa
open Go Go.Ax
set_option maxRecDepth 100000

/-- assessor_assessorlaw01.TextTurns -/
def L3 : LFn := ⟨44, [(.tmp 4)], (.seq (.ops [⟨(some 4), none, (.mv (.c (.v (.bool false))))⟩])
    (.seq (.seq (.ops [⟨(some 8), none, (.mv (.t 0))⟩,
      ⟨(some 9), none, (.len .str (.t 8))⟩,
      ⟨(some 10), none, (.bin .int .gtr (.t 9) (.c (.v (.int .i64 300))))⟩,
      ⟨(some 11), none, (.mv (.t 10))⟩,
      ⟨(some 12), (some (11, false)), (.mv (.t 1))⟩,
      ⟨(some 13), (some (11, false)), (.len .str (.t 12))⟩,
      ⟨(some 14), (some (11, false)), (.bin .int .gtr (.t 13) (.c (.v (.int .i64 300))))⟩,
      ⟨(some 15), none, (.pick (.t 11) (.c (.v (.bool true))) (.t 14))⟩])
    (.cond (.t 15)
    (.seq (.ops [⟨(some 16), none, (.call (.c (.fn (.func 9) [] [])) [])⟩,
      ⟨(some 4), none, (.mv (.t 16))⟩])
    .ret)
    .skip))
    (.seq (.ops [⟨(some 17), none, (.mv (.t 0))⟩,
      ⟨(some 18), none, (.mv (.t 1))⟩,
      ⟨(some 19), none, (.call (.c (.fn (.func 10) [] [])) [(.t 17), (.t 18)])⟩,
      ⟨(some 5), none, (.alloc [(.v (.int .i64 0)), (.v (.int .i64 0)), (.v (.string (mkS [])))])⟩,
      ⟨none, none, (.store 3 (.t 5) (.t 19))⟩])
    (.seq (.ops [⟨(some 21), none, (.mv (.t 0))⟩,
      ⟨(some 22), none, (.load true 3 (.t 5))⟩,
      ⟨(some 23), none, (.bsl true 3 1 [(.v (.int .i64 0)), (.v (.int .i64 0)), (.v (.string (mkS [])))] [(0, (.t 22))])⟩,
      ⟨(some 24), none, (.call (.c (.fn (.func 11) [] [])) [(.t 21), (.t 23)])⟩,
      ⟨(some 20), none, (.mv (.t 24))⟩,
      ⟨(some 25), none, (.ext (.t 20) 0)⟩,
      ⟨(some 26), none, (.ext (.t 20) 1)⟩,
      ⟨(some 6), none, (.mv (.t 25))⟩,
      ⟨(some 7), none, (.mv (.t 26))⟩])
    (.seq (.draw [⟨(some 27), none, (.load true 3 (.t 5))⟩,
      ⟨(some 28), none, (.mv (.t 0))⟩,
      ⟨(some 29), none, (.mv (.t 1))⟩,
      ⟨(some 30), none, (.call (.c (.fn (.func 12) [] [])) [(.t 28), (.t 29)])⟩,
      ⟨(some 31), none, (.bin (.agg [.int, .int, .str]) .eql (.t 27) (.t 30))⟩,
      ⟨(some 32), none, (.mv (.t 31))⟩,
      ⟨(some 33), (some (32, true)), (.mv (.t 7))⟩,
      ⟨(some 34), (some (32, true)), (.bin .int .eql (.t 33) (.c (.v (.int .i64 0))))⟩,
      ⟨(some 35), none, (.pick (.t 32) (.t 34) (.c (.v (.bool false))))⟩,
      ⟨(some 36), none, (.mv (.t 35))⟩,
      ⟨(some 37), (some (36, true)), (.mv (.t 6))⟩,
      ⟨(some 38), (some (36, true)), (.mv (.t 1))⟩,
      ⟨(some 39), (some (36, true)), (.bin .str .eql (.t 37) (.t 38))⟩,
      ⟨(some 40), none, (.pick (.t 36) (.t 39) (.c (.v (.bool false))))⟩,
      ⟨(some 41), none, (.mv (.t 40))⟩,
      ⟨(some 42), (some (41, true)), (.call (.c (.fn (.func 9) [] [])) [])⟩,
      ⟨(some 43), none, (.pick (.t 41) (.t 42) (.c (.v (.bool false))))⟩,
      ⟨(some 4), none, (.mv (.t 43))⟩] [])
    .ret)))))⟩
theorem L3_ok : lowFn Try.prog Try.f3 [⟨4, 2, .imm⟩] = some L3 := by kernel_rfl

/-- assessor_assessorlaw01.TextMoves -/
def L4 : LFn := ⟨90, [(.tmp 4)], (.seq (.ops [⟨(some 4), none, (.mv (.c (.v (.bool false))))⟩])
    (.seq (.seq (.ops [⟨(some 13), none, (.mv (.t 0))⟩,
      ⟨(some 14), none, (.len .str (.t 13))⟩,
      ⟨(some 15), none, (.bin .int .gtr (.t 14) (.c (.v (.int .i64 300))))⟩,
      ⟨(some 16), none, (.mv (.t 15))⟩,
      ⟨(some 17), (some (16, false)), (.mv (.t 1))⟩,
      ⟨(some 18), (some (16, false)), (.call (.c (.fn (.func 13) [] [])) [(.t 17)])⟩,
      ⟨(some 19), (some (16, false)), (.not (.t 18))⟩,
      ⟨(some 20), none, (.pick (.t 16) (.c (.v (.bool true))) (.t 19))⟩])
    (.cond (.t 20)
    (.seq (.ops [⟨(some 21), none, (.call (.c (.fn (.func 9) [] [])) [])⟩,
      ⟨(some 4), none, (.mv (.t 21))⟩])
    .ret)
    .skip))
    (.seq (.ops [⟨(some 23), none, (.mv (.t 0))⟩,
      ⟨(some 24), none, (.mv (.t 1))⟩,
      ⟨(some 25), none, (.call (.c (.fn (.func 11) [] [])) [(.t 23), (.t 24)])⟩,
      ⟨(some 22), none, (.mv (.t 25))⟩,
      ⟨(some 26), none, (.ext (.t 22) 0)⟩,
      ⟨(some 27), none, (.ext (.t 22) 1)⟩,
      ⟨(some 5), none, (.mv (.t 26))⟩,
      ⟨(some 6), none, (.mv (.t 27))⟩])
    (.seq (.seq (.ops [⟨(some 28), none, (.mv (.t 6))⟩,
      ⟨(some 29), none, (.bin .int .neq (.t 28) (.c (.v (.int .i64 0))))⟩])
    (.cond (.t 29)
    (.seq (.ops [⟨(some 30), none, (.call (.c (.fn (.func 9) [] [])) [])⟩,
      ⟨(some 4), none, (.mv (.t 30))⟩])
    .ret)
    .skip))
    (.seq (.ops [⟨(some 7), none, (.mv (.c (.v (.int .i64 (-1)))))⟩])
    (.seq (.seq (.ops [⟨(some 31), none, (.mv (.t 0))⟩,
      ⟨(some 32), none, (.len .str (.t 31))⟩,
      ⟨(some 33), none, (.mv (.c (.v (.int .i64 0))))⟩])
    (.block 0 (.loop (.seq (.ops [⟨(some 34), none, (.bin .int .lss (.t 33) (.t 32))⟩])
    (.seq (.cond (.t 34)
    .skip
    (.exit 0))
    (.seq (.block 1 (.seq (.ops [⟨(some 35), none, (.mv (.t 33))⟩,
      ⟨(some 8), none, (.mv (.t 35))⟩])
    (.seq (.ops [⟨(some 9), none, (.mv (.c (.v (.bool false))))⟩])
    (.seq (.seq (.ops [⟨(some 36), none, (.mv (.t 1))⟩,
      ⟨(some 37), none, (.len .slc (.t 36))⟩,
      ⟨(some 38), none, (.mv (.c (.v (.int .i64 0))))⟩])
    (.block 2 (.loop (.seq (.ops [⟨(some 39), none, (.bin .int .lss (.t 38) (.t 37))⟩])
    (.seq (.cond (.t 39)
    .skip
    (.exit 2))
    (.seq (.block 3 (.seq (.ops [⟨(some 40), none, (.iaddr 3 (.t 36) (.t 38))⟩,
      ⟨(some 41), none, (.load true 3 (.t 40))⟩,
      ⟨(some 11), none, (.alloc [(.v (.int .i64 0)), (.v (.int .i64 0)), (.v (.string (mkS [])))])⟩,
      ⟨none, none, (.store 3 (.t 11) (.t 41))⟩])
    (.ops [⟨(some 42), none, (.mv (.t 9))⟩,
      ⟨(some 43), none, (.mv (.t 42))⟩,
      ⟨(some 44), (some (43, false)), (.faddr 0 (.t 11))⟩,
      ⟨(some 45), (some (43, false)), (.load false 1 (.t 44))⟩,
      ⟨(some 46), (some (43, false)), (.mv (.t 8))⟩,
      ⟨(some 47), (some (43, false)), (.bin .int .leq (.t 45) (.t 46))⟩,
      ⟨(some 48), (some (43, false)), (.mv (.t 47))⟩,
      ⟨(some 49), (some (48, true)), (.mv (.t 8))⟩,
      ⟨(some 50), (some (48, true)), (.faddr 1 (.t 11))⟩,
      ⟨(some 51), (some (48, true)), (.load false 1 (.t 50))⟩,
      ⟨(some 52), (some (48, true)), (.bin .int .lss (.t 49) (.t 51))⟩,
      ⟨(some 53), (some (43, false)), (.pick (.t 48) (.t 52) (.c (.v (.bool false))))⟩,
      ⟨(some 54), none, (.pick (.t 43) (.c (.v (.bool true))) (.t 53))⟩,
      ⟨(some 9), none, (.mv (.t 54))⟩])))
    (.ops [⟨(some 55), none, (.bin .int .add (.t 38) (.c (.v (.int .i64 1))))⟩,
      ⟨(some 38), none, (.mv (.t 55))⟩])))))))
    (.seq (.seq (.ops [⟨(some 56), none, (.mv (.t 9))⟩])
    (.cond (.t 56)
    (.exit 1)
    .skip))
    (.seq (.ops [⟨(some 57), none, (.mv (.t 1))⟩,
      ⟨(some 58), none, (.mv (.t 8))⟩,
      ⟨(some 59), none, (.call (.c (.fn (.func 14) [] [])) [(.t 57), (.t 58)])⟩,
      ⟨(some 12), none, (.mv (.t 59))⟩])
    (.seq (.seq (.draw [⟨(some 60), none, (.mv (.t 12))⟩,
      ⟨(some 61), none, (.mv (.t 7))⟩,
      ⟨(some 62), none, (.bin .int .leq (.t 60) (.t 61))⟩,
      ⟨(some 63), none, (.mv (.t 62))⟩,
      ⟨(some 64), (some (63, false)), (.mv (.t 12))⟩,
      ⟨(some 65), (some (63, false)), (.mv (.t 5))⟩,
      ⟨(some 66), (some (63, false)), (.len .str (.t 65))⟩,
      ⟨(some 67), (some (63, false)), (.bin .int .geq (.t 64) (.t 66))⟩,
      ⟨(some 68), none, (.pick (.t 63) (.c (.v (.bool true))) (.t 67))⟩,
      ⟨(some 69), none, (.mv (.t 68))⟩,
      ⟨(some 70), (some (69, false)), (.mv (.t 5))⟩,
      ⟨(some 71), (some (69, false)), (.mv (.t 12))⟩,
      ⟨(some 72), (some (69, false)), (.idx (.t 70) (.t 71))⟩,
      ⟨(some 73), (some (69, false)), (.mv (.t 0))⟩,
      ⟨(some 74), (some (69, false)), (.mv (.t 8))⟩,
      ⟨(some 75), (some (69, false)), (.idx (.t 73) (.t 74))⟩,
      ⟨(some 76), (some (69, false)), (.bin .int .neq (.t 72) (.t 75))⟩,
      ⟨(some 77), none, (.pick (.t 69) (.c (.v (.bool true))) (.t 76))⟩] [])
    (.cond (.t 77)
    (.seq (.ops [⟨(some 4), none, (.mv (.c (.v (.bool false))))⟩])
    .ret)
    .skip))
    (.ops [⟨(some 78), none, (.mv (.t 12))⟩,
      ⟨(some 7), none, (.mv (.t 78))⟩]))))))))
    (.ops [⟨(some 79), none, (.bin .int .add (.t 33) (.c (.v (.int .i64 1))))⟩,
      ⟨(some 33), none, (.mv (.t 79))⟩])))))))
    (.seq (.ops [⟨(some 80), none, (.mv (.t 1))⟩,
      ⟨(some 81), none, (.mv (.t 0))⟩,
      ⟨(some 82), none, (.len .str (.t 81))⟩,
      ⟨(some 83), none, (.call (.c (.fn (.func 14) [] [])) [(.t 80), (.t 82)])⟩,
      ⟨(some 84), none, (.mv (.t 5))⟩,
      ⟨(some 85), none, (.len .str (.t 84))⟩,
      ⟨(some 86), none, (.bin .int .eql (.t 83) (.t 85))⟩,
      ⟨(some 87), none, (.mv (.t 86))⟩,
      ⟨(some 88), (some (87, true)), (.call (.c (.fn (.func 9) [] [])) [])⟩,
      ⟨(some 89), none, (.pick (.t 87) (.t 88) (.c (.v (.bool false))))⟩,
      ⟨(some 4), none, (.mv (.t 89))⟩])
    .ret)))))))⟩
theorem L4_ok : lowFn Try.prog Try.f4 [] = some L4 := by kernel_rfl

/-- assessor_assessorlaw01.TextReplaces -/
def L5 : LFn := ⟨78, [(.tmp 6)], (.seq (.ops [⟨(some 6), none, (.mv (.c (.v (.bool false))))⟩])
    (.seq (.seq (.ops [⟨(some 15), none, (.mv (.t 0))⟩,
      ⟨(some 16), none, (.len .str (.t 15))⟩,
      ⟨(some 17), none, (.bin .int .gtr (.t 16) (.c (.v (.int .i64 300))))⟩,
      ⟨(some 18), none, (.mv (.t 17))⟩,
      ⟨(some 19), (some (18, false)), (.mv (.t 1))⟩,
      ⟨(some 20), (some (18, false)), (.call (.c (.fn (.func 13) [] [])) [(.t 19)])⟩,
      ⟨(some 21), (some (18, false)), (.not (.t 20))⟩,
      ⟨(some 22), none, (.pick (.t 18) (.c (.v (.bool true))) (.t 21))⟩])
    (.cond (.t 22)
    (.seq (.ops [⟨(some 23), none, (.call (.c (.fn (.func 9) [] [])) [])⟩,
      ⟨(some 6), none, (.mv (.t 23))⟩])
    .ret)
    .skip))
    (.seq (.ops [⟨(some 25), none, (.mv (.t 0))⟩,
      ⟨(some 26), none, (.mv (.t 1))⟩,
      ⟨(some 27), none, (.call (.c (.fn (.func 11) [] [])) [(.t 25), (.t 26)])⟩,
      ⟨(some 24), none, (.mv (.t 27))⟩,
      ⟨(some 28), none, (.ext (.t 24) 0)⟩,
      ⟨(some 29), none, (.ext (.t 24) 1)⟩,
      ⟨(some 7), none, (.mv (.t 28))⟩,
      ⟨(some 8), none, (.mv (.t 29))⟩])
    (.seq (.ops [⟨(some 31), none, (.mv (.t 0))⟩,
      ⟨(some 32), none, (.mv (.t 1))⟩,
      ⟨(some 33), none, (.call (.c (.fn (.func 15) [] [])) [(.t 31), (.t 32)])⟩,
      ⟨(some 30), none, (.mv (.t 33))⟩,
      ⟨(some 34), none, (.ext (.t 30) 0)⟩,
      ⟨(some 35), none, (.ext (.t 30) 1)⟩,
      ⟨(some 9), none, (.mv (.t 34))⟩,
      ⟨(some 10), none, (.mv (.t 35))⟩])
    (.seq (.ops [⟨(some 37), none, (.mv (.t 0))⟩,
      ⟨(some 38), none, (.mv (.t 1))⟩,
      ⟨(some 39), none, (.call (.c (.fn (.func 16) [] [])) [(.t 37), (.t 38)])⟩,
      ⟨(some 36), none, (.mv (.t 39))⟩,
      ⟨(some 40), none, (.ext (.t 36) 0)⟩,
      ⟨(some 41), none, (.ext (.t 36) 1)⟩,
      ⟨(some 11), none, (.mv (.t 40))⟩,
      ⟨(some 12), none, (.mv (.t 41))⟩])
    (.seq (.ops [⟨(some 43), none, (.mv (.t 0))⟩,
      ⟨(some 44), none, (.mv (.t 1))⟩,
      ⟨(some 45), none, (.call (.c (.fn (.func 17) [] [])) [(.t 43), (.t 44)])⟩,
      ⟨(some 42), none, (.mv (.t 45))⟩,
      ⟨(some 46), none, (.ext (.t 42) 0)⟩,
      ⟨(some 47), none, (.ext (.t 42) 1)⟩,
      ⟨(some 13), none, (.mv (.t 46))⟩,
      ⟨(some 14), none, (.mv (.t 47))⟩])
    (.seq (.ops [⟨(some 48), none, (.mv (.t 7))⟩,
      ⟨(some 49), none, (.mv (.t 9))⟩,
      ⟨(some 50), none, (.bin .str .eql (.t 48) (.t 49))⟩,
      ⟨(some 51), none, (.mv (.t 50))⟩,
      ⟨(some 52), (some (51, true)), (.mv (.t 8))⟩,
      ⟨(some 53), (some (51, true)), (.mv (.t 10))⟩,
      ⟨(some 54), (some (51, true)), (.bin .int .eql (.t 52) (.t 53))⟩,
      ⟨(some 55), none, (.pick (.t 51) (.t 54) (.c (.v (.bool false))))⟩,
      ⟨(some 56), none, (.mv (.t 55))⟩,
      ⟨(some 57), (some (56, true)), (.mv (.t 11))⟩,
      ⟨(some 58), (some (56, true)), (.mv (.t 13))⟩,
      ⟨(some 59), (some (56, true)), (.call (.c (.fn (.func 18) [] [])) [(.t 57), (.t 58)])⟩,
      ⟨(some 60), none, (.pick (.t 56) (.t 59) (.c (.v (.bool false))))⟩,
      ⟨(some 61), none, (.mv (.t 60))⟩,
      ⟨(some 62), (some (61, true)), (.mv (.t 12))⟩,
      ⟨(some 63), (some (61, true)), (.mv (.t 14))⟩,
      ⟨(some 64), (some (61, true)), (.bin .int .eql (.t 62) (.t 63))⟩,
      ⟨(some 65), none, (.pick (.t 61) (.t 64) (.c (.v (.bool false))))⟩,
      ⟨(some 66), none, (.mv (.t 65))⟩,
      ⟨(some 67), (some (66, true)), (.mv (.t 1))⟩,
      ⟨(some 68), (some (66, true)), (.mv (.t 2))⟩,
      ⟨(some 69), (some (66, true)), (.call (.c (.fn (.func 14) [] [])) [(.t 67), (.t 68)])⟩,
      ⟨(some 70), (some (66, true)), (.mv (.t 1))⟩,
      ⟨(some 71), (some (66, true)), (.mv (.t 2))⟩,
      ⟨(some 72), (some (66, true)), (.call (.c (.fn (.func 19) [] [])) [(.t 70), (.t 71)])⟩,
      ⟨(some 73), (some (66, true)), (.bin .int .eql (.t 69) (.t 72))⟩,
      ⟨(some 74), none, (.pick (.t 66) (.t 73) (.c (.v (.bool false))))⟩,
      ⟨(some 75), none, (.mv (.t 74))⟩,
      ⟨(some 76), (some (75, true)), (.call (.c (.fn (.func 9) [] [])) [])⟩,
      ⟨(some 77), none, (.pick (.t 75) (.t 76) (.c (.v (.bool false))))⟩,
      ⟨(some 6), none, (.mv (.t 77))⟩])
    .ret)))))))⟩
theorem L5_ok : lowFn Try.prog Try.f5 [] = some L5 := by kernel_rfl

/-- assessor_assessorlaw01.TextUndo -/
def L6 : LFn := ⟨84, [(.tmp 4)], (.seq (.ops [⟨(some 4), none, (.mv (.c (.v (.bool false))))⟩])
    (.seq (.seq (.ops [⟨(some 13), none, (.mv (.t 0))⟩,
      ⟨(some 14), none, (.len .str (.t 13))⟩,
      ⟨(some 15), none, (.bin .int .gtr (.t 14) (.c (.v (.int .i64 300))))⟩,
      ⟨(some 16), none, (.mv (.t 15))⟩,
      ⟨(some 17), (some (16, false)), (.mv (.t 1))⟩,
      ⟨(some 18), (some (16, false)), (.call (.c (.fn (.func 13) [] [])) [(.t 17)])⟩,
      ⟨(some 19), (some (16, false)), (.not (.t 18))⟩,
      ⟨(some 20), none, (.pick (.t 16) (.c (.v (.bool true))) (.t 19))⟩])
    (.cond (.t 20)
    (.seq (.ops [⟨(some 21), none, (.call (.c (.fn (.func 9) [] [])) [])⟩,
      ⟨(some 4), none, (.mv (.t 21))⟩])
    .ret)
    .skip))
    (.seq (.ops [⟨(some 23), none, (.mv (.t 0))⟩,
      ⟨(some 24), none, (.mv (.t 1))⟩,
      ⟨(some 25), none, (.call (.c (.fn (.func 11) [] [])) [(.t 23), (.t 24)])⟩,
      ⟨(some 22), none, (.mv (.t 25))⟩,
      ⟨(some 26), none, (.ext (.t 22) 0)⟩,
      ⟨(some 27), none, (.ext (.t 22) 1)⟩,
      ⟨(some 5), none, (.mv (.t 26))⟩,
      ⟨(some 6), none, (.mv (.t 27))⟩])
    (.seq (.ops [⟨(some 29), none, (.mv (.t 0))⟩,
      ⟨(some 30), none, (.mv (.t 1))⟩,
      ⟨(some 31), none, (.call (.c (.fn (.func 16) [] [])) [(.t 29), (.t 30)])⟩,
      ⟨(some 28), none, (.mv (.t 31))⟩,
      ⟨(some 32), none, (.ext (.t 28) 0)⟩,
      ⟨(some 33), none, (.ext (.t 28) 1)⟩,
      ⟨(some 7), none, (.mv (.t 32))⟩,
      ⟨(some 8), none, (.mv (.t 33))⟩])
    (.seq (.seq (.ops [⟨(some 34), none, (.mv (.t 6))⟩,
      ⟨(some 35), none, (.mv (.t 8))⟩,
      ⟨(some 36), none, (.bin .int .neq (.t 34) (.t 35))⟩,
      ⟨(some 37), none, (.mv (.t 36))⟩,
      ⟨(some 38), (some (37, false)), (.mv (.t 6))⟩,
      ⟨(some 39), (some (37, false)), (.bin .int .neq (.t 38) (.c (.v (.int .i64 0))))⟩,
      ⟨(some 40), (some (37, false)), (.mv (.t 39))⟩,
      ⟨(some 41), (some (40, true)), (.mv (.t 5))⟩,
      ⟨(some 42), (some (40, true)), (.bin .str .neq (.t 41) (.c (.v (.string (mkS [])))))⟩,
      ⟨(some 43), (some (40, true)), (.mv (.t 42))⟩,
      ⟨(some 44), (some (43, false)), (.mv (.t 7))⟩,
      ⟨(some 45), (some (43, false)), (.len .slc (.t 44))⟩,
      ⟨(some 46), (some (43, false)), (.bin .int .gtr (.t 45) (.c (.v (.int .i64 0))))⟩,
      ⟨(some 47), (some (40, true)), (.pick (.t 43) (.c (.v (.bool true))) (.t 46))⟩,
      ⟨(some 48), (some (37, false)), (.pick (.t 40) (.t 47) (.c (.v (.bool false))))⟩,
      ⟨(some 49), none, (.pick (.t 37) (.c (.v (.bool true))) (.t 48))⟩])
    (.cond (.t 49)
    (.seq (.ops [⟨(some 4), none, (.mv (.c (.v (.bool false))))⟩])
    .ret)
    .skip))
    (.seq (.seq (.ops [⟨(some 50), none, (.mv (.t 6))⟩,
      ⟨(some 51), none, (.bin .int .neq (.t 50) (.c (.v (.int .i64 0))))⟩])
    (.cond (.t 51)
    (.seq (.ops [⟨(some 52), none, (.call (.c (.fn (.func 9) [] [])) [])⟩,
      ⟨(some 4), none, (.mv (.t 52))⟩])
    .ret)
    .skip))
    (.seq (.ops [⟨(some 54), none, (.mv (.t 5))⟩,
      ⟨(some 55), none, (.mv (.t 7))⟩,
      ⟨(some 56), none, (.call (.c (.fn (.func 11) [] [])) [(.t 54), (.t 55)])⟩,
      ⟨(some 53), none, (.mv (.t 56))⟩,
      ⟨(some 57), none, (.ext (.t 53) 0)⟩,
      ⟨(some 58), none, (.ext (.t 53) 1)⟩,
      ⟨(some 9), none, (.mv (.t 57))⟩,
      ⟨(some 10), none, (.mv (.t 58))⟩])
    (.seq (.ops [⟨(some 60), none, (.mv (.t 5))⟩,
      ⟨(some 61), none, (.mv (.t 7))⟩,
      ⟨(some 62), none, (.call (.c (.fn (.func 16) [] [])) [(.t 60), (.t 61)])⟩,
      ⟨(some 59), none, (.mv (.t 62))⟩,
      ⟨(some 63), none, (.ext (.t 59) 0)⟩,
      ⟨(some 64), none, (.ext (.t 59) 1)⟩,
      ⟨(some 11), none, (.mv (.t 63))⟩,
      ⟨(some 12), none, (.mv (.t 64))⟩])
    (.seq (.ops [⟨(some 65), none, (.mv (.t 10))⟩,
      ⟨(some 66), none, (.bin .int .eql (.t 65) (.c (.v (.int .i64 0))))⟩,
      ⟨(some 67), none, (.mv (.t 66))⟩,
      ⟨(some 68), (some (67, true)), (.mv (.t 9))⟩,
      ⟨(some 69), (some (67, true)), (.mv (.t 0))⟩,
      ⟨(some 70), (some (67, true)), (.bin .str .eql (.t 68) (.t 69))⟩,
      ⟨(some 71), none, (.pick (.t 67) (.t 70) (.c (.v (.bool false))))⟩,
      ⟨(some 72), none, (.mv (.t 71))⟩,
      ⟨(some 73), (some (72, true)), (.mv (.t 12))⟩,
      ⟨(some 74), (some (72, true)), (.bin .int .eql (.t 73) (.c (.v (.int .i64 0))))⟩,
      ⟨(some 75), none, (.pick (.t 72) (.t 74) (.c (.v (.bool false))))⟩,
      ⟨(some 76), none, (.mv (.t 75))⟩,
      ⟨(some 77), (some (76, true)), (.mv (.t 11))⟩,
      ⟨(some 78), (some (76, true)), (.mv (.t 1))⟩,
      ⟨(some 79), (some (76, true)), (.call (.c (.fn (.func 18) [] [])) [(.t 77), (.t 78)])⟩,
      ⟨(some 80), none, (.pick (.t 76) (.t 79) (.c (.v (.bool false))))⟩,
      ⟨(some 81), none, (.mv (.t 80))⟩,
      ⟨(some 82), (some (81, true)), (.call (.c (.fn (.func 9) [] [])) [])⟩,
      ⟨(some 83), none, (.pick (.t 81) (.t 82) (.c (.v (.bool false))))⟩,
      ⟨(some 4), none, (.mv (.t 83))⟩])
    .ret)))))))))⟩
theorem L6_ok : lowFn Try.prog Try.f6 [] = some L6 := by kernel_rfl

/-- assessor_assessorlaw01.TextPositions -/
def L7 : LFn := ⟨84, [(.tmp 8)], (.seq (.ops [⟨(some 8), none, (.mv (.c (.v (.bool false))))⟩])
    (.seq (.seq (.ops [⟨(some 17), none, (.mv (.t 0))⟩,
      ⟨(some 18), none, (.len .str (.t 17))⟩,
      ⟨(some 19), none, (.bin .int .gtr (.t 18) (.c (.v (.int .i64 200))))⟩])
    (.cond (.t 19)
    (.seq (.ops [⟨(some 20), none, (.call (.c (.fn (.func 9) [] [])) [])⟩,
      ⟨(some 8), none, (.mv (.t 20))⟩])
    .ret)
    .skip))
    (.seq (.ops [⟨(some 22), none, (.mv (.t 0))⟩,
      ⟨(some 23), none, (.mv (.t 1))⟩,
      ⟨(some 24), none, (.call (.c (.fn (.func 20) [] [])) [(.t 22), (.t 23)])⟩,
      ⟨(some 21), none, (.mv (.t 24))⟩,
      ⟨(some 25), none, (.ext (.t 21) 0)⟩,
      ⟨(some 26), none, (.ext (.t 21) 1)⟩,
      ⟨(some 9), none, (.mv (.t 25))⟩,
      ⟨(some 10), none, (.mv (.t 26))⟩])
    (.seq (.ops [⟨(some 28), none, (.mv (.t 0))⟩,
      ⟨(some 29), none, (.mv (.t 1))⟩,
      ⟨(some 30), none, (.call (.c (.fn (.func 21) [] [])) [(.t 28), (.t 29)])⟩,
      ⟨(some 27), none, (.mv (.t 30))⟩,
      ⟨(some 31), none, (.ext (.t 27) 0)⟩,
      ⟨(some 32), none, (.ext (.t 27) 1)⟩,
      ⟨(some 11), none, (.mv (.t 31))⟩,
      ⟨(some 12), none, (.mv (.t 32))⟩])
    (.seq (.ops [⟨(some 34), none, (.mv (.t 0))⟩,
      ⟨(some 35), none, (.mv (.t 2))⟩,
      ⟨(some 36), none, (.mv (.t 3))⟩,
      ⟨(some 37), none, (.call (.c (.fn (.func 22) [] [])) [(.t 34), (.t 35), (.t 36)])⟩,
      ⟨(some 33), none, (.mv (.t 37))⟩,
      ⟨(some 38), none, (.ext (.t 33) 0)⟩,
      ⟨(some 39), none, (.ext (.t 33) 1)⟩,
      ⟨(some 13), none, (.mv (.t 38))⟩,
      ⟨(some 14), none, (.mv (.t 39))⟩])
    (.seq (.ops [⟨(some 41), none, (.mv (.t 0))⟩,
      ⟨(some 42), none, (.mv (.t 2))⟩,
      ⟨(some 43), none, (.mv (.t 3))⟩,
      ⟨(some 44), none, (.call (.c (.fn (.func 23) [] [])) [(.t 41), (.t 42), (.t 43)])⟩,
      ⟨(some 40), none, (.mv (.t 44))⟩,
      ⟨(some 45), none, (.ext (.t 40) 0)⟩,
      ⟨(some 46), none, (.ext (.t 40) 1)⟩,
      ⟨(some 15), none, (.mv (.t 45))⟩,
      ⟨(some 16), none, (.mv (.t 46))⟩])
    (.seq (.ops [⟨(some 47), none, (.mv (.t 0))⟩,
      ⟨(some 48), none, (.call (.c (.fn (.func 25) [] [])) [(.t 47)])⟩,
      ⟨(some 49), none, (.mv (.t 0))⟩,
      ⟨(some 50), none, (.call (.c (.fn (.func 26) [] [])) [(.t 49)])⟩,
      ⟨(some 51), none, (.call (.c (.fn (.func 24) [] [])) [(.t 48), (.t 50)])⟩,
      ⟨(some 52), none, (.mv (.t 51))⟩,
      ⟨(some 53), (some (52, true)), (.mv (.t 9))⟩,
      ⟨(some 54), (some (52, true)), (.mv (.t 11))⟩,
      ⟨(some 55), (some (52, true)), (.bin .int .eql (.t 53) (.t 54))⟩,
      ⟨(some 56), none, (.pick (.t 52) (.t 55) (.c (.v (.bool false))))⟩,
      ⟨(some 57), none, (.mv (.t 56))⟩,
      ⟨(some 58), (some (57, true)), (.mv (.t 10))⟩,
      ⟨(some 59), (some (57, true)), (.mv (.t 12))⟩,
      ⟨(some 60), (some (57, true)), (.bin .int .eql (.t 58) (.t 59))⟩,
      ⟨(some 61), none, (.pick (.t 57) (.t 60) (.c (.v (.bool false))))⟩,
      ⟨(some 62), none, (.mv (.t 61))⟩,
      ⟨(some 63), (some (62, true)), (.mv (.t 13))⟩,
      ⟨(some 64), (some (62, true)), (.mv (.t 15))⟩,
      ⟨(some 65), (some (62, true)), (.bin .int .eql (.t 63) (.t 64))⟩,
      ⟨(some 66), none, (.pick (.t 62) (.t 65) (.c (.v (.bool false))))⟩,
      ⟨(some 67), none, (.mv (.t 66))⟩,
      ⟨(some 68), (some (67, true)), (.mv (.t 14))⟩,
      ⟨(some 69), (some (67, true)), (.mv (.t 16))⟩,
      ⟨(some 70), (some (67, true)), (.bin .bool .eql (.t 68) (.t 69))⟩,
      ⟨(some 71), none, (.pick (.t 67) (.t 70) (.c (.v (.bool false))))⟩,
      ⟨(some 72), none, (.mv (.t 71))⟩,
      ⟨(some 73), (some (72, true)), (.mv (.t 0))⟩,
      ⟨(some 74), (some (72, true)), (.mv (.t 2))⟩,
      ⟨(some 75), (some (72, true)), (.call (.c (.fn (.func 27) [] [])) [(.t 73), (.t 74)])⟩,
      ⟨(some 76), (some (72, true)), (.mv (.t 0))⟩,
      ⟨(some 77), (some (72, true)), (.mv (.t 2))⟩,
      ⟨(some 78), (some (72, true)), (.call (.c (.fn (.func 28) [] [])) [(.t 76), (.t 77)])⟩,
      ⟨(some 79), (some (72, true)), (.bin .str .eql (.t 75) (.t 78))⟩,
      ⟨(some 80), none, (.pick (.t 72) (.t 79) (.c (.v (.bool false))))⟩,
      ⟨(some 81), none, (.mv (.t 80))⟩,
      ⟨(some 82), (some (81, true)), (.call (.c (.fn (.func 9) [] [])) [])⟩,
      ⟨(some 83), none, (.pick (.t 81) (.t 82) (.c (.v (.bool false))))⟩,
      ⟨(some 8), none, (.mv (.t 83))⟩])
    .ret)))))))⟩
theorem L7_ok : lowFn Try.prog Try.f7 [] = some L7 := by kernel_rfl

/-- assessor_assessorlaw01.awake -/
def L9 : LFn := ⟨47, [(.tmp 0)], (.seq (.ops [⟨(some 0), none, (.mv (.c (.v (.bool false))))⟩])
    (.seq (.ops [⟨(some 7), none, (.call (.c (.fn (.func 20) [] [])) [(.c (.v (.string (mkS [97, 98, 10, 99, 100])))), (.c (.v (.int .i64 4)))])⟩,
      ⟨(some 6), none, (.mv (.t 7))⟩,
      ⟨(some 8), none, (.ext (.t 6) 0)⟩,
      ⟨(some 9), none, (.ext (.t 6) 1)⟩,
      ⟨(some 1), none, (.mv (.t 8))⟩,
      ⟨(some 2), none, (.mv (.t 9))⟩])
    (.seq (.ops [⟨(some 10), none, (.build [(.v (.int .i64 0)), (.v (.int .i64 0)), (.v (.string (mkS [])))] [(0, (1, (.c (.v (.int .i64 1))))), (1, (1, (.c (.v (.int .i64 2))))), (2, (1, (.c (.v (.string (mkS [120, 121]))))))])⟩,
      ⟨(some 11), none, (.build [(.v (.int .i64 0)), (.v (.int .i64 0)), (.v (.string (mkS [])))] [(0, (1, (.c (.v (.int .i64 3))))), (1, (1, (.c (.v (.int .i64 3))))), (2, (1, (.c (.v (.string (mkS [122]))))))])⟩,
      ⟨(some 12), none, (.bsl true 3 2 [(.v (.int .i64 0)), (.v (.int .i64 0)), (.v (.string (mkS [])))] [(0, (.t 10)), (1, (.t 11))])⟩,
      ⟨(some 3), none, (.mv (.t 12))⟩])
    (.seq (.ops [⟨(some 14), none, (.mv (.t 3))⟩,
      ⟨(some 15), none, (.call (.c (.fn (.func 11) [] [])) [(.c (.v (.string (mkS [97, 98, 10, 99, 100])))), (.t 14)])⟩,
      ⟨(some 13), none, (.mv (.t 15))⟩,
      ⟨(some 16), none, (.ext (.t 13) 0)⟩,
      ⟨(some 17), none, (.ext (.t 13) 1)⟩,
      ⟨(some 4), none, (.mv (.t 16))⟩,
      ⟨(some 5), none, (.mv (.t 17))⟩])
    (.seq (.ops [⟨(some 18), none, (.call (.c (.fn (.func 25) [] [])) [(.c (.v (.string (mkS [97, 98, 10, 99, 100]))))])⟩,
      ⟨(some 19), none, (.bsl true 1 2 [(.v (.int .i64 0))] [(0, (.c (.v (.int .i64 0)))), (1, (.c (.v (.int .i64 3))))])⟩,
      ⟨(some 20), none, (.call (.c (.fn (.func 24) [] [])) [(.t 18), (.t 19)])⟩,
      ⟨(some 21), none, (.mv (.t 20))⟩,
      ⟨(some 22), (some (21, true)), (.mv (.t 1))⟩,
      ⟨(some 23), (some (21, true)), (.bin .int .eql (.t 22) (.c (.v (.int .i64 2))))⟩,
      ⟨(some 24), none, (.pick (.t 21) (.t 23) (.c (.v (.bool false))))⟩,
      ⟨(some 25), none, (.mv (.t 24))⟩,
      ⟨(some 26), (some (25, true)), (.mv (.t 2))⟩,
      ⟨(some 27), (some (25, true)), (.bin .int .eql (.t 26) (.c (.v (.int .i64 2))))⟩,
      ⟨(some 28), none, (.pick (.t 25) (.t 27) (.c (.v (.bool false))))⟩,
      ⟨(some 29), none, (.mv (.t 28))⟩,
      ⟨(some 30), (some (29, true)), (.mv (.t 4))⟩,
      ⟨(some 31), (some (29, true)), (.bin .str .eql (.t 30) (.c (.v (.string (mkS [97, 120, 121, 10, 122, 99, 100])))))⟩,
      ⟨(some 32), none, (.pick (.t 29) (.t 31) (.c (.v (.bool false))))⟩,
      ⟨(some 33), none, (.mv (.t 32))⟩,
      ⟨(some 34), (some (33, true)), (.mv (.t 5))⟩,
      ⟨(some 35), (some (33, true)), (.bin .int .eql (.t 34) (.c (.v (.int .i64 0))))⟩,
      ⟨(some 36), none, (.pick (.t 33) (.t 35) (.c (.v (.bool false))))⟩,
      ⟨(some 37), none, (.mv (.t 36))⟩,
      ⟨(some 38), (some (37, true)), (.mv (.t 3))⟩,
      ⟨(some 39), (some (37, true)), (.call (.c (.fn (.func 14) [] [])) [(.t 38), (.c (.v (.int .i64 3)))])⟩,
      ⟨(some 40), (some (37, true)), (.bin .int .eql (.t 39) (.c (.v (.int .i64 5))))⟩,
      ⟨(some 41), none, (.pick (.t 37) (.t 40) (.c (.v (.bool false))))⟩,
      ⟨(some 42), none, (.mv (.t 41))⟩,
      ⟨(some 43), (some (42, true)), (.call (.c (.fn (.func 10) [] [])) [(.c (.v (.string (mkS [97, 98, 99])))), (.c (.v (.string (mkS [97, 88, 99]))))])⟩,
      ⟨(some 44), (some (42, true)), (.build [(.v (.int .i64 0)), (.v (.int .i64 0)), (.v (.string (mkS [])))] [(0, (1, (.c (.v (.int .i64 1))))), (1, (1, (.c (.v (.int .i64 2))))), (2, (1, (.c (.v (.string (mkS [88]))))))])⟩,
      ⟨(some 45), (some (42, true)), (.bin (.agg [.int, .int, .str]) .eql (.t 43) (.t 44))⟩,
      ⟨(some 46), none, (.pick (.t 42) (.t 45) (.c (.v (.bool false))))⟩,
      ⟨(some 0), none, (.mv (.t 46))⟩])
    .ret)))))⟩
theorem L9_ok : lowFn Try.prog Try.f9 [⟨2, 2, .imm⟩, ⟨4, 1, .imm⟩] = some L9 := by kernel_rfl

/-- assessor_text.Difference -/
def L10 : LFn := ⟨74, [(.cell 4 true 3)], (.seq (.ops [⟨(some 4), none, (.alloc [(.v (.int .i64 0)), (.v (.int .i64 0)), (.v (.string (mkS [])))])⟩])
    (.seq (.ops [⟨(some 5), none, (.mv (.c (.v (.int .i64 0))))⟩])
    (.seq (.block 0 (.loop (.seq (.seq (.draw [⟨(some 7), none, (.mv (.t 5))⟩,
      ⟨(some 8), none, (.mv (.t 0))⟩,
      ⟨(some 9), none, (.len .str (.t 8))⟩,
      ⟨(some 10), none, (.bin .int .lss (.t 7) (.t 9))⟩,
      ⟨(some 11), none, (.mv (.t 10))⟩,
      ⟨(some 12), (some (11, true)), (.mv (.t 5))⟩,
      ⟨(some 13), (some (11, true)), (.mv (.t 1))⟩,
      ⟨(some 14), (some (11, true)), (.len .str (.t 13))⟩,
      ⟨(some 15), (some (11, true)), (.bin .int .lss (.t 12) (.t 14))⟩,
      ⟨(some 16), none, (.pick (.t 11) (.t 15) (.c (.v (.bool false))))⟩,
      ⟨(some 17), none, (.mv (.t 16))⟩,
      ⟨(some 18), (some (17, true)), (.mv (.t 0))⟩,
      ⟨(some 19), (some (17, true)), (.mv (.t 5))⟩,
      ⟨(some 20), (some (17, true)), (.idx (.t 18) (.t 19))⟩,
      ⟨(some 21), (some (17, true)), (.mv (.t 1))⟩,
      ⟨(some 22), (some (17, true)), (.mv (.t 5))⟩,
      ⟨(some 23), (some (17, true)), (.idx (.t 21) (.t 22))⟩,
      ⟨(some 24), (some (17, true)), (.bin .int .eql (.t 20) (.t 23))⟩,
      ⟨(some 25), none, (.pick (.t 17) (.t 24) (.c (.v (.bool false))))⟩] [])
    (.cond (.t 25)
    .skip
    (.exit 0)))
    (.block 1 (.ops [⟨(some 26), none, (.mv (.t 5))⟩,
      ⟨(some 27), none, (.bin .int .add (.t 26) (.c (.v (.int .i64 1))))⟩,
      ⟨(some 5), none, (.mv (.t 27))⟩])))))
    (.seq (.ops [⟨(some 6), none, (.mv (.c (.v (.int .i64 0))))⟩])
    (.seq (.block 2 (.loop (.seq (.seq (.draw [⟨(some 28), none, (.mv (.t 6))⟩,
      ⟨(some 29), none, (.mv (.t 0))⟩,
      ⟨(some 30), none, (.len .str (.t 29))⟩,
      ⟨(some 31), none, (.mv (.t 5))⟩,
      ⟨(some 32), none, (.bin .int .sub (.t 30) (.t 31))⟩,
      ⟨(some 33), none, (.bin .int .lss (.t 28) (.t 32))⟩,
      ⟨(some 34), none, (.mv (.t 33))⟩,
      ⟨(some 35), (some (34, true)), (.mv (.t 6))⟩,
      ⟨(some 36), (some (34, true)), (.mv (.t 1))⟩,
      ⟨(some 37), (some (34, true)), (.len .str (.t 36))⟩,
      ⟨(some 38), (some (34, true)), (.mv (.t 5))⟩,
      ⟨(some 39), (some (34, true)), (.bin .int .sub (.t 37) (.t 38))⟩,
      ⟨(some 40), (some (34, true)), (.bin .int .lss (.t 35) (.t 39))⟩,
      ⟨(some 41), none, (.pick (.t 34) (.t 40) (.c (.v (.bool false))))⟩,
      ⟨(some 42), none, (.mv (.t 41))⟩,
      ⟨(some 43), (some (42, true)), (.mv (.t 0))⟩,
      ⟨(some 44), (some (42, true)), (.mv (.t 0))⟩,
      ⟨(some 45), (some (42, true)), (.len .str (.t 44))⟩,
      ⟨(some 46), (some (42, true)), (.bin .int .sub (.t 45) (.c (.v (.int .i64 1))))⟩,
      ⟨(some 47), (some (42, true)), (.mv (.t 6))⟩,
      ⟨(some 48), (some (42, true)), (.bin .int .sub (.t 46) (.t 47))⟩,
      ⟨(some 49), (some (42, true)), (.idx (.t 43) (.t 48))⟩,
      ⟨(some 50), (some (42, true)), (.mv (.t 1))⟩,
      ⟨(some 51), (some (42, true)), (.mv (.t 1))⟩,
      ⟨(some 52), (some (42, true)), (.len .str (.t 51))⟩,
      ⟨(some 53), (some (42, true)), (.bin .int .sub (.t 52) (.c (.v (.int .i64 1))))⟩,
      ⟨(some 54), (some (42, true)), (.mv (.t 6))⟩,
      ⟨(some 55), (some (42, true)), (.bin .int .sub (.t 53) (.t 54))⟩,
      ⟨(some 56), (some (42, true)), (.idx (.t 50) (.t 55))⟩,
      ⟨(some 57), (some (42, true)), (.bin .int .eql (.t 49) (.t 56))⟩,
      ⟨(some 58), none, (.pick (.t 42) (.t 57) (.c (.v (.bool false))))⟩] [])
    (.cond (.t 58)
    .skip
    (.exit 2)))
    (.block 3 (.ops [⟨(some 59), none, (.mv (.t 6))⟩,
      ⟨(some 60), none, (.bin .int .add (.t 59) (.c (.v (.int .i64 1))))⟩,
      ⟨(some 6), none, (.mv (.t 60))⟩])))))
    (.seq (.ops [⟨(some 61), none, (.mv (.t 5))⟩,
      ⟨(some 62), none, (.mv (.t 0))⟩,
      ⟨(some 63), none, (.len .str (.t 62))⟩,
      ⟨(some 64), none, (.mv (.t 6))⟩,
      ⟨(some 65), none, (.bin .int .sub (.t 63) (.t 64))⟩,
      ⟨(some 66), none, (.mv (.t 1))⟩,
      ⟨(some 67), none, (.mv (.t 5))⟩,
      ⟨(some 68), none, (.mv (.t 1))⟩,
      ⟨(some 69), none, (.len .str (.t 68))⟩,
      ⟨(some 70), none, (.mv (.t 6))⟩,
      ⟨(some 71), none, (.bin .int .sub (.t 69) (.t 70))⟩,
      ⟨(some 72), none, (.slice .str 1 (.t 66) (some (.t 67)) (some (.t 71)))⟩,
      ⟨(some 73), none, (.build [(.v (.int .i64 0)), (.v (.int .i64 0)), (.v (.string (mkS [])))] [(0, (1, (.t 61))), (1, (1, (.t 65))), (2, (1, (.t 72)))])⟩,
      ⟨none, none, (.store 3 (.t 4) (.t 73))⟩])
    .ret))))))⟩
theorem L10_ok : lowFn Try.prog Try.f10 [] = some L10 := by kernel_rfl

/-- assessor_text.Apply -/
def L11 : LFn := ⟨40, [(.tmp 4), (.tmp 5)], (.seq (.ops [⟨(some 2), none, (.box false (.t 0))⟩,
      ⟨(some 4), none, (.mv (.c (.v (.string (mkS [])))))⟩,
      ⟨(some 5), none, (.mv (.c (.v (.int .i64 0))))⟩])
    (.seq (.seq (.ops [⟨(some 12), none, (.load false 1 (.t 2))⟩,
      ⟨(some 13), none, (.mv (.t 1))⟩,
      ⟨(some 14), none, (.call (.c (.fn (.func 31) [] [])) [(.t 12), (.t 13)])⟩,
      ⟨(some 6), none, (.mv (.t 14))⟩])
    (.seq (.ops [⟨(some 15), none, (.mv (.t 6))⟩,
      ⟨(some 16), none, (.bin .int .neq (.t 15) (.c (.v (.int .i64 0))))⟩])
    (.cond (.t 16)
    (.seq (.ops [⟨(some 17), none, (.mv (.t 6))⟩,
      ⟨(some 4), none, (.mv (.c (.v (.string (mkS [])))))⟩,
      ⟨(some 5), none, (.mv (.t 17))⟩])
    .ret)
    .skip)))
    (.seq (.ops [⟨(some 7), none, (.allocb 58 [(.v (.pointer none)), (.v (.slice none 0 0))])⟩])
    (.seq (.ops [⟨(some 8), none, (.alloc [(.v (.int .i64 0))])⟩,
      ⟨none, none, (.store 1 (.t 8) (.c (.v (.int .i64 0))))⟩])
    (.seq (.ops [⟨(some 18), none, (.mkfn (.func 32) [] [(.t 7), (.t 2), (.t 8)])⟩,
      ⟨(some 9), none, (.mv (.t 18))⟩])
    (.seq (.seq (.ops [⟨(some 19), none, (.mv (.t 1))⟩,
      ⟨(some 20), none, (.len .slc (.t 19))⟩,
      ⟨(some 21), none, (.mv (.c (.v (.int .i64 0))))⟩])
    (.block 0 (.loop (.seq (.ops [⟨(some 22), none, (.bin .int .lss (.t 21) (.t 20))⟩])
    (.seq (.cond (.t 22)
    .skip
    (.exit 0))
    (.seq (.block 1 (.seq (.ops [⟨(some 23), none, (.iaddr 3 (.t 19) (.t 21))⟩,
      ⟨(some 24), none, (.load true 3 (.t 23))⟩,
      ⟨(some 11), none, (.alloc [(.v (.int .i64 0)), (.v (.int .i64 0)), (.v (.string (mkS [])))])⟩,
      ⟨none, none, (.store 3 (.t 11) (.t 24))⟩])
    (.seq (.ops [⟨(some 25), none, (.mv (.t 9))⟩,
      ⟨(some 26), none, (.faddr 0 (.t 11))⟩,
      ⟨(some 27), none, (.load false 1 (.t 26))⟩,
      ⟨(some 28), none, (.call (.t 25) [(.t 27)])⟩])
    (.seq (.ops [⟨(some 29), none, (.faddr 2 (.t 11))⟩,
      ⟨(some 30), none, (.load false 1 (.t 29))⟩,
      ⟨(some 31), none, (.call (.c (.fn (.func 33) [] [])) [(.t 7), (.t 30)])⟩])
    (.ops [⟨(some 32), none, (.faddr 1 (.t 11))⟩,
      ⟨(some 33), none, (.load false 1 (.t 32))⟩,
      ⟨none, none, (.store 1 (.t 8) (.t 33))⟩])))))
    (.ops [⟨(some 34), none, (.bin .int .add (.t 21) (.c (.v (.int .i64 1))))⟩,
      ⟨(some 21), none, (.mv (.t 34))⟩])))))))
    (.seq (.ops [⟨(some 35), none, (.mv (.t 9))⟩,
      ⟨(some 36), none, (.load false 1 (.t 2))⟩,
      ⟨(some 37), none, (.len .str (.t 36))⟩,
      ⟨(some 38), none, (.call (.t 35) [(.t 37)])⟩])
    (.seq (.ops [⟨(some 39), none, (.call (.c (.fn (.func 34) [] [])) [(.t 7)])⟩,
      ⟨(some 4), none, (.mv (.t 39))⟩,
      ⟨(some 5), none, (.mv (.c (.v (.int .i64 0))))⟩])
    .ret))))))))⟩
theorem L11_ok : lowFn Try.prog Try.f11 [⟨4, 0, .imm⟩] = some L11 := by kernel_rfl

/-- assessor_assessorref01.Difference -/
def L12 : LFn := ⟨74, [(.cell 4 true 3)], (.seq (.ops [⟨(some 4), none, (.alloc [(.v (.int .i64 0)), (.v (.int .i64 0)), (.v (.string (mkS [])))])⟩])
    (.seq (.ops [⟨(some 5), none, (.mv (.c (.v (.int .i64 0))))⟩])
    (.seq (.block 0 (.loop (.seq (.seq (.draw [⟨(some 7), none, (.mv (.t 5))⟩,
      ⟨(some 8), none, (.mv (.t 0))⟩,
      ⟨(some 9), none, (.len .str (.t 8))⟩,
      ⟨(some 10), none, (.bin .int .lss (.t 7) (.t 9))⟩,
      ⟨(some 11), none, (.mv (.t 10))⟩,
      ⟨(some 12), (some (11, true)), (.mv (.t 5))⟩,
      ⟨(some 13), (some (11, true)), (.mv (.t 1))⟩,
      ⟨(some 14), (some (11, true)), (.len .str (.t 13))⟩,
      ⟨(some 15), (some (11, true)), (.bin .int .lss (.t 12) (.t 14))⟩,
      ⟨(some 16), none, (.pick (.t 11) (.t 15) (.c (.v (.bool false))))⟩,
      ⟨(some 17), none, (.mv (.t 16))⟩,
      ⟨(some 18), (some (17, true)), (.mv (.t 0))⟩,
      ⟨(some 19), (some (17, true)), (.mv (.t 5))⟩,
      ⟨(some 20), (some (17, true)), (.idx (.t 18) (.t 19))⟩,
      ⟨(some 21), (some (17, true)), (.mv (.t 1))⟩,
      ⟨(some 22), (some (17, true)), (.mv (.t 5))⟩,
      ⟨(some 23), (some (17, true)), (.idx (.t 21) (.t 22))⟩,
      ⟨(some 24), (some (17, true)), (.bin .int .eql (.t 20) (.t 23))⟩,
      ⟨(some 25), none, (.pick (.t 17) (.t 24) (.c (.v (.bool false))))⟩] [])
    (.cond (.t 25)
    .skip
    (.exit 0)))
    (.block 1 (.ops [⟨(some 26), none, (.mv (.t 5))⟩,
      ⟨(some 27), none, (.bin .int .add (.t 26) (.c (.v (.int .i64 1))))⟩,
      ⟨(some 5), none, (.mv (.t 27))⟩])))))
    (.seq (.ops [⟨(some 6), none, (.mv (.c (.v (.int .i64 0))))⟩])
    (.seq (.block 2 (.loop (.seq (.seq (.draw [⟨(some 28), none, (.mv (.t 6))⟩,
      ⟨(some 29), none, (.mv (.t 0))⟩,
      ⟨(some 30), none, (.len .str (.t 29))⟩,
      ⟨(some 31), none, (.mv (.t 5))⟩,
      ⟨(some 32), none, (.bin .int .sub (.t 30) (.t 31))⟩,
      ⟨(some 33), none, (.bin .int .lss (.t 28) (.t 32))⟩,
      ⟨(some 34), none, (.mv (.t 33))⟩,
      ⟨(some 35), (some (34, true)), (.mv (.t 6))⟩,
      ⟨(some 36), (some (34, true)), (.mv (.t 1))⟩,
      ⟨(some 37), (some (34, true)), (.len .str (.t 36))⟩,
      ⟨(some 38), (some (34, true)), (.mv (.t 5))⟩,
      ⟨(some 39), (some (34, true)), (.bin .int .sub (.t 37) (.t 38))⟩,
      ⟨(some 40), (some (34, true)), (.bin .int .lss (.t 35) (.t 39))⟩,
      ⟨(some 41), none, (.pick (.t 34) (.t 40) (.c (.v (.bool false))))⟩,
      ⟨(some 42), none, (.mv (.t 41))⟩,
      ⟨(some 43), (some (42, true)), (.mv (.t 0))⟩,
      ⟨(some 44), (some (42, true)), (.mv (.t 0))⟩,
      ⟨(some 45), (some (42, true)), (.len .str (.t 44))⟩,
      ⟨(some 46), (some (42, true)), (.bin .int .sub (.t 45) (.c (.v (.int .i64 1))))⟩,
      ⟨(some 47), (some (42, true)), (.mv (.t 6))⟩,
      ⟨(some 48), (some (42, true)), (.bin .int .sub (.t 46) (.t 47))⟩,
      ⟨(some 49), (some (42, true)), (.idx (.t 43) (.t 48))⟩,
      ⟨(some 50), (some (42, true)), (.mv (.t 1))⟩,
      ⟨(some 51), (some (42, true)), (.mv (.t 1))⟩,
      ⟨(some 52), (some (42, true)), (.len .str (.t 51))⟩,
      ⟨(some 53), (some (42, true)), (.bin .int .sub (.t 52) (.c (.v (.int .i64 1))))⟩,
      ⟨(some 54), (some (42, true)), (.mv (.t 6))⟩,
      ⟨(some 55), (some (42, true)), (.bin .int .sub (.t 53) (.t 54))⟩,
      ⟨(some 56), (some (42, true)), (.idx (.t 50) (.t 55))⟩,
      ⟨(some 57), (some (42, true)), (.bin .int .eql (.t 49) (.t 56))⟩,
      ⟨(some 58), none, (.pick (.t 42) (.t 57) (.c (.v (.bool false))))⟩] [])
    (.cond (.t 58)
    .skip
    (.exit 2)))
    (.block 3 (.ops [⟨(some 59), none, (.mv (.t 6))⟩,
      ⟨(some 60), none, (.bin .int .add (.t 59) (.c (.v (.int .i64 1))))⟩,
      ⟨(some 6), none, (.mv (.t 60))⟩])))))
    (.seq (.ops [⟨(some 61), none, (.mv (.t 5))⟩,
      ⟨(some 62), none, (.mv (.t 0))⟩,
      ⟨(some 63), none, (.len .str (.t 62))⟩,
      ⟨(some 64), none, (.mv (.t 6))⟩,
      ⟨(some 65), none, (.bin .int .sub (.t 63) (.t 64))⟩,
      ⟨(some 66), none, (.mv (.t 1))⟩,
      ⟨(some 67), none, (.mv (.t 5))⟩,
      ⟨(some 68), none, (.mv (.t 1))⟩,
      ⟨(some 69), none, (.len .str (.t 68))⟩,
      ⟨(some 70), none, (.mv (.t 6))⟩,
      ⟨(some 71), none, (.bin .int .sub (.t 69) (.t 70))⟩,
      ⟨(some 72), none, (.slice .str 1 (.t 66) (some (.t 67)) (some (.t 71)))⟩,
      ⟨(some 73), none, (.build [(.v (.int .i64 0)), (.v (.int .i64 0)), (.v (.string (mkS [])))] [(0, (1, (.t 61))), (1, (1, (.t 65))), (2, (1, (.t 72)))])⟩,
      ⟨none, none, (.store 3 (.t 4) (.t 73))⟩])
    .ret))))))⟩
theorem L12_ok : lowFn Try.prog Try.f12 [] = some L12 := by kernel_rfl

/-- assessor_assessorref01.Few -/
def L13 : LFn := ⟨20, [(.tmp 2)], (.seq (.ops [⟨(some 2), none, (.mv (.c (.v (.bool false))))⟩])
    (.seq (.seq (.ops [⟨(some 3), none, (.mv (.c (.v (.int .i64 0))))⟩])
    (.block 0 (.loop (.seq (.seq (.ops [⟨(some 4), none, (.mv (.t 3))⟩,
      ⟨(some 5), none, (.mv (.t 0))⟩,
      ⟨(some 6), none, (.len .slc (.t 5))⟩,
      ⟨(some 7), none, (.bin .int .lss (.t 4) (.t 6))⟩])
    (.cond (.t 7)
    .skip
    (.exit 0)))
    (.seq (.block 1 (.seq (.ops [⟨(some 10), none, (.mv (.t 0))⟩,
      ⟨(some 11), none, (.mv (.t 3))⟩,
      ⟨(some 12), none, (.iaddr 3 (.t 10) (.t 11))⟩,
      ⟨(some 13), none, (.faddr 2 (.t 12))⟩,
      ⟨(some 14), none, (.load false 1 (.t 13))⟩,
      ⟨(some 15), none, (.len .str (.t 14))⟩,
      ⟨(some 16), none, (.bin .int .gtr (.t 15) (.c (.v (.int .i64 60))))⟩])
    (.cond (.t 16)
    (.seq (.ops [⟨(some 2), none, (.mv (.c (.v (.bool false))))⟩])
    .ret)
    .skip)))
    (.ops [⟨(some 8), none, (.mv (.t 3))⟩,
      ⟨(some 9), none, (.bin .int .add (.t 8) (.c (.v (.int .i64 1))))⟩,
      ⟨(some 3), none, (.mv (.t 9))⟩]))))))
    (.seq (.ops [⟨(some 17), none, (.mv (.t 0))⟩,
      ⟨(some 18), none, (.len .slc (.t 17))⟩,
      ⟨(some 19), none, (.bin .int .leq (.t 18) (.c (.v (.int .i64 10))))⟩,
      ⟨(some 2), none, (.mv (.t 19))⟩])
    .ret)))⟩
theorem L13_ok : lowFn Try.prog Try.f13 [] = some L13 := by kernel_rfl

/-- assessor_text.Move -/
def L14 : LFn := ⟨90, [(.tmp 4)], (.seq (.ops [⟨(some 4), none, (.mv (.c (.v (.int .i64 0))))⟩])
    (.seq (.seq (.ops [⟨(some 11), none, (.mv (.t 1))⟩,
      ⟨(some 12), none, (.bin .int .lss (.t 11) (.c (.v (.int .i64 0))))⟩,
      ⟨(some 13), none, (.mv (.t 12))⟩,
      ⟨(some 14), (some (13, false)), (.mv (.t 1))⟩,
      ⟨(some 15), (some (13, false)), (.bin .int .gtr (.t 14) (.c (.v (.int .i64 16384))))⟩,
      ⟨(some 16), none, (.pick (.t 13) (.c (.v (.bool true))) (.t 15))⟩])
    (.cond (.t 16)
    (.seq (.ops [⟨(some 4), none, (.mv (.c (.v (.int .i64 (-1)))))⟩])
    .ret)
    .skip))
    (.seq (.ops [⟨(some 5), none, (.mv (.c (.v (.int .i64 0))))⟩])
    (.seq (.seq (.ops [⟨(some 17), none, (.mv (.t 0))⟩,
      ⟨(some 18), none, (.len .slc (.t 17))⟩,
      ⟨(some 19), none, (.mv (.c (.v (.int .i64 0))))⟩])
    (.block 0 (.loop (.seq (.ops [⟨(some 20), none, (.bin .int .lss (.t 19) (.t 18))⟩])
    (.seq (.cond (.t 20)
    .skip
    (.exit 0))
    (.seq (.block 1 (.seq (.ops [⟨(some 21), none, (.iaddr 3 (.t 17) (.t 19))⟩,
      ⟨(some 22), none, (.load true 3 (.t 21))⟩,
      ⟨(some 7), none, (.alloc [(.v (.int .i64 0)), (.v (.int .i64 0)), (.v (.string (mkS [])))])⟩,
      ⟨none, none, (.store 3 (.t 7) (.t 22))⟩])
    (.seq (.seq (.ops [⟨(some 23), none, (.faddr 0 (.t 7))⟩,
      ⟨(some 24), none, (.load false 1 (.t 23))⟩,
      ⟨(some 25), none, (.mv (.t 5))⟩,
      ⟨(some 26), none, (.bin .int .lss (.t 24) (.t 25))⟩,
      ⟨(some 27), none, (.mv (.t 26))⟩,
      ⟨(some 28), (some (27, false)), (.faddr 1 (.t 7))⟩,
      ⟨(some 29), (some (27, false)), (.load false 1 (.t 28))⟩,
      ⟨(some 30), (some (27, false)), (.faddr 0 (.t 7))⟩,
      ⟨(some 31), (some (27, false)), (.load false 1 (.t 30))⟩,
      ⟨(some 32), (some (27, false)), (.bin .int .lss (.t 29) (.t 31))⟩,
      ⟨(some 33), none, (.pick (.t 27) (.c (.v (.bool true))) (.t 32))⟩,
      ⟨(some 34), none, (.mv (.t 33))⟩,
      ⟨(some 35), (some (34, false)), (.faddr 1 (.t 7))⟩,
      ⟨(some 36), (some (34, false)), (.load false 1 (.t 35))⟩,
      ⟨(some 37), (some (34, false)), (.bin .int .gtr (.t 36) (.c (.v (.int .i64 16384))))⟩,
      ⟨(some 38), none, (.pick (.t 34) (.c (.v (.bool true))) (.t 37))⟩])
    (.cond (.t 38)
    (.seq (.ops [⟨(some 4), none, (.mv (.c (.v (.int .i64 (-1)))))⟩])
    .ret)
    .skip))
    (.ops [⟨(some 39), none, (.faddr 1 (.t 7))⟩,
      ⟨(some 40), none, (.load false 1 (.t 39))⟩,
      ⟨(some 5), none, (.mv (.t 40))⟩]))))
    (.ops [⟨(some 41), none, (.bin .int .add (.t 19) (.c (.v (.int .i64 1))))⟩,
      ⟨(some 19), none, (.mv (.t 41))⟩])))))))
    (.seq (.ops [⟨(some 8), none, (.mv (.c (.v (.int .i64 0))))⟩])
    (.seq (.seq (.ops [⟨(some 42), none, (.mv (.t 0))⟩,
      ⟨(some 43), none, (.len .slc (.t 42))⟩,
      ⟨(some 44), none, (.mv (.c (.v (.int .i64 0))))⟩])
    (.block 2 (.loop (.seq (.ops [⟨(some 45), none, (.bin .int .lss (.t 44) (.t 43))⟩])
    (.seq (.cond (.t 45)
    .skip
    (.exit 2))
    (.seq (.block 3 (.seq (.ops [⟨(some 46), none, (.iaddr 3 (.t 42) (.t 44))⟩,
      ⟨(some 47), none, (.load true 3 (.t 46))⟩,
      ⟨(some 10), none, (.alloc [(.v (.int .i64 0)), (.v (.int .i64 0)), (.v (.string (mkS [])))])⟩,
      ⟨none, none, (.store 3 (.t 10) (.t 47))⟩])
    (.seq (.seq (.ops [⟨(some 48), none, (.faddr 0 (.t 10))⟩,
      ⟨(some 49), none, (.load false 1 (.t 48))⟩,
      ⟨(some 50), none, (.mv (.t 1))⟩,
      ⟨(some 51), none, (.bin .int .leq (.t 49) (.t 50))⟩,
      ⟨(some 52), none, (.mv (.t 51))⟩,
      ⟨(some 53), (some (52, true)), (.mv (.t 1))⟩,
      ⟨(some 54), (some (52, true)), (.faddr 1 (.t 10))⟩,
      ⟨(some 55), (some (52, true)), (.load false 1 (.t 54))⟩,
      ⟨(some 56), (some (52, true)), (.bin .int .lss (.t 53) (.t 55))⟩,
      ⟨(some 57), none, (.pick (.t 52) (.t 56) (.c (.v (.bool false))))⟩])
    (.cond (.t 57)
    (.seq (.ops [⟨(some 58), none, (.faddr 0 (.t 10))⟩,
      ⟨(some 59), none, (.load false 1 (.t 58))⟩,
      ⟨(some 60), none, (.mv (.t 8))⟩,
      ⟨(some 61), none, (.bin .int .add (.t 59) (.t 60))⟩,
      ⟨(some 62), none, (.mv (.t 1))⟩,
      ⟨(some 63), none, (.faddr 0 (.t 10))⟩,
      ⟨(some 64), none, (.load false 1 (.t 63))⟩,
      ⟨(some 65), none, (.bin .int .sub (.t 62) (.t 64))⟩,
      ⟨(some 66), none, (.faddr 2 (.t 10))⟩,
      ⟨(some 67), none, (.load false 1 (.t 66))⟩,
      ⟨(some 68), none, (.len .str (.t 67))⟩,
      ⟨(some 69), none, (.min2 (.t 65) (.t 68))⟩,
      ⟨(some 70), none, (.bin .int .add (.t 61) (.t 69))⟩,
      ⟨(some 4), none, (.mv (.t 70))⟩])
    .ret)
    .skip))
    (.seq (.ops [⟨(some 71), none, (.faddr 1 (.t 10))⟩,
      ⟨(some 72), none, (.load false 1 (.t 71))⟩,
      ⟨(some 73), none, (.mv (.t 1))⟩,
      ⟨(some 74), none, (.bin .int .leq (.t 72) (.t 73))⟩])
    (.cond (.t 74)
    (.ops [⟨(some 75), none, (.mv (.t 8))⟩,
      ⟨(some 76), none, (.faddr 2 (.t 10))⟩,
      ⟨(some 77), none, (.load false 1 (.t 76))⟩,
      ⟨(some 78), none, (.len .str (.t 77))⟩,
      ⟨(some 79), none, (.faddr 1 (.t 10))⟩,
      ⟨(some 80), none, (.load false 1 (.t 79))⟩,
      ⟨(some 81), none, (.faddr 0 (.t 10))⟩,
      ⟨(some 82), none, (.load false 1 (.t 81))⟩,
      ⟨(some 83), none, (.bin .int .sub (.t 80) (.t 82))⟩,
      ⟨(some 84), none, (.bin .int .sub (.t 78) (.t 83))⟩,
      ⟨(some 85), none, (.bin .int .add (.t 75) (.t 84))⟩,
      ⟨(some 8), none, (.mv (.t 85))⟩])
    .skip)))))
    (.ops [⟨(some 86), none, (.bin .int .add (.t 44) (.c (.v (.int .i64 1))))⟩,
      ⟨(some 44), none, (.mv (.t 86))⟩])))))))
    (.seq (.ops [⟨(some 87), none, (.mv (.t 1))⟩,
      ⟨(some 88), none, (.mv (.t 8))⟩,
      ⟨(some 89), none, (.bin .int .add (.t 87) (.t 88))⟩,
      ⟨(some 4), none, (.mv (.t 89))⟩])
    .ret)))))))⟩
theorem L14_ok : lowFn Try.prog Try.f14 [] = some L14 := by kernel_rfl

/-- assessor_assessorref01.Apply -/
def L15 : LFn := ⟨48, [(.tmp 4), (.tmp 5)], (.seq (.ops [⟨(some 4), none, (.mv (.c (.v (.string (mkS [])))))⟩,
      ⟨(some 5), none, (.mv (.c (.v (.int .i64 0))))⟩])
    (.seq (.seq (.ops [⟨(some 9), none, (.mv (.t 0))⟩,
      ⟨(some 10), none, (.mv (.t 1))⟩,
      ⟨(some 11), none, (.call (.c (.fn (.func 35) [] [])) [(.t 9), (.t 10)])⟩,
      ⟨(some 6), none, (.mv (.t 11))⟩])
    (.seq (.ops [⟨(some 12), none, (.mv (.t 6))⟩,
      ⟨(some 13), none, (.bin .int .neq (.t 12) (.c (.v (.int .i64 0))))⟩])
    (.cond (.t 13)
    (.seq (.ops [⟨(some 14), none, (.mv (.t 6))⟩,
      ⟨(some 4), none, (.mv (.c (.v (.string (mkS [])))))⟩,
      ⟨(some 5), none, (.mv (.t 14))⟩])
    .ret)
    .skip)))
    (.seq (.ops [⟨(some 15), none, (.mv (.t 0))⟩,
      ⟨(some 7), none, (.mv (.t 15))⟩])
    (.seq (.seq (.ops [⟨(some 16), none, (.mv (.t 1))⟩,
      ⟨(some 17), none, (.len .slc (.t 16))⟩,
      ⟨(some 18), none, (.bin .int .sub (.t 17) (.c (.v (.int .i64 1))))⟩,
      ⟨(some 8), none, (.mv (.t 18))⟩])
    (.block 0 (.loop (.seq (.seq (.ops [⟨(some 19), none, (.mv (.t 8))⟩,
      ⟨(some 20), none, (.bin .int .geq (.t 19) (.c (.v (.int .i64 0))))⟩])
    (.cond (.t 20)
    .skip
    (.exit 0)))
    (.seq (.block 1 (.draw [⟨(some 23), none, (.mv (.t 7))⟩,
      ⟨(some 24), none, (.mv (.t 1))⟩,
      ⟨(some 25), none, (.mv (.t 8))⟩,
      ⟨(some 26), none, (.iaddr 3 (.t 24) (.t 25))⟩,
      ⟨(some 27), none, (.faddr 0 (.t 26))⟩,
      ⟨(some 28), none, (.load false 1 (.t 27))⟩,
      ⟨(some 29), none, (.slice .str 1 (.t 23) none (some (.t 28)))⟩,
      ⟨(some 30), none, (.mv (.t 1))⟩,
      ⟨(some 31), none, (.mv (.t 8))⟩,
      ⟨(some 32), none, (.iaddr 3 (.t 30) (.t 31))⟩,
      ⟨(some 33), none, (.faddr 2 (.t 32))⟩,
      ⟨(some 34), none, (.load false 1 (.t 33))⟩,
      ⟨(some 35), none, (.bin .str .add (.t 29) (.t 34))⟩,
      ⟨(some 36), none, (.mv (.t 7))⟩,
      ⟨(some 37), none, (.mv (.t 1))⟩,
      ⟨(some 38), none, (.mv (.t 8))⟩,
      ⟨(some 39), none, (.iaddr 3 (.t 37) (.t 38))⟩,
      ⟨(some 40), none, (.faddr 1 (.t 39))⟩,
      ⟨(some 41), none, (.load false 1 (.t 40))⟩,
      ⟨(some 42), none, (.slice .str 1 (.t 36) (some (.t 41)) none)⟩,
      ⟨(some 43), none, (.bin .str .add (.t 35) (.t 42))⟩,
      ⟨(some 7), none, (.mv (.t 43))⟩] []))
    (.ops [⟨(some 21), none, (.mv (.t 8))⟩,
      ⟨(some 22), none, (.bin .int .sub (.t 21) (.c (.v (.int .i64 1))))⟩,
      ⟨(some 8), none, (.mv (.t 22))⟩]))))))
    (.seq (.seq (.ops [⟨(some 44), none, (.mv (.t 7))⟩,
      ⟨(some 45), none, (.len .str (.t 44))⟩,
      ⟨(some 46), none, (.bin .int .gtr (.t 45) (.c (.v (.int .i64 16384))))⟩])
    (.cond (.t 46)
    (.seq (.ops [⟨(some 4), none, (.mv (.c (.v (.string (mkS [])))))⟩,
      ⟨(some 5), none, (.mv (.c (.v (.int .i64 8))))⟩])
    .ret)
    .skip))
    (.seq (.ops [⟨(some 47), none, (.mv (.t 7))⟩,
      ⟨(some 4), none, (.mv (.t 47))⟩,
      ⟨(some 5), none, (.mv (.c (.v (.int .i64 0))))⟩])
    .ret))))))⟩
theorem L15_ok : lowFn Try.prog Try.f15 [] = some L15 := by kernel_rfl

/-- assessor_text.Invert -/
def L16 : LFn := ⟨58, [(.tmp 4), (.tmp 5)], (.seq (.ops [⟨(some 4), none, (.mv (.c (.v (.slice none 0 0))))⟩,
      ⟨(some 5), none, (.mv (.c (.v (.int .i64 0))))⟩])
    (.seq (.seq (.ops [⟨(some 11), none, (.mv (.t 0))⟩,
      ⟨(some 12), none, (.mv (.t 1))⟩,
      ⟨(some 13), none, (.call (.c (.fn (.func 31) [] [])) [(.t 11), (.t 12)])⟩,
      ⟨(some 6), none, (.mv (.t 13))⟩])
    (.seq (.ops [⟨(some 14), none, (.mv (.t 6))⟩,
      ⟨(some 15), none, (.bin .int .neq (.t 14) (.c (.v (.int .i64 0))))⟩])
    (.cond (.t 15)
    (.seq (.ops [⟨(some 16), none, (.mv (.t 6))⟩,
      ⟨(some 4), none, (.mv (.c (.v (.slice none 0 0))))⟩,
      ⟨(some 5), none, (.mv (.t 16))⟩])
    .ret)
    .skip)))
    (.seq (.ops [⟨(some 7), none, (.mv (.c (.v (.slice none 0 0))))⟩,
      ⟨(some 7), none, (.own 3 (.t 7))⟩])
    (.seq (.ops [⟨(some 8), none, (.mv (.c (.v (.int .i64 0))))⟩])
    (.seq (.seq (.ops [⟨(some 17), none, (.mv (.t 1))⟩,
      ⟨(some 18), none, (.len .slc (.t 17))⟩,
      ⟨(some 19), none, (.mv (.c (.v (.int .i64 0))))⟩])
    (.block 0 (.loop (.seq (.ops [⟨(some 20), none, (.bin .int .lss (.t 19) (.t 18))⟩])
    (.seq (.cond (.t 20)
    .skip
    (.exit 0))
    (.seq (.block 1 (.seq (.ops [⟨(some 21), none, (.iaddr 3 (.t 17) (.t 19))⟩,
      ⟨(some 22), none, (.load true 3 (.t 21))⟩,
      ⟨(some 10), none, (.alloc [(.v (.int .i64 0)), (.v (.int .i64 0)), (.v (.string (mkS [])))])⟩,
      ⟨none, none, (.store 3 (.t 10) (.t 22))⟩])
    (.seq (.draw [⟨(some 23), none, (.mv (.t 7))⟩,
      ⟨(some 24), none, (.faddr 0 (.t 10))⟩,
      ⟨(some 25), none, (.load false 1 (.t 24))⟩,
      ⟨(some 26), none, (.mv (.t 8))⟩,
      ⟨(some 27), none, (.bin .int .add (.t 25) (.t 26))⟩,
      ⟨(some 28), none, (.faddr 0 (.t 10))⟩,
      ⟨(some 29), none, (.load false 1 (.t 28))⟩,
      ⟨(some 30), none, (.mv (.t 8))⟩,
      ⟨(some 31), none, (.bin .int .add (.t 29) (.t 30))⟩,
      ⟨(some 32), none, (.faddr 2 (.t 10))⟩,
      ⟨(some 33), none, (.load false 1 (.t 32))⟩,
      ⟨(some 34), none, (.len .str (.t 33))⟩,
      ⟨(some 35), none, (.bin .int .add (.t 31) (.t 34))⟩,
      ⟨(some 36), none, (.mv (.t 0))⟩,
      ⟨(some 37), none, (.faddr 0 (.t 10))⟩,
      ⟨(some 38), none, (.load false 1 (.t 37))⟩,
      ⟨(some 39), none, (.faddr 1 (.t 10))⟩,
      ⟨(some 40), none, (.load false 1 (.t 39))⟩,
      ⟨(some 41), none, (.slice .str 1 (.t 36) (some (.t 38)) (some (.t 40)))⟩,
      ⟨(some 42), none, (.build [(.v (.int .i64 0)), (.v (.int .i64 0)), (.v (.string (mkS [])))] [(0, (1, (.t 27))), (1, (1, (.t 35))), (2, (1, (.t 41)))])⟩,
      ⟨(some 43), none, (.bsl true 3 1 [(.v (.int .i64 0)), (.v (.int .i64 0)), (.v (.string (mkS [])))] [(0, (.t 42))])⟩] [⟨(some 44), none, (.append 3 32 (.t 23) (.t 43))⟩,
      ⟨(some 7), none, (.mv (.t 44))⟩])
    (.ops [⟨(some 45), none, (.mv (.t 8))⟩,
      ⟨(some 46), none, (.faddr 2 (.t 10))⟩,
      ⟨(some 47), none, (.load false 1 (.t 46))⟩,
      ⟨(some 48), none, (.len .str (.t 47))⟩,
      ⟨(some 49), none, (.faddr 1 (.t 10))⟩,
      ⟨(some 50), none, (.load false 1 (.t 49))⟩,
      ⟨(some 51), none, (.faddr 0 (.t 10))⟩,
      ⟨(some 52), none, (.load false 1 (.t 51))⟩,
      ⟨(some 53), none, (.bin .int .sub (.t 50) (.t 52))⟩,
      ⟨(some 54), none, (.bin .int .sub (.t 48) (.t 53))⟩,
      ⟨(some 55), none, (.bin .int .add (.t 45) (.t 54))⟩,
      ⟨(some 8), none, (.mv (.t 55))⟩]))))
    (.ops [⟨(some 56), none, (.bin .int .add (.t 19) (.c (.v (.int .i64 1))))⟩,
      ⟨(some 19), none, (.mv (.t 56))⟩])))))))
    (.seq (.ops [⟨(some 57), none, (.mv (.t 7))⟩,
      ⟨(some 4), none, (.mv (.t 57))⟩,
      ⟨(some 5), none, (.mv (.c (.v (.int .i64 0))))⟩,
      ⟨(some 4), none, (.frz (.t 4))⟩])
    .ret))))))⟩
theorem L16_ok : lowFn Try.prog Try.f16 [⟨9, 20, .imm⟩, ⟨12, 3, (.pre 4 (.frz (.t 4)))⟩, ⟨4, 1, (.pre 7 (.own 3 (.t 7)))⟩, ⟨9, 21, .tail⟩] = some L16 := by kernel_rfl

/-- assessor_assessorref01.Invert -/
def L17 : LFn := ⟨81, [(.tmp 4), (.tmp 5)], (.seq (.ops [⟨(some 4), none, (.mv (.c (.v (.slice none 0 0))))⟩,
      ⟨(some 5), none, (.mv (.c (.v (.int .i64 0))))⟩])
    (.seq (.seq (.ops [⟨(some 13), none, (.mv (.t 0))⟩,
      ⟨(some 14), none, (.mv (.t 1))⟩,
      ⟨(some 15), none, (.call (.c (.fn (.func 15) [] [])) [(.t 13), (.t 14)])⟩,
      ⟨(some 12), none, (.mv (.t 15))⟩,
      ⟨(some 16), none, (.ext (.t 12) 0)⟩,
      ⟨(some 17), none, (.ext (.t 12) 1)⟩,
      ⟨(some 6), none, (.mv (.t 16))⟩,
      ⟨(some 7), none, (.mv (.t 17))⟩])
    (.seq (.ops [⟨(some 18), none, (.mv (.t 7))⟩,
      ⟨(some 19), none, (.bin .int .neq (.t 18) (.c (.v (.int .i64 0))))⟩])
    (.cond (.t 19)
    (.seq (.ops [⟨(some 20), none, (.mv (.t 7))⟩,
      ⟨(some 4), none, (.mv (.c (.v (.slice none 0 0))))⟩,
      ⟨(some 5), none, (.mv (.t 20))⟩])
    .ret)
    .skip)))
    (.seq (.ops [⟨(some 21), none, (.bsl false 3 0 [(.v (.int .i64 0)), (.v (.int .i64 0)), (.v (.string (mkS [])))] [])⟩,
      ⟨(some 8), none, (.mv (.t 21))⟩])
    (.seq (.ops [⟨(some 9), none, (.mv (.c (.v (.int .i64 0))))⟩])
    (.seq (.seq (.ops [⟨(some 10), none, (.mv (.c (.v (.int .i64 0))))⟩])
    (.block 0 (.loop (.seq (.seq (.ops [⟨(some 22), none, (.mv (.t 10))⟩,
      ⟨(some 23), none, (.mv (.t 1))⟩,
      ⟨(some 24), none, (.len .slc (.t 23))⟩,
      ⟨(some 25), none, (.bin .int .lss (.t 22) (.t 24))⟩])
    (.cond (.t 25)
    .skip
    (.exit 0)))
    (.seq (.block 1 (.seq (.ops [⟨(some 28), none, (.mv (.t 1))⟩,
      ⟨(some 29), none, (.mv (.t 10))⟩,
      ⟨(some 30), none, (.iaddr 3 (.t 28) (.t 29))⟩,
      ⟨(some 31), none, (.faddr 0 (.t 30))⟩,
      ⟨(some 32), none, (.load false 1 (.t 31))⟩,
      ⟨(some 33), none, (.mv (.t 9))⟩,
      ⟨(some 34), none, (.bin .int .add (.t 32) (.t 33))⟩,
      ⟨(some 11), none, (.mv (.t 34))⟩])
    (.seq (.draw [⟨(some 35), none, (.mv (.t 8))⟩,
      ⟨(some 36), none, (.mv (.t 11))⟩,
      ⟨(some 37), none, (.mv (.t 11))⟩,
      ⟨(some 38), none, (.mv (.t 1))⟩,
      ⟨(some 39), none, (.mv (.t 10))⟩,
      ⟨(some 40), none, (.iaddr 3 (.t 38) (.t 39))⟩,
      ⟨(some 41), none, (.faddr 2 (.t 40))⟩,
      ⟨(some 42), none, (.load false 1 (.t 41))⟩,
      ⟨(some 43), none, (.len .str (.t 42))⟩,
      ⟨(some 44), none, (.bin .int .add (.t 37) (.t 43))⟩,
      ⟨(some 45), none, (.mv (.t 0))⟩,
      ⟨(some 46), none, (.mv (.t 1))⟩,
      ⟨(some 47), none, (.mv (.t 10))⟩,
      ⟨(some 48), none, (.iaddr 3 (.t 46) (.t 47))⟩,
      ⟨(some 49), none, (.faddr 0 (.t 48))⟩,
      ⟨(some 50), none, (.load false 1 (.t 49))⟩,
      ⟨(some 51), none, (.mv (.t 1))⟩,
      ⟨(some 52), none, (.mv (.t 10))⟩,
      ⟨(some 53), none, (.iaddr 3 (.t 51) (.t 52))⟩,
      ⟨(some 54), none, (.faddr 1 (.t 53))⟩,
      ⟨(some 55), none, (.load false 1 (.t 54))⟩,
      ⟨(some 56), none, (.slice .str 1 (.t 45) (some (.t 50)) (some (.t 55)))⟩,
      ⟨(some 57), none, (.build [(.v (.int .i64 0)), (.v (.int .i64 0)), (.v (.string (mkS [])))] [(0, (1, (.t 36))), (1, (1, (.t 44))), (2, (1, (.t 56)))])⟩,
      ⟨(some 58), none, (.bsl true 3 1 [(.v (.int .i64 0)), (.v (.int .i64 0)), (.v (.string (mkS [])))] [(0, (.t 57))])⟩] [⟨(some 59), none, (.append 3 32 (.t 35) (.t 58))⟩,
      ⟨(some 8), none, (.mv (.t 59))⟩])
    (.draw [⟨(some 60), none, (.mv (.t 9))⟩,
      ⟨(some 61), none, (.mv (.t 1))⟩,
      ⟨(some 62), none, (.mv (.t 10))⟩,
      ⟨(some 63), none, (.iaddr 3 (.t 61) (.t 62))⟩,
      ⟨(some 64), none, (.faddr 2 (.t 63))⟩,
      ⟨(some 65), none, (.load false 1 (.t 64))⟩,
      ⟨(some 66), none, (.len .str (.t 65))⟩,
      ⟨(some 67), none, (.bin .int .add (.t 60) (.t 66))⟩,
      ⟨(some 68), none, (.mv (.t 1))⟩,
      ⟨(some 69), none, (.mv (.t 10))⟩,
      ⟨(some 70), none, (.iaddr 3 (.t 68) (.t 69))⟩,
      ⟨(some 71), none, (.faddr 1 (.t 70))⟩,
      ⟨(some 72), none, (.load false 1 (.t 71))⟩,
      ⟨(some 73), none, (.mv (.t 1))⟩,
      ⟨(some 74), none, (.mv (.t 10))⟩,
      ⟨(some 75), none, (.iaddr 3 (.t 73) (.t 74))⟩,
      ⟨(some 76), none, (.faddr 0 (.t 75))⟩,
      ⟨(some 77), none, (.load false 1 (.t 76))⟩,
      ⟨(some 78), none, (.bin .int .sub (.t 72) (.t 77))⟩,
      ⟨(some 79), none, (.bin .int .sub (.t 67) (.t 78))⟩,
      ⟨(some 9), none, (.mv (.t 79))⟩] []))))
    (.ops [⟨(some 26), none, (.mv (.t 10))⟩,
      ⟨(some 27), none, (.bin .int .add (.t 26) (.c (.v (.int .i64 1))))⟩,
      ⟨(some 10), none, (.mv (.t 27))⟩]))))))
    (.seq (.ops [⟨(some 80), none, (.mv (.t 8))⟩,
      ⟨(some 4), none, (.mv (.t 80))⟩,
      ⟨(some 5), none, (.mv (.c (.v (.int .i64 0))))⟩,
      ⟨(some 4), none, (.frz (.t 4))⟩])
    .ret))))))⟩
theorem L17_ok : lowFn Try.prog Try.f17 [⟨10, 23, .imm⟩, ⟨12, 3, (.pre 4 (.frz (.t 4)))⟩, ⟨10, 24, .tail⟩] = some L17 := by kernel_rfl

/-- assessor_assessorref01.Same -/
def L18 : LFn := ⟨26, [(.tmp 4)], (.seq (.ops [⟨(some 4), none, (.mv (.c (.v (.bool false))))⟩])
    (.seq (.seq (.ops [⟨(some 6), none, (.mv (.t 0))⟩,
      ⟨(some 7), none, (.len .slc (.t 6))⟩,
      ⟨(some 8), none, (.mv (.t 1))⟩,
      ⟨(some 9), none, (.len .slc (.t 8))⟩,
      ⟨(some 10), none, (.bin .int .neq (.t 7) (.t 9))⟩])
    (.cond (.t 10)
    (.seq (.ops [⟨(some 4), none, (.mv (.c (.v (.bool false))))⟩])
    .ret)
    .skip))
    (.seq (.seq (.ops [⟨(some 5), none, (.mv (.c (.v (.int .i64 0))))⟩])
    (.block 0 (.loop (.seq (.seq (.ops [⟨(some 11), none, (.mv (.t 5))⟩,
      ⟨(some 12), none, (.mv (.t 0))⟩,
      ⟨(some 13), none, (.len .slc (.t 12))⟩,
      ⟨(some 14), none, (.bin .int .lss (.t 11) (.t 13))⟩])
    (.cond (.t 14)
    .skip
    (.exit 0)))
    (.seq (.block 1 (.seq (.draw [⟨(some 17), none, (.mv (.t 0))⟩,
      ⟨(some 18), none, (.mv (.t 5))⟩,
      ⟨(some 19), none, (.iaddr 3 (.t 17) (.t 18))⟩,
      ⟨(some 20), none, (.load true 3 (.t 19))⟩,
      ⟨(some 21), none, (.mv (.t 1))⟩,
      ⟨(some 22), none, (.mv (.t 5))⟩,
      ⟨(some 23), none, (.iaddr 3 (.t 21) (.t 22))⟩,
      ⟨(some 24), none, (.load true 3 (.t 23))⟩,
      ⟨(some 25), none, (.bin (.agg [.int, .int, .str]) .neq (.t 20) (.t 24))⟩] [])
    (.cond (.t 25)
    (.seq (.ops [⟨(some 4), none, (.mv (.c (.v (.bool false))))⟩])
    .ret)
    .skip)))
    (.ops [⟨(some 15), none, (.mv (.t 5))⟩,
      ⟨(some 16), none, (.bin .int .add (.t 15) (.c (.v (.int .i64 1))))⟩,
      ⟨(some 5), none, (.mv (.t 16))⟩]))))))
    (.seq (.ops [⟨(some 4), none, (.mv (.c (.v (.bool true))))⟩])
    .ret))))⟩
theorem L18_ok : lowFn Try.prog Try.f18 [] = some L18 := by kernel_rfl

/-- assessor_assessorref01.Move -/
def L19 : LFn := ⟨128, [(.tmp 4)], (.seq (.ops [⟨(some 4), none, (.mv (.c (.v (.int .i64 0))))⟩])
    (.seq (.seq (.ops [⟨(some 9), none, (.mv (.t 1))⟩,
      ⟨(some 10), none, (.bin .int .lss (.t 9) (.c (.v (.int .i64 0))))⟩,
      ⟨(some 11), none, (.mv (.t 10))⟩,
      ⟨(some 12), (some (11, false)), (.mv (.t 1))⟩,
      ⟨(some 13), (some (11, false)), (.bin .int .gtr (.t 12) (.c (.v (.int .i64 16384))))⟩,
      ⟨(some 14), none, (.pick (.t 11) (.c (.v (.bool true))) (.t 13))⟩])
    (.cond (.t 14)
    (.seq (.ops [⟨(some 4), none, (.mv (.c (.v (.int .i64 (-1)))))⟩])
    .ret)
    .skip))
    (.seq (.ops [⟨(some 5), none, (.mv (.c (.v (.int .i64 0))))⟩])
    (.seq (.seq (.ops [⟨(some 6), none, (.mv (.c (.v (.int .i64 0))))⟩])
    (.block 0 (.loop (.seq (.seq (.ops [⟨(some 15), none, (.mv (.t 6))⟩,
      ⟨(some 16), none, (.mv (.t 0))⟩,
      ⟨(some 17), none, (.len .slc (.t 16))⟩,
      ⟨(some 18), none, (.bin .int .lss (.t 15) (.t 17))⟩])
    (.cond (.t 18)
    .skip
    (.exit 0)))
    (.seq (.block 1 (.seq (.seq (.draw [⟨(some 21), none, (.mv (.t 0))⟩,
      ⟨(some 22), none, (.mv (.t 6))⟩,
      ⟨(some 23), none, (.iaddr 3 (.t 21) (.t 22))⟩,
      ⟨(some 24), none, (.faddr 0 (.t 23))⟩,
      ⟨(some 25), none, (.load false 1 (.t 24))⟩,
      ⟨(some 26), none, (.mv (.t 5))⟩,
      ⟨(some 27), none, (.bin .int .lss (.t 25) (.t 26))⟩,
      ⟨(some 28), none, (.mv (.t 27))⟩,
      ⟨(some 29), (some (28, false)), (.mv (.t 0))⟩,
      ⟨(some 30), (some (28, false)), (.mv (.t 6))⟩,
      ⟨(some 31), (some (28, false)), (.iaddr 3 (.t 29) (.t 30))⟩,
      ⟨(some 32), (some (28, false)), (.faddr 1 (.t 31))⟩,
      ⟨(some 33), (some (28, false)), (.load false 1 (.t 32))⟩,
      ⟨(some 34), (some (28, false)), (.mv (.t 0))⟩,
      ⟨(some 35), (some (28, false)), (.mv (.t 6))⟩,
      ⟨(some 36), (some (28, false)), (.iaddr 3 (.t 34) (.t 35))⟩,
      ⟨(some 37), (some (28, false)), (.faddr 0 (.t 36))⟩,
      ⟨(some 38), (some (28, false)), (.load false 1 (.t 37))⟩,
      ⟨(some 39), (some (28, false)), (.bin .int .lss (.t 33) (.t 38))⟩,
      ⟨(some 40), none, (.pick (.t 28) (.c (.v (.bool true))) (.t 39))⟩,
      ⟨(some 41), none, (.mv (.t 40))⟩,
      ⟨(some 42), (some (41, false)), (.mv (.t 0))⟩,
      ⟨(some 43), (some (41, false)), (.mv (.t 6))⟩,
      ⟨(some 44), (some (41, false)), (.iaddr 3 (.t 42) (.t 43))⟩,
      ⟨(some 45), (some (41, false)), (.faddr 1 (.t 44))⟩,
      ⟨(some 46), (some (41, false)), (.load false 1 (.t 45))⟩,
      ⟨(some 47), (some (41, false)), (.bin .int .gtr (.t 46) (.c (.v (.int .i64 16384))))⟩,
      ⟨(some 48), none, (.pick (.t 41) (.c (.v (.bool true))) (.t 47))⟩] [])
    (.cond (.t 48)
    (.seq (.ops [⟨(some 4), none, (.mv (.c (.v (.int .i64 (-1)))))⟩])
    .ret)
    .skip))
    (.ops [⟨(some 49), none, (.mv (.t 0))⟩,
      ⟨(some 50), none, (.mv (.t 6))⟩,
      ⟨(some 51), none, (.iaddr 3 (.t 49) (.t 50))⟩,
      ⟨(some 52), none, (.faddr 1 (.t 51))⟩,
      ⟨(some 53), none, (.load false 1 (.t 52))⟩,
      ⟨(some 5), none, (.mv (.t 53))⟩])))
    (.ops [⟨(some 19), none, (.mv (.t 6))⟩,
      ⟨(some 20), none, (.bin .int .add (.t 19) (.c (.v (.int .i64 1))))⟩,
      ⟨(some 6), none, (.mv (.t 20))⟩]))))))
    (.seq (.ops [⟨(some 7), none, (.mv (.c (.v (.int .i64 0))))⟩])
    (.seq (.seq (.ops [⟨(some 8), none, (.mv (.c (.v (.int .i64 0))))⟩])
    (.block 2 (.loop (.seq (.seq (.ops [⟨(some 54), none, (.mv (.t 8))⟩,
      ⟨(some 55), none, (.mv (.t 0))⟩,
      ⟨(some 56), none, (.len .slc (.t 55))⟩,
      ⟨(some 57), none, (.bin .int .lss (.t 54) (.t 56))⟩])
    (.cond (.t 57)
    .skip
    (.exit 2)))
    (.seq (.block 3 (.seq (.seq (.ops [⟨(some 60), none, (.mv (.t 0))⟩,
      ⟨(some 61), none, (.mv (.t 8))⟩,
      ⟨(some 62), none, (.iaddr 3 (.t 60) (.t 61))⟩,
      ⟨(some 63), none, (.faddr 0 (.t 62))⟩,
      ⟨(some 64), none, (.load false 1 (.t 63))⟩,
      ⟨(some 65), none, (.mv (.t 1))⟩,
      ⟨(some 66), none, (.bin .int .leq (.t 64) (.t 65))⟩,
      ⟨(some 67), none, (.mv (.t 66))⟩,
      ⟨(some 68), (some (67, true)), (.mv (.t 1))⟩,
      ⟨(some 69), (some (67, true)), (.mv (.t 0))⟩,
      ⟨(some 70), (some (67, true)), (.mv (.t 8))⟩,
      ⟨(some 71), (some (67, true)), (.iaddr 3 (.t 69) (.t 70))⟩,
      ⟨(some 72), (some (67, true)), (.faddr 1 (.t 71))⟩,
      ⟨(some 73), (some (67, true)), (.load false 1 (.t 72))⟩,
      ⟨(some 74), (some (67, true)), (.bin .int .lss (.t 68) (.t 73))⟩,
      ⟨(some 75), none, (.pick (.t 67) (.t 74) (.c (.v (.bool false))))⟩])
    (.cond (.t 75)
    (.seq (.draw [⟨(some 76), none, (.mv (.t 0))⟩,
      ⟨(some 77), none, (.mv (.t 8))⟩,
      ⟨(some 78), none, (.iaddr 3 (.t 76) (.t 77))⟩,
      ⟨(some 79), none, (.faddr 0 (.t 78))⟩,
      ⟨(some 80), none, (.load false 1 (.t 79))⟩,
      ⟨(some 81), none, (.mv (.t 7))⟩,
      ⟨(some 82), none, (.bin .int .add (.t 80) (.t 81))⟩,
      ⟨(some 83), none, (.mv (.t 1))⟩,
      ⟨(some 84), none, (.mv (.t 0))⟩,
      ⟨(some 85), none, (.mv (.t 8))⟩,
      ⟨(some 86), none, (.iaddr 3 (.t 84) (.t 85))⟩,
      ⟨(some 87), none, (.faddr 0 (.t 86))⟩,
      ⟨(some 88), none, (.load false 1 (.t 87))⟩,
      ⟨(some 89), none, (.bin .int .sub (.t 83) (.t 88))⟩,
      ⟨(some 90), none, (.mv (.t 0))⟩,
      ⟨(some 91), none, (.mv (.t 8))⟩,
      ⟨(some 92), none, (.iaddr 3 (.t 90) (.t 91))⟩,
      ⟨(some 93), none, (.faddr 2 (.t 92))⟩,
      ⟨(some 94), none, (.load false 1 (.t 93))⟩,
      ⟨(some 95), none, (.len .str (.t 94))⟩,
      ⟨(some 96), none, (.min2 (.t 89) (.t 95))⟩,
      ⟨(some 97), none, (.bin .int .add (.t 82) (.t 96))⟩,
      ⟨(some 4), none, (.mv (.t 97))⟩] [])
    .ret)
    .skip))
    (.seq (.ops [⟨(some 98), none, (.mv (.t 0))⟩,
      ⟨(some 99), none, (.mv (.t 8))⟩,
      ⟨(some 100), none, (.iaddr 3 (.t 98) (.t 99))⟩,
      ⟨(some 101), none, (.faddr 1 (.t 100))⟩,
      ⟨(some 102), none, (.load false 1 (.t 101))⟩,
      ⟨(some 103), none, (.mv (.t 1))⟩,
      ⟨(some 104), none, (.bin .int .leq (.t 102) (.t 103))⟩])
    (.cond (.t 104)
    (.draw [⟨(some 105), none, (.mv (.t 7))⟩,
      ⟨(some 106), none, (.mv (.t 0))⟩,
      ⟨(some 107), none, (.mv (.t 8))⟩,
      ⟨(some 108), none, (.iaddr 3 (.t 106) (.t 107))⟩,
      ⟨(some 109), none, (.faddr 2 (.t 108))⟩,
      ⟨(some 110), none, (.load false 1 (.t 109))⟩,
      ⟨(some 111), none, (.len .str (.t 110))⟩,
      ⟨(some 112), none, (.bin .int .add (.t 105) (.t 111))⟩,
      ⟨(some 113), none, (.mv (.t 0))⟩,
      ⟨(some 114), none, (.mv (.t 8))⟩,
      ⟨(some 115), none, (.iaddr 3 (.t 113) (.t 114))⟩,
      ⟨(some 116), none, (.faddr 1 (.t 115))⟩,
      ⟨(some 117), none, (.load false 1 (.t 116))⟩,
      ⟨(some 118), none, (.mv (.t 0))⟩,
      ⟨(some 119), none, (.mv (.t 8))⟩,
      ⟨(some 120), none, (.iaddr 3 (.t 118) (.t 119))⟩,
      ⟨(some 121), none, (.faddr 0 (.t 120))⟩,
      ⟨(some 122), none, (.load false 1 (.t 121))⟩,
      ⟨(some 123), none, (.bin .int .sub (.t 117) (.t 122))⟩,
      ⟨(some 124), none, (.bin .int .sub (.t 112) (.t 123))⟩,
      ⟨(some 7), none, (.mv (.t 124))⟩] [])
    .skip))))
    (.ops [⟨(some 58), none, (.mv (.t 8))⟩,
      ⟨(some 59), none, (.bin .int .add (.t 58) (.c (.v (.int .i64 1))))⟩,
      ⟨(some 8), none, (.mv (.t 59))⟩]))))))
    (.seq (.ops [⟨(some 125), none, (.mv (.t 1))⟩,
      ⟨(some 126), none, (.mv (.t 7))⟩,
      ⟨(some 127), none, (.bin .int .add (.t 125) (.t 126))⟩,
      ⟨(some 4), none, (.mv (.t 127))⟩])
    .ret)))))))⟩
theorem L19_ok : lowFn Try.prog Try.f19 [] = some L19 := by kernel_rfl

/-- assessor_text.Position -/
def L20 : LFn := ⟨25, [(.tmp 4), (.tmp 5)], (.seq (.ops [⟨(some 4), none, (.mv (.c (.v (.int .i64 0))))⟩,
      ⟨(some 5), none, (.mv (.c (.v (.int .i64 0))))⟩])
    (.seq (.seq (.ops [⟨(some 6), none, (.mv (.t 1))⟩,
      ⟨(some 7), none, (.bin .int .lss (.t 6) (.c (.v (.int .i64 0))))⟩,
      ⟨(some 8), none, (.mv (.t 7))⟩,
      ⟨(some 9), (some (8, false)), (.mv (.t 1))⟩,
      ⟨(some 10), (some (8, false)), (.mv (.t 0))⟩,
      ⟨(some 11), (some (8, false)), (.len .str (.t 10))⟩,
      ⟨(some 12), (some (8, false)), (.bin .int .gtr (.t 9) (.t 11))⟩,
      ⟨(some 13), none, (.pick (.t 8) (.c (.v (.bool true))) (.t 12))⟩])
    (.cond (.t 13)
    (.seq (.ops [⟨(some 4), none, (.mv (.c (.v (.int .i64 0))))⟩,
      ⟨(some 5), none, (.mv (.c (.v (.int .i64 0))))⟩])
    .ret)
    .skip))
    (.seq (.draw [⟨(some 14), none, (.mv (.t 0))⟩,
      ⟨(some 15), none, (.mv (.t 1))⟩,
      ⟨(some 16), none, (.slice .str 1 (.t 14) none (some (.t 15)))⟩,
      ⟨(some 17), none, (.call (.c (.fn (.func 36) [] [])) [(.t 16), (.c (.v (.string (mkS [10]))))])⟩,
      ⟨(some 18), none, (.bin .int .add (.c (.v (.int .i64 1))) (.t 17))⟩,
      ⟨(some 19), none, (.mv (.t 1))⟩,
      ⟨(some 20), none, (.mv (.t 0))⟩,
      ⟨(some 21), none, (.mv (.t 1))⟩,
      ⟨(some 22), none, (.slice .str 1 (.t 20) none (some (.t 21)))⟩,
      ⟨(some 23), none, (.call (.c (.fn (.func 37) [] [])) [(.t 22), (.c (.v (.int .u8 10)))])⟩,
      ⟨(some 24), none, (.bin .int .sub (.t 19) (.t 23))⟩,
      ⟨(some 4), none, (.mv (.t 18))⟩,
      ⟨(some 5), none, (.mv (.t 24))⟩] [])
    .ret)))⟩
theorem L20_ok : lowFn Try.prog Try.f20 [] = some L20 := by kernel_rfl

/-- assessor_assessorref01.Position -/
def L21 : LFn := ⟨32, [(.tmp 4), (.tmp 5)], (.seq (.ops [⟨(some 4), none, (.mv (.c (.v (.int .i64 0))))⟩,
      ⟨(some 5), none, (.mv (.c (.v (.int .i64 0))))⟩])
    (.seq (.seq (.ops [⟨(some 9), none, (.mv (.t 1))⟩,
      ⟨(some 10), none, (.bin .int .lss (.t 9) (.c (.v (.int .i64 0))))⟩,
      ⟨(some 11), none, (.mv (.t 10))⟩,
      ⟨(some 12), (some (11, false)), (.mv (.t 1))⟩,
      ⟨(some 13), (some (11, false)), (.mv (.t 0))⟩,
      ⟨(some 14), (some (11, false)), (.len .str (.t 13))⟩,
      ⟨(some 15), (some (11, false)), (.bin .int .gtr (.t 12) (.t 14))⟩,
      ⟨(some 16), none, (.pick (.t 11) (.c (.v (.bool true))) (.t 15))⟩])
    (.cond (.t 16)
    (.seq (.ops [⟨(some 4), none, (.mv (.c (.v (.int .i64 0))))⟩,
      ⟨(some 5), none, (.mv (.c (.v (.int .i64 0))))⟩])
    .ret)
    .skip))
    (.seq (.ops [⟨(some 6), none, (.mv (.c (.v (.int .i64 1))))⟩,
      ⟨(some 7), none, (.mv (.c (.v (.int .i64 1))))⟩])
    (.seq (.seq (.ops [⟨(some 8), none, (.mv (.c (.v (.int .i64 0))))⟩])
    (.block 0 (.loop (.seq (.seq (.ops [⟨(some 17), none, (.mv (.t 8))⟩,
      ⟨(some 18), none, (.mv (.t 1))⟩,
      ⟨(some 19), none, (.bin .int .lss (.t 17) (.t 18))⟩])
    (.cond (.t 19)
    .skip
    (.exit 0)))
    (.seq (.block 1 (.seq (.ops [⟨(some 22), none, (.mv (.t 7))⟩,
      ⟨(some 23), none, (.bin .int .add (.t 22) (.c (.v (.int .i64 1))))⟩,
      ⟨(some 7), none, (.mv (.t 23))⟩])
    (.seq (.ops [⟨(some 24), none, (.mv (.t 0))⟩,
      ⟨(some 25), none, (.mv (.t 8))⟩,
      ⟨(some 26), none, (.idx (.t 24) (.t 25))⟩,
      ⟨(some 27), none, (.bin .int .eql (.t 26) (.c (.v (.int .u8 10))))⟩])
    (.cond (.t 27)
    (.ops [⟨(some 28), none, (.mv (.t 6))⟩,
      ⟨(some 29), none, (.bin .int .add (.t 28) (.c (.v (.int .i64 1))))⟩,
      ⟨(some 6), none, (.mv (.t 29))⟩,
      ⟨(some 7), none, (.mv (.c (.v (.int .i64 1))))⟩])
    .skip))))
    (.ops [⟨(some 20), none, (.mv (.t 8))⟩,
      ⟨(some 21), none, (.bin .int .add (.t 20) (.c (.v (.int .i64 1))))⟩,
      ⟨(some 8), none, (.mv (.t 21))⟩]))))))
    (.seq (.ops [⟨(some 30), none, (.mv (.t 6))⟩,
      ⟨(some 31), none, (.mv (.t 7))⟩,
      ⟨(some 4), none, (.mv (.t 30))⟩,
      ⟨(some 5), none, (.mv (.t 31))⟩])
    .ret)))))⟩
theorem L21_ok : lowFn Try.prog Try.f21 [] = some L21 := by kernel_rfl

/-- assessor_text.Offset -/
def L22 : LFn := ⟨42, [(.tmp 6), (.tmp 7)], (.seq (.ops [⟨(some 6), none, (.mv (.c (.v (.int .i64 0))))⟩,
      ⟨(some 7), none, (.mv (.c (.v (.bool false))))⟩])
    (.seq (.ops [⟨(some 12), none, (.mv (.t 0))⟩,
      ⟨(some 13), none, (.mv (.t 1))⟩,
      ⟨(some 14), none, (.call (.c (.fn (.func 38) [] [])) [(.t 12), (.t 13)])⟩,
      ⟨(some 11), none, (.mv (.t 14))⟩,
      ⟨(some 15), none, (.ext (.t 11) 0)⟩,
      ⟨(some 16), none, (.ext (.t 11) 1)⟩,
      ⟨(some 17), none, (.ext (.t 11) 2)⟩,
      ⟨(some 8), none, (.mv (.t 15))⟩,
      ⟨(some 9), none, (.mv (.t 16))⟩,
      ⟨(some 10), none, (.mv (.t 17))⟩])
    (.seq (.seq (.ops [⟨(some 18), none, (.mv (.t 1))⟩,
      ⟨(some 19), none, (.mv (.t 0))⟩,
      ⟨(some 20), none, (.call (.c (.fn (.func 25) [] [])) [(.t 19)])⟩,
      ⟨(some 21), none, (.len .slc (.t 20))⟩,
      ⟨(some 22), none, (.bin .int .eql (.t 18) (.t 21))⟩])
    (.cond (.t 22)
    (.ops [⟨(some 23), none, (.mv (.t 9))⟩,
      ⟨(some 24), none, (.bin .int .add (.t 23) (.c (.v (.int .i64 1))))⟩,
      ⟨(some 9), none, (.mv (.t 24))⟩])
    .skip))
    (.seq (.seq (.ops [⟨(some 25), none, (.mv (.t 10))⟩,
      ⟨(some 26), none, (.not (.t 25))⟩,
      ⟨(some 27), none, (.mv (.t 26))⟩,
      ⟨(some 28), (some (27, false)), (.mv (.t 2))⟩,
      ⟨(some 29), (some (27, false)), (.bin .int .lss (.t 28) (.c (.v (.int .i64 1))))⟩,
      ⟨(some 30), none, (.pick (.t 27) (.c (.v (.bool true))) (.t 29))⟩,
      ⟨(some 31), none, (.mv (.t 30))⟩,
      ⟨(some 32), (some (31, false)), (.mv (.t 2))⟩,
      ⟨(some 33), (some (31, false)), (.mv (.t 9))⟩,
      ⟨(some 34), (some (31, false)), (.mv (.t 8))⟩,
      ⟨(some 35), (some (31, false)), (.bin .int .sub (.t 33) (.t 34))⟩,
      ⟨(some 36), (some (31, false)), (.bin .int .gtr (.t 32) (.t 35))⟩,
      ⟨(some 37), none, (.pick (.t 31) (.c (.v (.bool true))) (.t 36))⟩])
    (.cond (.t 37)
    (.seq (.ops [⟨(some 6), none, (.mv (.c (.v (.int .i64 0))))⟩,
      ⟨(some 7), none, (.mv (.c (.v (.bool false))))⟩])
    .ret)
    .skip))
    (.seq (.ops [⟨(some 38), none, (.mv (.t 8))⟩,
      ⟨(some 39), none, (.mv (.t 2))⟩,
      ⟨(some 40), none, (.bin .int .add (.t 38) (.t 39))⟩,
      ⟨(some 41), none, (.bin .int .sub (.t 40) (.c (.v (.int .i64 1))))⟩,
      ⟨(some 6), none, (.mv (.t 41))⟩,
      ⟨(some 7), none, (.mv (.c (.v (.bool true))))⟩])
    .ret)))))⟩
theorem L22_ok : lowFn Try.prog Try.f22 [] = some L22 := by kernel_rfl

/-- assessor_assessorref01.Offset -/
def L23 : LFn := ⟨32, [(.tmp 6), (.tmp 7)], (.seq (.ops [⟨(some 6), none, (.mv (.c (.v (.int .i64 0))))⟩,
      ⟨(some 7), none, (.mv (.c (.v (.bool false))))⟩])
    (.seq (.seq (.ops [⟨(some 8), none, (.mv (.c (.v (.int .i64 0))))⟩])
    (.block 0 (.loop (.seq (.seq (.ops [⟨(some 11), none, (.mv (.t 8))⟩,
      ⟨(some 12), none, (.mv (.t 0))⟩,
      ⟨(some 13), none, (.len .str (.t 12))⟩,
      ⟨(some 14), none, (.bin .int .leq (.t 11) (.t 13))⟩])
    (.cond (.t 14)
    .skip
    (.exit 0)))
    (.seq (.block 1 (.seq (.ops [⟨(some 18), none, (.mv (.t 0))⟩,
      ⟨(some 19), none, (.mv (.t 8))⟩,
      ⟨(some 20), none, (.call (.c (.fn (.func 21) [] [])) [(.t 18), (.t 19)])⟩,
      ⟨(some 17), none, (.mv (.t 20))⟩,
      ⟨(some 21), none, (.ext (.t 17) 0)⟩,
      ⟨(some 22), none, (.ext (.t 17) 1)⟩,
      ⟨(some 9), none, (.mv (.t 21))⟩,
      ⟨(some 10), none, (.mv (.t 22))⟩])
    (.seq (.ops [⟨(some 23), none, (.mv (.t 9))⟩,
      ⟨(some 24), none, (.mv (.t 1))⟩,
      ⟨(some 25), none, (.bin .int .eql (.t 23) (.t 24))⟩,
      ⟨(some 26), none, (.mv (.t 25))⟩,
      ⟨(some 27), (some (26, true)), (.mv (.t 10))⟩,
      ⟨(some 28), (some (26, true)), (.mv (.t 2))⟩,
      ⟨(some 29), (some (26, true)), (.bin .int .eql (.t 27) (.t 28))⟩,
      ⟨(some 30), none, (.pick (.t 26) (.t 29) (.c (.v (.bool false))))⟩])
    (.cond (.t 30)
    (.seq (.ops [⟨(some 31), none, (.mv (.t 8))⟩,
      ⟨(some 6), none, (.mv (.t 31))⟩,
      ⟨(some 7), none, (.mv (.c (.v (.bool true))))⟩])
    .ret)
    .skip))))
    (.ops [⟨(some 15), none, (.mv (.t 8))⟩,
      ⟨(some 16), none, (.bin .int .add (.t 15) (.c (.v (.int .i64 1))))⟩,
      ⟨(some 8), none, (.mv (.t 16))⟩]))))))
    (.seq (.ops [⟨(some 6), none, (.mv (.c (.v (.int .i64 0))))⟩,
      ⟨(some 7), none, (.mv (.c (.v (.bool false))))⟩])
    .ret)))⟩
theorem L23_ok : lowFn Try.prog Try.f23 [] = some L23 := by kernel_rfl

/-- assessor_assessorref01.Ints -/
def L24 : LFn := ⟨26, [(.tmp 4)], (.seq (.ops [⟨(some 4), none, (.mv (.c (.v (.bool false))))⟩])
    (.seq (.seq (.ops [⟨(some 6), none, (.mv (.t 0))⟩,
      ⟨(some 7), none, (.len .slc (.t 6))⟩,
      ⟨(some 8), none, (.mv (.t 1))⟩,
      ⟨(some 9), none, (.len .slc (.t 8))⟩,
      ⟨(some 10), none, (.bin .int .neq (.t 7) (.t 9))⟩])
    (.cond (.t 10)
    (.seq (.ops [⟨(some 4), none, (.mv (.c (.v (.bool false))))⟩])
    .ret)
    .skip))
    (.seq (.seq (.ops [⟨(some 5), none, (.mv (.c (.v (.int .i64 0))))⟩])
    (.block 0 (.loop (.seq (.seq (.ops [⟨(some 11), none, (.mv (.t 5))⟩,
      ⟨(some 12), none, (.mv (.t 0))⟩,
      ⟨(some 13), none, (.len .slc (.t 12))⟩,
      ⟨(some 14), none, (.bin .int .lss (.t 11) (.t 13))⟩])
    (.cond (.t 14)
    .skip
    (.exit 0)))
    (.seq (.block 1 (.seq (.draw [⟨(some 17), none, (.mv (.t 0))⟩,
      ⟨(some 18), none, (.mv (.t 5))⟩,
      ⟨(some 19), none, (.iaddr 1 (.t 17) (.t 18))⟩,
      ⟨(some 20), none, (.load false 1 (.t 19))⟩,
      ⟨(some 21), none, (.mv (.t 1))⟩,
      ⟨(some 22), none, (.mv (.t 5))⟩,
      ⟨(some 23), none, (.iaddr 1 (.t 21) (.t 22))⟩,
      ⟨(some 24), none, (.load false 1 (.t 23))⟩,
      ⟨(some 25), none, (.bin .int .neq (.t 20) (.t 24))⟩] [])
    (.cond (.t 25)
    (.seq (.ops [⟨(some 4), none, (.mv (.c (.v (.bool false))))⟩])
    .ret)
    .skip)))
    (.ops [⟨(some 15), none, (.mv (.t 5))⟩,
      ⟨(some 16), none, (.bin .int .add (.t 15) (.c (.v (.int .i64 1))))⟩,
      ⟨(some 5), none, (.mv (.t 16))⟩]))))))
    (.seq (.ops [⟨(some 4), none, (.mv (.c (.v (.bool true))))⟩])
    .ret))))⟩
theorem L24_ok : lowFn Try.prog Try.f24 [] = some L24 := by kernel_rfl

/-- assessor_text.Lines -/
def L25 : LFn := ⟨22, [(.tmp 2)], (.seq (.ops [⟨(some 2), none, (.mv (.c (.v (.slice none 0 0))))⟩])
    (.seq (.ops [⟨(some 5), none, (.bsl false 1 1 [(.v (.int .i64 0))] [(0, (.c (.v (.int .i64 0))))])⟩,
      ⟨(some 3), none, (.mv (.t 5))⟩])
    (.seq (.seq (.ops [⟨(some 6), none, (.mv (.t 0))⟩,
      ⟨(some 7), none, (.len .str (.t 6))⟩,
      ⟨(some 8), none, (.mv (.c (.v (.int .i64 0))))⟩])
    (.block 0 (.loop (.seq (.ops [⟨(some 9), none, (.bin .int .lss (.t 8) (.t 7))⟩])
    (.seq (.cond (.t 9)
    .skip
    (.exit 0))
    (.seq (.block 1 (.seq (.ops [⟨(some 10), none, (.mv (.t 8))⟩,
      ⟨(some 4), none, (.mv (.t 10))⟩])
    (.seq (.ops [⟨(some 11), none, (.mv (.t 0))⟩,
      ⟨(some 12), none, (.mv (.t 4))⟩,
      ⟨(some 13), none, (.idx (.t 11) (.t 12))⟩,
      ⟨(some 14), none, (.bin .int .eql (.t 13) (.c (.v (.int .u8 10))))⟩])
    (.cond (.t 14)
    (.ops [⟨(some 15), none, (.mv (.t 3))⟩,
      ⟨(some 16), none, (.mv (.t 4))⟩,
      ⟨(some 17), none, (.bin .int .add (.t 16) (.c (.v (.int .i64 1))))⟩,
      ⟨(some 18), none, (.bsl true 1 1 [(.v (.int .i64 0))] [(0, (.t 17))])⟩,
      ⟨(some 19), none, (.append 1 8 (.t 15) (.t 18))⟩,
      ⟨(some 3), none, (.mv (.t 19))⟩])
    .skip))))
    (.ops [⟨(some 20), none, (.bin .int .add (.t 8) (.c (.v (.int .i64 1))))⟩,
      ⟨(some 8), none, (.mv (.t 20))⟩])))))))
    (.seq (.ops [⟨(some 21), none, (.mv (.t 3))⟩,
      ⟨(some 2), none, (.mv (.t 21))⟩,
      ⟨(some 2), none, (.frz (.t 2))⟩])
    .ret))))⟩
theorem L25_ok : lowFn Try.prog Try.f25 [⟨6, 3, .imm⟩, ⟨8, 2, (.pre 2 (.frz (.t 2)))⟩] = some L25 := by kernel_rfl

/-- assessor_assessorref01.Lines -/
def L26 : LFn := ⟨22, [(.tmp 2)], (.seq (.ops [⟨(some 2), none, (.mv (.c (.v (.slice none 0 0))))⟩])
    (.seq (.ops [⟨(some 5), none, (.bsl false 1 1 [(.v (.int .i64 0))] [(0, (.c (.v (.int .i64 0))))])⟩,
      ⟨(some 3), none, (.mv (.t 5))⟩])
    (.seq (.seq (.ops [⟨(some 4), none, (.mv (.c (.v (.int .i64 0))))⟩])
    (.block 0 (.loop (.seq (.seq (.ops [⟨(some 6), none, (.mv (.t 4))⟩,
      ⟨(some 7), none, (.mv (.t 0))⟩,
      ⟨(some 8), none, (.len .str (.t 7))⟩,
      ⟨(some 9), none, (.bin .int .lss (.t 6) (.t 8))⟩])
    (.cond (.t 9)
    .skip
    (.exit 0)))
    (.seq (.block 1 (.seq (.ops [⟨(some 12), none, (.mv (.t 0))⟩,
      ⟨(some 13), none, (.mv (.t 4))⟩,
      ⟨(some 14), none, (.idx (.t 12) (.t 13))⟩,
      ⟨(some 15), none, (.bin .int .eql (.t 14) (.c (.v (.int .u8 10))))⟩])
    (.cond (.t 15)
    (.ops [⟨(some 16), none, (.mv (.t 3))⟩,
      ⟨(some 17), none, (.mv (.t 4))⟩,
      ⟨(some 18), none, (.bin .int .add (.t 17) (.c (.v (.int .i64 1))))⟩,
      ⟨(some 19), none, (.bsl true 1 1 [(.v (.int .i64 0))] [(0, (.t 18))])⟩,
      ⟨(some 20), none, (.append 1 8 (.t 16) (.t 19))⟩,
      ⟨(some 3), none, (.mv (.t 20))⟩])
    .skip)))
    (.ops [⟨(some 10), none, (.mv (.t 4))⟩,
      ⟨(some 11), none, (.bin .int .add (.t 10) (.c (.v (.int .i64 1))))⟩,
      ⟨(some 4), none, (.mv (.t 11))⟩]))))))
    (.seq (.ops [⟨(some 21), none, (.mv (.t 3))⟩,
      ⟨(some 2), none, (.mv (.t 21))⟩,
      ⟨(some 2), none, (.frz (.t 2))⟩])
    .ret))))⟩
theorem L26_ok : lowFn Try.prog Try.f26 [⟨6, 3, .imm⟩, ⟨7, 2, (.pre 2 (.frz (.t 2)))⟩] = some L26 := by kernel_rfl

/-- assessor_text.Line -/
def L27 : LFn := ⟨33, [(.tmp 4)], (.seq (.ops [⟨(some 4), none, (.mv (.c (.v (.string (mkS [])))))⟩])
    (.seq (.ops [⟨(some 12), none, (.mv (.t 0))⟩,
      ⟨(some 13), none, (.mv (.t 1))⟩,
      ⟨(some 14), none, (.call (.c (.fn (.func 38) [] [])) [(.t 12), (.t 13)])⟩,
      ⟨(some 11), none, (.mv (.t 14))⟩,
      ⟨(some 15), none, (.ext (.t 11) 0)⟩,
      ⟨(some 16), none, (.ext (.t 11) 1)⟩,
      ⟨(some 17), none, (.ext (.t 11) 2)⟩,
      ⟨(some 5), none, (.mv (.t 15))⟩,
      ⟨(some 6), none, (.mv (.t 16))⟩,
      ⟨(some 7), none, (.mv (.t 17))⟩])
    (.seq (.seq (.ops [⟨(some 18), none, (.mv (.t 7))⟩,
      ⟨(some 19), none, (.not (.t 18))⟩])
    (.cond (.t 19)
    (.seq (.ops [⟨(some 4), none, (.mv (.c (.v (.string (mkS [])))))⟩])
    .ret)
    .skip))
    (.seq (.ops [⟨(some 20), none, (.mv (.t 0))⟩,
      ⟨(some 21), none, (.mv (.t 5))⟩,
      ⟨(some 22), none, (.mv (.t 6))⟩,
      ⟨(some 23), none, (.slice .str 1 (.t 20) (some (.t 21)) (some (.t 22)))⟩,
      ⟨(some 8), none, (.mv (.t 23))⟩])
    (.seq (.seq (.ops [⟨(some 25), none, (.mv (.t 8))⟩,
      ⟨(some 26), none, (.call (.c (.fn (.func 39) [] [])) [(.t 25), (.c (.v (.string (mkS [10]))))])⟩,
      ⟨(some 24), none, (.mv (.t 26))⟩,
      ⟨(some 27), none, (.ext (.t 24) 0)⟩,
      ⟨(some 28), none, (.ext (.t 24) 1)⟩,
      ⟨(some 9), none, (.mv (.t 27))⟩,
      ⟨(some 10), none, (.mv (.t 28))⟩])
    (.seq (.ops [⟨(some 29), none, (.mv (.t 10))⟩])
    (.cond (.t 29)
    (.ops [⟨(some 30), none, (.mv (.t 9))⟩,
      ⟨(some 31), none, (.call (.c (.fn (.func 40) [] [])) [(.t 30), (.c (.v (.string (mkS [13]))))])⟩,
      ⟨(some 8), none, (.mv (.t 31))⟩])
    .skip)))
    (.seq (.ops [⟨(some 32), none, (.mv (.t 8))⟩,
      ⟨(some 4), none, (.mv (.t 32))⟩])
    .ret))))))⟩
theorem L27_ok : lowFn Try.prog Try.f27 [] = some L27 := by kernel_rfl

/-- assessor_assessorref01.Line -/
def L28 : LFn := ⟨52, [(.tmp 4)], (.seq (.ops [⟨(some 4), none, (.mv (.c (.v (.string (mkS [])))))⟩])
    (.seq (.ops [⟨(some 7), none, (.mv (.t 0))⟩,
      ⟨(some 8), none, (.call (.c (.fn (.func 26) [] [])) [(.t 7)])⟩,
      ⟨(some 5), none, (.mv (.t 8))⟩])
    (.seq (.seq (.ops [⟨(some 9), none, (.mv (.t 1))⟩,
      ⟨(some 10), none, (.bin .int .lss (.t 9) (.c (.v (.int .i64 1))))⟩,
      ⟨(some 11), none, (.mv (.t 10))⟩,
      ⟨(some 12), (some (11, false)), (.mv (.t 1))⟩,
      ⟨(some 13), (some (11, false)), (.mv (.t 5))⟩,
      ⟨(some 14), (some (11, false)), (.len .slc (.t 13))⟩,
      ⟨(some 15), (some (11, false)), (.bin .int .gtr (.t 12) (.t 14))⟩,
      ⟨(some 16), none, (.pick (.t 11) (.c (.v (.bool true))) (.t 15))⟩])
    (.cond (.t 16)
    (.seq (.ops [⟨(some 4), none, (.mv (.c (.v (.string (mkS [])))))⟩])
    .ret)
    .skip))
    (.seq (.ops [⟨(some 17), none, (.mv (.t 0))⟩,
      ⟨(some 18), none, (.len .str (.t 17))⟩,
      ⟨(some 6), none, (.mv (.t 18))⟩])
    (.seq (.seq (.ops [⟨(some 19), none, (.mv (.t 1))⟩,
      ⟨(some 20), none, (.mv (.t 5))⟩,
      ⟨(some 21), none, (.len .slc (.t 20))⟩,
      ⟨(some 22), none, (.bin .int .lss (.t 19) (.t 21))⟩])
    (.cond (.t 22)
    (.seq (.ops [⟨(some 23), none, (.mv (.t 5))⟩,
      ⟨(some 24), none, (.mv (.t 1))⟩,
      ⟨(some 25), none, (.iaddr 1 (.t 23) (.t 24))⟩,
      ⟨(some 26), none, (.load false 1 (.t 25))⟩,
      ⟨(some 27), none, (.bin .int .sub (.t 26) (.c (.v (.int .i64 1))))⟩,
      ⟨(some 6), none, (.mv (.t 27))⟩])
    (.seq (.ops [⟨(some 28), none, (.mv (.t 6))⟩,
      ⟨(some 29), none, (.mv (.t 5))⟩,
      ⟨(some 30), none, (.mv (.t 1))⟩,
      ⟨(some 31), none, (.bin .int .sub (.t 30) (.c (.v (.int .i64 1))))⟩,
      ⟨(some 32), none, (.iaddr 1 (.t 29) (.t 31))⟩,
      ⟨(some 33), none, (.load false 1 (.t 32))⟩,
      ⟨(some 34), none, (.bin .int .gtr (.t 28) (.t 33))⟩,
      ⟨(some 35), none, (.mv (.t 34))⟩,
      ⟨(some 36), (some (35, true)), (.mv (.t 0))⟩,
      ⟨(some 37), (some (35, true)), (.mv (.t 6))⟩,
      ⟨(some 38), (some (35, true)), (.bin .int .sub (.t 37) (.c (.v (.int .i64 1))))⟩,
      ⟨(some 39), (some (35, true)), (.idx (.t 36) (.t 38))⟩,
      ⟨(some 40), (some (35, true)), (.bin .int .eql (.t 39) (.c (.v (.int .u8 13))))⟩,
      ⟨(some 41), none, (.pick (.t 35) (.t 40) (.c (.v (.bool false))))⟩])
    (.cond (.t 41)
    (.ops [⟨(some 42), none, (.mv (.t 6))⟩,
      ⟨(some 43), none, (.bin .int .sub (.t 42) (.c (.v (.int .i64 1))))⟩,
      ⟨(some 6), none, (.mv (.t 43))⟩])
    .skip)))
    .skip))
    (.seq (.ops [⟨(some 44), none, (.mv (.t 0))⟩,
      ⟨(some 45), none, (.mv (.t 5))⟩,
      ⟨(some 46), none, (.mv (.t 1))⟩,
      ⟨(some 47), none, (.bin .int .sub (.t 46) (.c (.v (.int .i64 1))))⟩,
      ⟨(some 48), none, (.iaddr 1 (.t 45) (.t 47))⟩,
      ⟨(some 49), none, (.load false 1 (.t 48))⟩,
      ⟨(some 50), none, (.mv (.t 6))⟩,
      ⟨(some 51), none, (.slice .str 1 (.t 44) (some (.t 49)) (some (.t 50)))⟩,
      ⟨(some 4), none, (.mv (.t 51))⟩])
    .ret))))))⟩
theorem L28_ok : lowFn Try.prog Try.f28 [] = some L28 := by kernel_rfl

/-- assessor_text.fits -/
def L31 : LFn := ⟨56, [(.tmp 4)], (.seq (.ops [⟨(some 4), none, (.mv (.c (.v (.int .i64 0))))⟩])
    (.seq (.ops [⟨(some 9), none, (.mv (.t 0))⟩,
      ⟨(some 10), none, (.len .str (.t 9))⟩,
      ⟨(some 5), none, (.mv (.t 10))⟩,
      ⟨(some 6), none, (.mv (.c (.v (.int .i64 0))))⟩])
    (.seq (.seq (.ops [⟨(some 11), none, (.mv (.t 1))⟩,
      ⟨(some 12), none, (.len .slc (.t 11))⟩,
      ⟨(some 13), none, (.mv (.c (.v (.int .i64 0))))⟩])
    (.block 0 (.loop (.seq (.ops [⟨(some 14), none, (.bin .int .lss (.t 13) (.t 12))⟩])
    (.seq (.cond (.t 14)
    .skip
    (.exit 0))
    (.seq (.block 1 (.seq (.ops [⟨(some 15), none, (.iaddr 3 (.t 11) (.t 13))⟩,
      ⟨(some 16), none, (.load true 3 (.t 15))⟩,
      ⟨(some 8), none, (.alloc [(.v (.int .i64 0)), (.v (.int .i64 0)), (.v (.string (mkS [])))])⟩,
      ⟨none, none, (.store 3 (.t 8) (.t 16))⟩])
    (.seq (.block 2 (.seq (.ops [⟨(some 18), none, (.faddr 0 (.t 8))⟩,
      ⟨(some 19), none, (.load false 1 (.t 18))⟩,
      ⟨(some 20), none, (.bin .int .lss (.t 19) (.c (.v (.int .i64 0))))⟩,
      ⟨(some 21), none, (.mv (.t 20))⟩,
      ⟨(some 22), (some (21, false)), (.faddr 1 (.t 8))⟩,
      ⟨(some 23), (some (21, false)), (.load false 1 (.t 22))⟩,
      ⟨(some 24), (some (21, false)), (.faddr 0 (.t 8))⟩,
      ⟨(some 25), (some (21, false)), (.load false 1 (.t 24))⟩,
      ⟨(some 26), (some (21, false)), (.bin .int .lss (.t 23) (.t 25))⟩,
      ⟨(some 27), none, (.pick (.t 21) (.c (.v (.bool true))) (.t 26))⟩,
      ⟨(some 28), none, (.mv (.t 27))⟩,
      ⟨(some 29), (some (28, false)), (.faddr 1 (.t 8))⟩,
      ⟨(some 30), (some (28, false)), (.load false 1 (.t 29))⟩,
      ⟨(some 31), (some (28, false)), (.mv (.t 0))⟩,
      ⟨(some 32), (some (28, false)), (.len .str (.t 31))⟩,
      ⟨(some 33), (some (28, false)), (.bin .int .gtr (.t 30) (.t 32))⟩,
      ⟨(some 34), none, (.pick (.t 28) (.c (.v (.bool true))) (.t 33))⟩,
      ⟨(some 17), none, (.mv (.t 34))⟩])
    (.cond (.t 17)
    (.seq (.ops [⟨(some 4), none, (.mv (.c (.v (.int .i64 2))))⟩])
    .ret)
    (.seq (.ops [⟨(some 36), none, (.faddr 0 (.t 8))⟩,
      ⟨(some 37), none, (.load false 1 (.t 36))⟩,
      ⟨(some 38), none, (.mv (.t 6))⟩,
      ⟨(some 39), none, (.bin .int .lss (.t 37) (.t 38))⟩,
      ⟨(some 35), none, (.mv (.t 39))⟩])
    (.cond (.t 35)
    (.seq (.ops [⟨(some 4), none, (.mv (.c (.v (.int .i64 1))))⟩])
    .ret)
    .skip)))))
    (.seq (.ops [⟨(some 40), none, (.mv (.t 5))⟩,
      ⟨(some 41), none, (.faddr 2 (.t 8))⟩,
      ⟨(some 42), none, (.load false 1 (.t 41))⟩,
      ⟨(some 43), none, (.len .str (.t 42))⟩,
      ⟨(some 44), none, (.faddr 1 (.t 8))⟩,
      ⟨(some 45), none, (.load false 1 (.t 44))⟩,
      ⟨(some 46), none, (.faddr 0 (.t 8))⟩,
      ⟨(some 47), none, (.load false 1 (.t 46))⟩,
      ⟨(some 48), none, (.bin .int .sub (.t 45) (.t 47))⟩,
      ⟨(some 49), none, (.bin .int .sub (.t 43) (.t 48))⟩,
      ⟨(some 50), none, (.bin .int .add (.t 40) (.t 49))⟩,
      ⟨(some 5), none, (.mv (.t 50))⟩])
    (.ops [⟨(some 51), none, (.faddr 1 (.t 8))⟩,
      ⟨(some 52), none, (.load false 1 (.t 51))⟩,
      ⟨(some 6), none, (.mv (.t 52))⟩])))))
    (.ops [⟨(some 53), none, (.bin .int .add (.t 13) (.c (.v (.int .i64 1))))⟩,
      ⟨(some 13), none, (.mv (.t 53))⟩])))))))
    (.seq (.seq (.ops [⟨(some 54), none, (.mv (.t 5))⟩,
      ⟨(some 55), none, (.bin .int .gtr (.t 54) (.c (.v (.int .i64 16384))))⟩])
    (.cond (.t 55)
    (.seq (.ops [⟨(some 4), none, (.mv (.c (.v (.int .i64 8))))⟩])
    .ret)
    .skip))
    (.seq (.ops [⟨(some 4), none, (.mv (.c (.v (.int .i64 0))))⟩])
    .ret)))))⟩
theorem L31_ok : lowFn Try.prog Try.f31 [] = some L31 := by kernel_rfl

/-- assessor_text.Apply$1 -/
def L32 : LFn := ⟨11, [], (.seq (.ops [⟨(some 5), none, (.load false 1 (.t 2))⟩,
      ⟨(some 6), none, (.load false 1 (.t 3))⟩,
      ⟨(some 7), none, (.mv (.t 0))⟩,
      ⟨(some 8), none, (.slice .str 1 (.t 5) (some (.t 6)) (some (.t 7)))⟩,
      ⟨(some 9), none, (.call (.c (.fn (.func 33) [] [])) [(.t 1), (.t 8)])⟩])
    (.ops [⟨(some 10), none, (.mv (.t 0))⟩,
      ⟨none, none, (.store 1 (.t 3) (.t 10))⟩]))⟩
theorem L32_ok : lowFn Try.prog Try.f32 [] = some L32 := by kernel_rfl

/-- __strings.Builder_.WriteString -/
def L33 : LFn := ⟨19, [(.tmp 4), (.tmp 5)], (.seq (.ops [⟨(some 4), none, (.mv (.c (.v (.int .i64 0))))⟩,
      ⟨(some 5), none, (.mv (.c (.v .nilIface)))⟩])
    (.seq (.ops [⟨(some 6), none, (.mv (.t 0))⟩,
      ⟨(some 7), none, (.call (.c (.fn (.func 43) [] [])) [(.t 6)])⟩])
    (.seq (.ops [⟨(some 8), none, (.mv (.t 0))⟩,
      ⟨(some 9), none, (.mv (.t 0))⟩,
      ⟨(some 10), none, (.nilchk (.t 9))⟩,
      ⟨(some 11), none, (.faddr 1 (.t 10))⟩,
      ⟨(some 12), none, (.load false 1 (.t 11))⟩,
      ⟨(some 13), none, (.mv (.t 1))⟩,
      ⟨(some 14), none, (.appendb 5 (.t 12) (.t 13))⟩,
      ⟨(some 15), none, (.nilchk (.t 8))⟩,
      ⟨(some 16), none, (.faddr 1 (.t 15))⟩,
      ⟨none, none, (.store 1 (.t 16) (.t 14))⟩])
    (.seq (.ops [⟨(some 17), none, (.mv (.t 1))⟩,
      ⟨(some 18), none, (.len .str (.t 17))⟩,
      ⟨(some 4), none, (.mv (.t 18))⟩,
      ⟨(some 5), none, (.mv (.c (.v .nilIface)))⟩])
    .ret))))⟩
theorem L33_ok : lowFn Try.prog Try.f33 [⟨2, 6, .imm⟩] = some L33 := by kernel_rfl

/-- assessor_assessorref01.Fits -/
def L35 : LFn := ⟨54, [(.tmp 4)], (.seq (.ops [⟨(some 4), none, (.mv (.c (.v (.int .i64 0))))⟩])
    (.seq (.ops [⟨(some 5), none, (.mv (.c (.v (.int .i64 0))))⟩])
    (.seq (.seq (.ops [⟨(some 6), none, (.mv (.c (.v (.int .i64 0))))⟩])
    (.block 0 (.loop (.seq (.seq (.ops [⟨(some 7), none, (.mv (.t 6))⟩,
      ⟨(some 8), none, (.mv (.t 1))⟩,
      ⟨(some 9), none, (.len .slc (.t 8))⟩,
      ⟨(some 10), none, (.bin .int .lss (.t 7) (.t 9))⟩])
    (.cond (.t 10)
    .skip
    (.exit 0)))
    (.seq (.block 1 (.seq (.seq (.draw [⟨(some 13), none, (.mv (.t 1))⟩,
      ⟨(some 14), none, (.mv (.t 6))⟩,
      ⟨(some 15), none, (.iaddr 3 (.t 13) (.t 14))⟩,
      ⟨(some 16), none, (.faddr 0 (.t 15))⟩,
      ⟨(some 17), none, (.load false 1 (.t 16))⟩,
      ⟨(some 18), none, (.bin .int .lss (.t 17) (.c (.v (.int .i64 0))))⟩,
      ⟨(some 19), none, (.mv (.t 18))⟩,
      ⟨(some 20), (some (19, false)), (.mv (.t 1))⟩,
      ⟨(some 21), (some (19, false)), (.mv (.t 6))⟩,
      ⟨(some 22), (some (19, false)), (.iaddr 3 (.t 20) (.t 21))⟩,
      ⟨(some 23), (some (19, false)), (.faddr 1 (.t 22))⟩,
      ⟨(some 24), (some (19, false)), (.load false 1 (.t 23))⟩,
      ⟨(some 25), (some (19, false)), (.mv (.t 1))⟩,
      ⟨(some 26), (some (19, false)), (.mv (.t 6))⟩,
      ⟨(some 27), (some (19, false)), (.iaddr 3 (.t 25) (.t 26))⟩,
      ⟨(some 28), (some (19, false)), (.faddr 0 (.t 27))⟩,
      ⟨(some 29), (some (19, false)), (.load false 1 (.t 28))⟩,
      ⟨(some 30), (some (19, false)), (.bin .int .lss (.t 24) (.t 29))⟩,
      ⟨(some 31), none, (.pick (.t 19) (.c (.v (.bool true))) (.t 30))⟩,
      ⟨(some 32), none, (.mv (.t 31))⟩,
      ⟨(some 33), (some (32, false)), (.mv (.t 1))⟩,
      ⟨(some 34), (some (32, false)), (.mv (.t 6))⟩,
      ⟨(some 35), (some (32, false)), (.iaddr 3 (.t 33) (.t 34))⟩,
      ⟨(some 36), (some (32, false)), (.faddr 1 (.t 35))⟩,
      ⟨(some 37), (some (32, false)), (.load false 1 (.t 36))⟩,
      ⟨(some 38), (some (32, false)), (.mv (.t 0))⟩,
      ⟨(some 39), (some (32, false)), (.len .str (.t 38))⟩,
      ⟨(some 40), (some (32, false)), (.bin .int .gtr (.t 37) (.t 39))⟩,
      ⟨(some 41), none, (.pick (.t 32) (.c (.v (.bool true))) (.t 40))⟩] [])
    (.cond (.t 41)
    (.seq (.ops [⟨(some 4), none, (.mv (.c (.v (.int .i64 2))))⟩])
    .ret)
    .skip))
    (.seq (.seq (.ops [⟨(some 42), none, (.mv (.t 1))⟩,
      ⟨(some 43), none, (.mv (.t 6))⟩,
      ⟨(some 44), none, (.iaddr 3 (.t 42) (.t 43))⟩,
      ⟨(some 45), none, (.faddr 0 (.t 44))⟩,
      ⟨(some 46), none, (.load false 1 (.t 45))⟩,
      ⟨(some 47), none, (.mv (.t 5))⟩,
      ⟨(some 48), none, (.bin .int .lss (.t 46) (.t 47))⟩])
    (.cond (.t 48)
    (.seq (.ops [⟨(some 4), none, (.mv (.c (.v (.int .i64 1))))⟩])
    .ret)
    .skip))
    (.ops [⟨(some 49), none, (.mv (.t 1))⟩,
      ⟨(some 50), none, (.mv (.t 6))⟩,
      ⟨(some 51), none, (.iaddr 3 (.t 49) (.t 50))⟩,
      ⟨(some 52), none, (.faddr 1 (.t 51))⟩,
      ⟨(some 53), none, (.load false 1 (.t 52))⟩,
      ⟨(some 5), none, (.mv (.t 53))⟩]))))
    (.ops [⟨(some 11), none, (.mv (.t 6))⟩,
      ⟨(some 12), none, (.bin .int .add (.t 11) (.c (.v (.int .i64 1))))⟩,
      ⟨(some 6), none, (.mv (.t 12))⟩]))))))
    (.seq (.ops [⟨(some 4), none, (.mv (.c (.v (.int .i64 0))))⟩])
    .ret))))⟩
theorem L35_ok : lowFn Try.prog Try.f35 [] = some L35 := by kernel_rfl

/-- strings.LastIndexByte -/
def L37 : LFn := ⟨8, [(.tmp 4)], (.seq (.ops [⟨(some 4), none, (.mv (.c (.v (.int .i64 0))))⟩])
    (.seq (.ops [⟨(some 5), none, (.mv (.t 0))⟩,
      ⟨(some 6), none, (.mv (.t 1))⟩,
      ⟨(some 7), none, (.call (.c (.fn (.func 46) [] [])) [(.t 5), (.t 6)])⟩,
      ⟨(some 4), none, (.mv (.t 7))⟩])
    .ret))⟩
theorem L37_ok : lowFn Try.prog Try.f37 [] = some L37 := by kernel_rfl

/-- assessor_text.bounds -/
def L38 : LFn := ⟨40, [(.tmp 4), (.tmp 5), (.tmp 6)], (.seq (.ops [⟨(some 4), none, (.mv (.c (.v (.int .i64 0))))⟩,
      ⟨(some 5), none, (.mv (.c (.v (.int .i64 0))))⟩,
      ⟨(some 6), none, (.mv (.c (.v (.bool false))))⟩])
    (.seq (.ops [⟨(some 8), none, (.mv (.t 0))⟩,
      ⟨(some 9), none, (.call (.c (.fn (.func 25) [] [])) [(.t 8)])⟩,
      ⟨(some 7), none, (.mv (.t 9))⟩])
    (.seq (.block 0 (.seq (.ops [⟨(some 11), none, (.mv (.t 1))⟩,
      ⟨(some 12), none, (.bin .int .lss (.t 11) (.c (.v (.int .i64 1))))⟩,
      ⟨(some 13), none, (.mv (.t 12))⟩,
      ⟨(some 14), (some (13, false)), (.mv (.t 1))⟩,
      ⟨(some 15), (some (13, false)), (.mv (.t 7))⟩,
      ⟨(some 16), (some (13, false)), (.len .slc (.t 15))⟩,
      ⟨(some 17), (some (13, false)), (.bin .int .gtr (.t 14) (.t 16))⟩,
      ⟨(some 18), none, (.pick (.t 13) (.c (.v (.bool true))) (.t 17))⟩,
      ⟨(some 10), none, (.mv (.t 18))⟩])
    (.cond (.t 10)
    (.seq (.ops [⟨(some 4), none, (.mv (.c (.v (.int .i64 0))))⟩,
      ⟨(some 5), none, (.mv (.c (.v (.int .i64 0))))⟩,
      ⟨(some 6), none, (.mv (.c (.v (.bool false))))⟩])
    .ret)
    (.seq (.ops [⟨(some 20), none, (.mv (.t 1))⟩,
      ⟨(some 21), none, (.mv (.t 7))⟩,
      ⟨(some 22), none, (.len .slc (.t 21))⟩,
      ⟨(some 23), none, (.bin .int .eql (.t 20) (.t 22))⟩,
      ⟨(some 19), none, (.mv (.t 23))⟩])
    (.cond (.t 19)
    (.seq (.ops [⟨(some 24), none, (.mv (.t 7))⟩,
      ⟨(some 25), none, (.mv (.t 1))⟩,
      ⟨(some 26), none, (.bin .int .sub (.t 25) (.c (.v (.int .i64 1))))⟩,
      ⟨(some 27), none, (.iaddr 1 (.t 24) (.t 26))⟩,
      ⟨(some 28), none, (.load false 1 (.t 27))⟩,
      ⟨(some 29), none, (.mv (.t 0))⟩,
      ⟨(some 30), none, (.len .str (.t 29))⟩,
      ⟨(some 4), none, (.mv (.t 28))⟩,
      ⟨(some 5), none, (.mv (.t 30))⟩,
      ⟨(some 6), none, (.mv (.c (.v (.bool true))))⟩])
    .ret)
    .skip)))))
    (.seq (.draw [⟨(some 31), none, (.mv (.t 7))⟩,
      ⟨(some 32), none, (.mv (.t 1))⟩,
      ⟨(some 33), none, (.bin .int .sub (.t 32) (.c (.v (.int .i64 1))))⟩,
      ⟨(some 34), none, (.iaddr 1 (.t 31) (.t 33))⟩,
      ⟨(some 35), none, (.load false 1 (.t 34))⟩,
      ⟨(some 36), none, (.mv (.t 7))⟩,
      ⟨(some 37), none, (.mv (.t 1))⟩,
      ⟨(some 38), none, (.iaddr 1 (.t 36) (.t 37))⟩,
      ⟨(some 39), none, (.load false 1 (.t 38))⟩,
      ⟨(some 4), none, (.mv (.t 35))⟩,
      ⟨(some 5), none, (.mv (.t 39))⟩,
      ⟨(some 6), none, (.mv (.c (.v (.bool true))))⟩] [])
    .ret))))⟩
theorem L38_ok : lowFn Try.prog Try.f38 [] = some L38 := by kernel_rfl

/-- strings.CutSuffix -/
def L39 : LFn := ⟨11, [(.tmp 4), (.tmp 5)], (.seq (.ops [⟨(some 4), none, (.mv (.c (.v (.string (mkS [])))))⟩,
      ⟨(some 5), none, (.mv (.c (.v (.bool false))))⟩])
    (.seq (.ops [⟨(some 6), none, (.mv (.t 0))⟩,
      ⟨(some 7), none, (.mv (.t 1))⟩,
      ⟨(some 8), none, (.call (.c (.fn (.func 47) [] [])) [(.t 6), (.t 7)])⟩,
      ⟨(some 9), none, (.ext (.t 8) 0)⟩,
      ⟨(some 10), none, (.ext (.t 8) 1)⟩,
      ⟨(some 4), none, (.mv (.t 9))⟩,
      ⟨(some 5), none, (.mv (.t 10))⟩])
    .ret))⟩
theorem L39_ok : lowFn Try.prog Try.f39 [] = some L39 := by kernel_rfl

/-- strings.TrimSuffix -/
def L40 : LFn := ⟨8, [(.tmp 4)], (.seq (.ops [⟨(some 4), none, (.mv (.c (.v (.string (mkS [])))))⟩])
    (.seq (.ops [⟨(some 5), none, (.mv (.t 0))⟩,
      ⟨(some 6), none, (.mv (.t 1))⟩,
      ⟨(some 7), none, (.call (.c (.fn (.func 48) [] [])) [(.t 5), (.t 6)])⟩,
      ⟨(some 4), none, (.mv (.t 7))⟩])
    .ret))⟩
theorem L40_ok : lowFn Try.prog Try.f40 [] = some L40 := by kernel_rfl

/-- internal_bytealg.LastIndexByteString -/
def L46 : LFn := ⟨19, [(.tmp 4)], (.seq (.ops [⟨(some 4), none, (.mv (.c (.v (.int .i64 0))))⟩])
    (.seq (.seq (.ops [⟨(some 6), none, (.mv (.t 0))⟩,
      ⟨(some 7), none, (.len .str (.t 6))⟩,
      ⟨(some 8), none, (.bin .int .sub (.t 7) (.c (.v (.int .i64 1))))⟩,
      ⟨(some 5), none, (.mv (.t 8))⟩])
    (.block 0 (.loop (.seq (.seq (.ops [⟨(some 9), none, (.mv (.t 5))⟩,
      ⟨(some 10), none, (.bin .int .geq (.t 9) (.c (.v (.int .i64 0))))⟩])
    (.cond (.t 10)
    .skip
    (.exit 0)))
    (.seq (.block 1 (.seq (.ops [⟨(some 13), none, (.mv (.t 0))⟩,
      ⟨(some 14), none, (.mv (.t 5))⟩,
      ⟨(some 15), none, (.idx (.t 13) (.t 14))⟩,
      ⟨(some 16), none, (.mv (.t 1))⟩,
      ⟨(some 17), none, (.bin .int .eql (.t 15) (.t 16))⟩])
    (.cond (.t 17)
    (.seq (.ops [⟨(some 18), none, (.mv (.t 5))⟩,
      ⟨(some 4), none, (.mv (.t 18))⟩])
    .ret)
    .skip)))
    (.ops [⟨(some 11), none, (.mv (.t 5))⟩,
      ⟨(some 12), none, (.bin .int .sub (.t 11) (.c (.v (.int .i64 1))))⟩,
      ⟨(some 5), none, (.mv (.t 12))⟩]))))))
    (.seq (.ops [⟨(some 4), none, (.mv (.c (.v (.int .i64 (-1)))))⟩])
    .ret)))⟩
theorem L46_ok : lowFn Try.prog Try.f46 [] = some L46 := by kernel_rfl

/-- internal_stringslite.CutSuffix -/
def L47 : LFn := ⟨18, [(.tmp 4), (.tmp 5)], (.seq (.ops [⟨(some 4), none, (.mv (.c (.v (.string (mkS [])))))⟩,
      ⟨(some 5), none, (.mv (.c (.v (.bool false))))⟩])
    (.seq (.seq (.ops [⟨(some 6), none, (.mv (.t 0))⟩,
      ⟨(some 7), none, (.mv (.t 1))⟩,
      ⟨(some 8), none, (.call (.c (.fn (.func 52) [] [])) [(.t 6), (.t 7)])⟩,
      ⟨(some 9), none, (.not (.t 8))⟩])
    (.cond (.t 9)
    (.seq (.ops [⟨(some 10), none, (.mv (.t 0))⟩,
      ⟨(some 4), none, (.mv (.t 10))⟩,
      ⟨(some 5), none, (.mv (.c (.v (.bool false))))⟩])
    .ret)
    .skip))
    (.seq (.ops [⟨(some 11), none, (.mv (.t 0))⟩,
      ⟨(some 12), none, (.mv (.t 0))⟩,
      ⟨(some 13), none, (.len .str (.t 12))⟩,
      ⟨(some 14), none, (.mv (.t 1))⟩,
      ⟨(some 15), none, (.len .str (.t 14))⟩,
      ⟨(some 16), none, (.bin .int .sub (.t 13) (.t 15))⟩,
      ⟨(some 17), none, (.slice .str 1 (.t 11) none (some (.t 16)))⟩,
      ⟨(some 4), none, (.mv (.t 17))⟩,
      ⟨(some 5), none, (.mv (.c (.v (.bool true))))⟩])
    .ret)))⟩
theorem L47_ok : lowFn Try.prog Try.f47 [] = some L47 := by kernel_rfl

/-- internal_stringslite.TrimSuffix -/
def L48 : LFn := ⟨16, [(.tmp 4)], (.seq (.ops [⟨(some 4), none, (.mv (.c (.v (.string (mkS [])))))⟩])
    (.seq (.seq (.ops [⟨(some 5), none, (.mv (.t 0))⟩,
      ⟨(some 6), none, (.mv (.t 1))⟩,
      ⟨(some 7), none, (.call (.c (.fn (.func 52) [] [])) [(.t 5), (.t 6)])⟩])
    (.cond (.t 7)
    (.seq (.ops [⟨(some 8), none, (.mv (.t 0))⟩,
      ⟨(some 9), none, (.mv (.t 0))⟩,
      ⟨(some 10), none, (.len .str (.t 9))⟩,
      ⟨(some 11), none, (.mv (.t 1))⟩,
      ⟨(some 12), none, (.len .str (.t 11))⟩,
      ⟨(some 13), none, (.bin .int .sub (.t 10) (.t 12))⟩,
      ⟨(some 14), none, (.slice .str 1 (.t 8) none (some (.t 13)))⟩,
      ⟨(some 4), none, (.mv (.t 14))⟩])
    .ret)
    .skip))
    (.seq (.ops [⟨(some 15), none, (.mv (.t 0))⟩,
      ⟨(some 4), none, (.mv (.t 15))⟩])
    .ret)))⟩
theorem L48_ok : lowFn Try.prog Try.f48 [] = some L48 := by kernel_rfl

/-- internal_stringslite.HasSuffix -/
def L52 : LFn := ⟨21, [(.tmp 4)], (.seq (.ops [⟨(some 4), none, (.mv (.c (.v (.bool false))))⟩])
    (.seq (.ops [⟨(some 5), none, (.mv (.t 0))⟩,
      ⟨(some 6), none, (.len .str (.t 5))⟩,
      ⟨(some 7), none, (.mv (.t 1))⟩,
      ⟨(some 8), none, (.len .str (.t 7))⟩,
      ⟨(some 9), none, (.bin .int .geq (.t 6) (.t 8))⟩,
      ⟨(some 10), none, (.mv (.t 9))⟩,
      ⟨(some 11), (some (10, true)), (.mv (.t 0))⟩,
      ⟨(some 12), (some (10, true)), (.mv (.t 0))⟩,
      ⟨(some 13), (some (10, true)), (.len .str (.t 12))⟩,
      ⟨(some 14), (some (10, true)), (.mv (.t 1))⟩,
      ⟨(some 15), (some (10, true)), (.len .str (.t 14))⟩,
      ⟨(some 16), (some (10, true)), (.bin .int .sub (.t 13) (.t 15))⟩,
      ⟨(some 17), (some (10, true)), (.slice .str 1 (.t 11) (some (.t 16)) none)⟩,
      ⟨(some 18), (some (10, true)), (.mv (.t 1))⟩,
      ⟨(some 19), (some (10, true)), (.bin .str .eql (.t 17) (.t 18))⟩,
      ⟨(some 20), none, (.pick (.t 10) (.t 19) (.c (.v (.bool false))))⟩,
      ⟨(some 4), none, (.mv (.t 20))⟩])
    .ret))⟩
theorem L52_ok : lowFn Try.prog Try.f52 [] = some L52 := by kernel_rfl

end Go.Proofs.Ytiibbkbcebccnaa

/- strings.Builder: copyCheck, WriteString, String, over values without addresses. -/
namespace Go.Proofs.Ytiibbkbcebccnaa
open Go Go.Ax Go.RowKit Go.Shelf
set_option maxRecDepth 100000
set_option linter.unusedSimpArgs false
set_option linter.unusedVariables false

def bldRen : Go.Shelf.Ren := ⟨fun | 240 => 43 | 276 => 51 | 169 => 34 | n => n, fun | 70 => 55 | 72 => 58 | 164 => 74 | 37 => 56 | 127 => 72 | n => n, fun | n => n⟩
theorem cpLay : Go.Proofs.Lays.n240 Try.prog bldRen := {
  mixed := by kernel_rfl
  f240 := Try.func43.trans (congrArg some (by kernel_rfl))
  f276 := Try.func51.trans (congrArg some (by kernel_rfl))
  t0 := Try.underlying0
  a0 := Try.isAgg0
  z0 := Try.sizeOf0
  v0 := Try.zeroValue0
  t4 := Try.underlying4
  a4 := Try.isAgg4
  z4 := Try.sizeOf4
  v4 := Try.zeroValue4
  t9 := Try.underlying9
  a9 := Try.isAgg9
  z9 := Try.sizeOf9
  v9 := Try.zeroValue9
  t20 := Try.underlying20
  a20 := Try.isAgg20
  z20 := Try.sizeOf20
  v20 := Try.zeroValue20
  t70 := Try.underlying55
  a70 := Try.isAgg55
  z70 := Try.sizeOf55
  v70 := Try.zeroValue55
  t72 := Try.underlying58
  a72 := Try.isAgg58
  z72 := Try.sizeOf58
  v72 := Try.zeroValue58
  t164 := Try.underlying74
  a164 := Try.isAgg74
  z164 := Try.sizeOf74
  v164 := Try.zeroValue74 }
theorem cpX : Go.Proofs.Builder.X72 Try.prog bldRen := { sizeBuilder := by kernel_rfl, liesBuilder := by kernel_rfl }
theorem repL1 {w : World} {M : Nat → Prop} {ρ : Nat → Ax.Loc} {n : Nat} {x : AV} {vs : Array Value} (h : RepL w M ρ n [x] vs) : ∃ a, vs = #[a] ∧ Rep w M ρ n x a := by
  obtain ⟨h1, h2⟩ := h
  match vs, h1 with
  | ⟨[a]⟩, _ => exact ⟨a, rfl, h2 0 x a rfl rfl⟩
theorem same_setCell (w : World) (a : Addr) (v : Value) : Same w (w.setCell a v) := ⟨rfl, rfl, rfl, by simp [World.setCell]⟩

/-- The type of strings.Builder. -/
abbrev bT : TypeId := 58
theorem copyFresh (r : Nat) (y : AV) (H : AHeap) (hr : H[r]? = some (.box [.bnil bT, y])) : ACall Try.prog 43 [.ptr r 0 0] H fun x H' => x = .tup [] ∧ H' = H.set r (.box [.ptr r 0 0, y]) := by
  refine ⟨⟨_, Try.func43, by kernel_rfl, by kernel_rfl⟩, fun X ρ w vs hrel hargs => ?_⟩
  obtain ⟨a, rfl, ha⟩ := repL1 hargs
  obtain ⟨hrl, b, c, e, fr, hblk, rfl, hh, hl, hfr, hver, hrep⟩ := ptr_box hrel ha hr rfl
  obtain ⟨rfl, rfl⟩ := box_bn hrel hr hblk hh bT rfl
  obtain ⟨c0, c1, rfl⟩ : ∃ c0 c1, c = #[c0, c1] := by
    match c, hl with
    | ⟨[a, b]⟩, _ => exact ⟨a, b, rfl⟩
  obtain ⟨h0, h0'⟩ := hrep 0 (.bnil bT) c0 rfl rfl
  obtain ⟨h1, h1'⟩ := hrep 1 y c1 rfl rfl
  cases h0
  refine (Go.Proofs.Any.Builder_copyCheck_fresh cpLay cpX b w (cell_of_blk hh 0) (by simp [World.shape?, hh]; rfl) (by simp [World.frozen?, hh])).mono ?_
  rintro en w' ⟨rfl, rfl⟩
  obtain ⟨ρ', hρ, g1, g2⟩ := hrel.setAt (w' := w.setCell ⟨b, 0, none⟩ (.pointer (some ⟨b, 0, none⟩))) hrl (ρ r) (.box [.ptr r 0 0, y]) (same_setCell _ _ _) (.inl rfl) (fun b o hb => .inl ⟨o, hb⟩)
    (fun b' _ hne => Below.heap_setCell _ _ _ _ (fun e => hne 0 (by rw [e]; exact hblk)))
    (fun ρ' hρ' hf => by
      refine ⟨hver, b, #[.pointer (some ⟨b, 0, none⟩), c1], bT, (0, 0), hblk, by simp [World.setCell, Array.getElem?_modify, hh], rfl, ⟨.inl rfl, fun t ht => by cases ht⟩, fun j z u hz hu => ?_⟩
      match j with
      | 0 =>
        cases hz; cases hu
        refine ⟨.ptr _ _ _ _ _ hrl (Nat.zero_le _) rfl fun _ => ⟨b, 0, ?_, rfl⟩, rfl⟩
        rw [hρ']
        simpa using hblk
      | 1 => cases hz; cases hu; exact ⟨h1.nextN hf, h1'⟩
      | j + 2 => cases hz)
  exact ⟨_, _, _, ρ', rfl, ⟨rfl, rfl⟩, g1, .tup _ _ _ rfl fun i x u hx => by simp at hx, g2⟩
theorem copyUsed (r : Nat) (y : AV) (H : AHeap) (hr : H[r]? = some (.box [.ptr r 0 0, y])) : ACall Try.prog 43 [.ptr r 0 0] H fun x H' => x = .tup [] ∧ H' = H := by
  refine ⟨⟨_, Try.func43, by kernel_rfl, by kernel_rfl⟩, fun X ρ w vs hrel hargs => ?_⟩
  obtain ⟨a, rfl, ha⟩ := repL1 hargs
  obtain ⟨hrl, b, c, e, fr, hblk, rfl, hh, hl, hfr, hver, hrep⟩ := ptr_box hrel ha hr rfl
  obtain ⟨c0, c1, rfl⟩ : ∃ c0 c1, c = #[c0, c1] := by
    match c, hl with
    | ⟨[a, b]⟩, _ => exact ⟨a, b, rfl⟩
  obtain ⟨h0, h0'⟩ := hrep 0 (.ptr r 0 0) c0 rfl rfl
  have hc0 : c0 = .pointer (some ⟨b, 0, none⟩) := by
    cases h0 with
    | ptr _ _ _ _ _ _ _ _ hp =>
      obtain ⟨b', o', e1, rfl⟩ := hp (by rw [hver])
      rw [hblk] at e1
      cases e1
      rfl
  subst hc0
  refine (Go.Proofs.Any.Builder_copyCheck_used cpLay cpX b w (cell_of_blk hh 0)).mono ?_
  rintro en w' ⟨rfl, rfl⟩
  exact ⟨_, _, _, ρ, rfl, ⟨rfl, rfl⟩, hrel, .tup _ _ _ rfl fun i x u hx => by simp at hx, Fut.refl _ _ _⟩
#print axioms copyFresh
#print axioms copyUsed
end Go.Proofs.Ytiibbkbcebccnaa

/- strings.Builder: WriteString, String: the bytes that are held. -/
namespace Go.Proofs.Ytiibbkbcebccnaa
open Go Go.Ax Go.RowKit
set_option maxRecDepth 100000
set_option linter.unusedSimpArgs false
set_option linter.unusedVariables false

abbrev u8T : TypeId := 5
/-- Object r is a builder that holds these bytes; all that it owns is number n0 or later. -/
def BSt (n0 r : Nat) (l : List UInt8) (H : AHeap) : Prop := n0 ≤ r ∧ ((H[r]? = some (.box [.bnil bT, nilS]) ∧ l = []) ∨ (H[r]? = some (.box [.ptr r 0 0, nilS]) ∧ l = []) ∨ ∃ k v, n0 ≤ k ∧ l ≠ [] ∧ H[r]? = some (.box [.ptr r 0 0, .os k v 0 l.length]) ∧ H[k]? = some (.barr u8T v l))
/-- What a write to builder r leaves. -/
def Kp (n0 r : Nat) (H H' : AHeap) : Prop := H.length ≤ H'.length ∧ (∀ i, i < n0 → H'[i]? = H[i]?) ∧ ∀ i cs, i ≠ r → H[i]? = some (.box cs) → H'[i]? = some (.box cs)
theorem Kp.refl (n0 r : Nat) (H : AHeap) : Kp n0 r H H := ⟨Nat.le_refl _, fun _ _ => rfl, fun _ _ _ h => h⟩
theorem Kp.trans {n0 r : Nat} {A B C : AHeap} (h : Kp n0 r A B) (k : Kp n0 r B C) : Kp n0 r A C := ⟨Nat.le_trans h.1 k.1, fun i hi => (k.2.1 i hi).trans (h.2.1 i hi), fun i cs hi hc => k.2.2 i cs hi (h.2.2 i cs hi hc)⟩

theorem writeC (n0 r : Nat) (l s : List UInt8) (H : AHeap) (hb : BSt n0 r l H) (hn : n0 ≤ H.length) (hl : l.length + s.length ≤ 140737488355328) :
    ACall Try.prog 33 [.ptr r 0 0, str s] H fun x H' => x = .tup [int s.length, .v .nilIface] ∧ BSt n0 r (l ++ s) H' ∧ Kp n0 r H H' := by
  obtain ⟨hr0, ⟨hr, rfl⟩ | ⟨hr, rfl⟩ | ⟨k, v, hk0, hl0, hr, hk⟩⟩ := hb
  · have hlt : r < H.length := (List.getElem?_eq_some_iff.1 hr).1
    refine enter Try.func33 L33_ok (Nat.le_of_ble_eq_true rfl) ?_
    simp -implicitDefEqProofs (disch := omega) only [L33, dT_lt, dF_lt, dT_le, dF_le, dT_eq, dF_eq, push_cast, ↓reduceIte, Nat.reduceEqDiff, reduceCtorEq, Nat.reduceAdd, Nat.reduceSub, Nat.reduceMul, Nat.reduceLeDiff, Nat.reduceLT, Nat.reduceMod, Nat.reduceDiv, Int.reduceToNat, Int.reduceLT, Int.reduceLE, Int.reduceEq, Int.reduceAdd, Int.reduceSub, Int.reduceNeg, Int.reduceMul, Bool.and_self]
    refine callF_mono (copyFresh r nilS H hr) ?_
    rintro x H' ⟨rfl, rfl⟩
    have h1 : (H.set r (.box [.ptr r 0 0, nilS]))[r]? = some (.box [.ptr r 0 0, nilS]) := by rw [List.getElem?_set_self hlt]
    have h2 : ∀ (A B : HO) l, (H.set r A ++ l).set r B = H.set r B ++ l := fun A B l => by rw [List.set_append_left _ _ (by simpa using hlt), List.set_set]
    have h3 : ∀ (A : HO) l, (H.set r A ++ l)[r]? = some A := fun A l => by rw [List.getElem?_append_left (by simpa using hlt), List.getElem?_set_self hlt]
    have h4 : ∀ (A : HO), (H.set r A).length = H.length := fun A => List.length_set ..
    have h5 : ∀ (A B : HO), (H.set r A).set r B = H.set r B := fun A B => List.set_set ..
    simp only [List.length_nil, Nat.zero_add] at hl
    by_cases hs : s = []
    · subst hs
      repeat' (first | (refine And.intro (by omega) ?_) | simp -implicitDefEqProofs (disch := omega) only [h1, h2, h3, h4, h5, splice, List.length_nil, dT_lt, dF_lt, dT_le, dF_le, dT_eq, dF_eq, push_cast, ↓reduceIte, Nat.reduceEqDiff, reduceCtorEq, Nat.reduceAdd, Nat.reduceSub, Nat.reduceMul, Nat.reduceLeDiff, Nat.reduceLT, Nat.reduceMod, Nat.reduceDiv, Int.reduceToNat, Int.reduceLT, Int.reduceLE, Int.reduceEq, Int.reduceAdd, Int.reduceSub, Int.reduceNeg, Int.reduceMul, Bool.and_self] | split)
      refine ⟨⟨hr0, .inr (.inl ⟨h1, rfl⟩)⟩, by simp, fun i hi => ?_, fun i cs hi hc => ?_⟩
      · rw [List.getElem?_set_ne (by omega)]
      · rw [List.getElem?_set_ne (fun e => hi e.symm)]; exact hc
    · repeat' (first | (refine And.intro (by omega) ?_) | simp -implicitDefEqProofs (disch := omega) only [h1, h2, h3, h4, splice, rAppendBZ_ne u8T hs, dT_lt, dF_lt, dT_le, dF_le, dT_eq, dF_eq, push_cast, ↓reduceIte, Nat.reduceEqDiff, reduceCtorEq, Nat.reduceAdd, Nat.reduceSub, Nat.reduceMul, Nat.reduceLeDiff, Nat.reduceLT, Nat.reduceMod, Nat.reduceDiv, Int.reduceToNat, Int.reduceLT, Int.reduceLE, Int.reduceEq, Int.reduceAdd, Int.reduceSub, Int.reduceNeg, Int.reduceMul, Bool.and_self] | split)
      refine ⟨⟨hr0, .inr (.inr ⟨H.length, 0, hn, by simpa using hs, ?_, ?_⟩)⟩, ?_, ?_, ?_⟩
      · rw [List.getElem?_append_left (by simpa using hlt), List.getElem?_set_self hlt]
      · rw [List.getElem?_append_right (by simp)]; simp
      · simp
      · intro i hi
        rw [List.getElem?_append_left (by simp; omega), List.getElem?_set_ne (by omega)]
      · intro i cs hi hc
        have := (List.getElem?_eq_some_iff.1 hc).1
        rw [List.getElem?_append_left (by simpa using this), List.getElem?_set_ne (fun e => hi e.symm)]
        exact hc
  · have hlt : r < H.length := (List.getElem?_eq_some_iff.1 hr).1
    refine enter Try.func33 L33_ok (Nat.le_of_ble_eq_true rfl) ?_
    simp -implicitDefEqProofs (disch := omega) only [L33, dT_lt, dF_lt, dT_le, dF_le, dT_eq, dF_eq, push_cast, ↓reduceIte, Nat.reduceEqDiff, reduceCtorEq, Nat.reduceAdd, Nat.reduceSub, Nat.reduceMul, Nat.reduceLeDiff, Nat.reduceLT, Nat.reduceMod, Nat.reduceDiv, Int.reduceToNat, Int.reduceLT, Int.reduceLE, Int.reduceEq, Int.reduceAdd, Int.reduceSub, Int.reduceNeg, Int.reduceMul, Bool.and_self]
    refine callF_mono (copyUsed r nilS H hr) ?_
    rintro x H' ⟨rfl, hH⟩
    rw [hH]
    clear hH H'
    have h3 : ∀ l, (H ++ l)[r]? = some (HO.box [.ptr r 0 0, nilS]) := fun l => by rw [List.getElem?_append_left hlt]; exact hr
    have h2 : ∀ (B : HO) l, (H ++ l).set r B = H.set r B ++ l := fun B l => by rw [List.set_append_left _ _ hlt]
    simp only [List.length_nil, Nat.zero_add] at hl
    by_cases hs : s = []
    · subst hs
      repeat' (first | (refine And.intro (by omega) ?_) | simp -implicitDefEqProofs (disch := omega) only [hr, splice, List.length_nil, dT_lt, dF_lt, dT_le, dF_le, dT_eq, dF_eq, push_cast, ↓reduceIte, Nat.reduceEqDiff, reduceCtorEq, Nat.reduceAdd, Nat.reduceSub, Nat.reduceMul, Nat.reduceLeDiff, Nat.reduceLT, Nat.reduceMod, Nat.reduceDiv, Int.reduceToNat, Int.reduceLT, Int.reduceLE, Int.reduceEq, Int.reduceAdd, Int.reduceSub, Int.reduceNeg, Int.reduceMul, Bool.and_self] | split)
      refine ⟨⟨hr0, .inr (.inl ⟨by rw [List.getElem?_set_self hlt], rfl⟩)⟩, by simp, fun i hi => ?_, fun i cs hi hc => ?_⟩
      · rw [List.getElem?_set_ne (by omega)]
      · rw [List.getElem?_set_ne (fun e => hi e.symm)]; exact hc
    · repeat' (first | (refine And.intro (by omega) ?_) | simp -implicitDefEqProofs (disch := omega) only [hr, h2, h3, splice, rAppendBZ_ne u8T hs, dT_lt, dF_lt, dT_le, dF_le, dT_eq, dF_eq, push_cast, ↓reduceIte, Nat.reduceEqDiff, reduceCtorEq, Nat.reduceAdd, Nat.reduceSub, Nat.reduceMul, Nat.reduceLeDiff, Nat.reduceLT, Nat.reduceMod, Nat.reduceDiv, Int.reduceToNat, Int.reduceLT, Int.reduceLE, Int.reduceEq, Int.reduceAdd, Int.reduceSub, Int.reduceNeg, Int.reduceMul, Bool.and_self] | split)
      refine ⟨⟨hr0, .inr (.inr ⟨H.length, 0, hn, by simpa using hs, ?_, ?_⟩)⟩, ?_, ?_, ?_⟩
      · rw [List.getElem?_append_left (by simpa using hlt), List.getElem?_set_self hlt]
      · rw [List.getElem?_append_right (by simp)]; simp
      · simp
      · intro i hi
        rw [List.getElem?_append_left (by simp; omega), List.getElem?_set_ne (by omega)]
      · intro i cs hi hc
        have := (List.getElem?_eq_some_iff.1 hc).1
        rw [List.getElem?_append_left (by simpa using this), List.getElem?_set_ne (fun e => hi e.symm)]
        exact hc
  · have hlt : r < H.length := (List.getElem?_eq_some_iff.1 hr).1
    have hkl : k < H.length := (List.getElem?_eq_some_iff.1 hk).1
    have hne : r ≠ k := fun e => by subst e; rw [hr] at hk; cases hk
    refine enter Try.func33 L33_ok (Nat.le_of_ble_eq_true rfl) ?_
    simp -implicitDefEqProofs (disch := omega) only [L33, dT_lt, dF_lt, dT_le, dF_le, dT_eq, dF_eq, push_cast, ↓reduceIte, Nat.reduceEqDiff, reduceCtorEq, Nat.reduceAdd, Nat.reduceSub, Nat.reduceMul, Nat.reduceLeDiff, Nat.reduceLT, Nat.reduceMod, Nat.reduceDiv, Int.reduceToNat, Int.reduceLT, Int.reduceLE, Int.reduceEq, Int.reduceAdd, Int.reduceSub, Int.reduceNeg, Int.reduceMul, Bool.and_self]
    refine callF_mono (copyUsed r _ H hr) ?_
    rintro x H' ⟨rfl, hH⟩
    rw [hH]
    clear hH H'
    have h2 : ∀ A : HO, (H.set k A)[r]? = some (.box [.ptr r 0 0, .os k v 0 l.length]) := fun A => by rw [List.getElem?_set_ne (fun e => hne e.symm)]; exact hr
    repeat' (first | (refine And.intro (by omega) ?_) | simp -implicitDefEqProofs (disch := omega) only [hr, hk, h2, splice, dT_lt, dF_lt, dT_le, dF_le, dT_eq, dF_eq, push_cast, ↓reduceIte, Nat.reduceEqDiff, reduceCtorEq, Nat.reduceAdd, Nat.reduceSub, Nat.reduceMul, Nat.reduceLeDiff, Nat.reduceLT, Nat.reduceMod, Nat.reduceDiv, Int.reduceToNat, Int.reduceLT, Int.reduceLE, Int.reduceEq, Int.reduceAdd, Int.reduceSub, Int.reduceNeg, Int.reduceMul, Bool.and_self] | split)
    refine ⟨⟨hr0, .inr (.inr ⟨k, v + 1, hk0, by simp [hl0], ?_, ?_⟩)⟩, ?_, ?_, ?_⟩
    · rw [List.getElem?_set_self (by simpa using hlt), List.length_append]
    · rw [List.getElem?_set_ne hne, List.getElem?_set_self hkl]
    · simp
    · intro i hi
      rw [List.getElem?_set_ne (by omega), List.getElem?_set_ne (by omega)]
    · intro i cs hi hc
      have hik : k ≠ i := fun e => by subst e; rw [hk] at hc; cases hc
      rw [List.getElem?_set_ne (fun e => hi e.symm), List.getElem?_set_ne hik]
      exact hc
#print axioms writeC

theorem strLay : Go.Proofs.Lays.n169 Try.prog bldRen := {
  mixed := by kernel_rfl
  f169 := Try.func34.trans (congrArg some (by kernel_rfl))
  t0 := Try.underlying0
  a0 := Try.isAgg0
  z0 := Try.sizeOf0
  v0 := Try.zeroValue0
  t3 := Try.underlying3
  a3 := Try.isAgg3
  z3 := Try.sizeOf3
  v3 := Try.zeroValue3
  t9 := Try.underlying9
  a9 := Try.isAgg9
  z9 := Try.sizeOf9
  v9 := Try.zeroValue9
  t37 := Try.underlying56
  a37 := Try.isAgg56
  z37 := Try.sizeOf56
  v37 := Try.zeroValue56
  t70 := Try.underlying55
  a70 := Try.isAgg55
  z70 := Try.sizeOf55
  v70 := Try.zeroValue55
  t72 := Try.underlying58
  a72 := Try.isAgg58
  z72 := Try.sizeOf58
  v72 := Try.zeroValue58
  t127 := Try.underlying72
  a127 := Try.isAgg72
  z127 := Try.sizeOf72
  v127 := Try.zeroValue72 }

/-- unsafe.String over bytes in a row: the bytes, copied; in the row they are frozen. -/
theorem run_unsafeString_at {P : Program} (w : World) (pt it ty e : TypeId) (hp : P.underlying pt = some (.pointer e)) (g o cells : Nat) (hsh : w.shape? g = some (e, cells)) (hc : P.cellsOf e = 1) (l : List UInt8) (h0 : l ≠ []) (hn : o + l.length ≤ cells) (h63 : l.length ≤ 9223372036854775807)
    (hlies : liesAt P P.depth e (cells / P.cellsOf e) o e l.length = true)
    (hcell : ∀ j x, l[j]? = some x → w.cell? ((⟨g, o, none⟩ : Addr).add j) = some (.int .u8 x.toNat)) :
    (Builtin.unsafeString_ #[pt, it] ty #[.pointer (some ⟨g, o, none⟩), .int .i64 l.length]).run P w = .ok (.string ⟨l.toArray⟩) (w.freeze ⟨g, o, none⟩ l.length) := by
  have hl : l.length ≠ 0 := by simpa using h0
  have hlb := Go.Lib.run_loadBytes (P := P) w l ⟨g, o, none⟩ .empty hcell
  have h63' : ¬ (9223372036854775807 : Int) < (l.length : Int) := by omega
  have hdef : Builtin.unsafeString_ #[pt, it] ty #[.pointer (some ⟨g, o, none⟩), .int .i64 l.length] =
      (do
        let n ← asInt (.int .i64 l.length)
        if n < 0 then runtimePanic (.error "unsafe.String: len out of range")
        if n > IntKind.i64.max then unsupported (.unsafePointer "String: a length above the largest int")
        if n = 0 then pure (.string .empty)
        else if ← variablesAt ⟨g, o, none⟩ (← elemOf pt) n.toNat then do
          let s ← loadBytes ⟨g, o, none⟩ .empty n.toNat
          freeze ⟨g, o, none⟩ n.toNat
          pure (.string s)
        else unsupported (.unsafePointer "String: not so many bytes at ptr")) := rfl
  rw [hdef]
  have hmax : IntKind.i64.max = 9223372036854775807 := rfl
  have hneg : ¬ (l.length : Int) < 0 := by omega
  simp [asInt, asIntOf, hmax, h63', hneg, hl, variablesAt, hsh, elemOf, run_underlying hp, hlies, hlb]
theorem lies_bytes {P : Program} {e : TypeId} (hc : P.cellsOf e = 1) (count o n : Nat) (hn : o + n ≤ count) : liesAt P P.depth e count o e n = true := by
  have hd : P.depth = (2 * (P.types.size + Made.depth) + 1) + 1 := rfl
  rw [hd]
  simp only [liesAt, Bool.or_eq_true]
  left
  rw [hd]
  simp [rowAt, hc, sameLayout]
  try omega

/-- String's walk, and what it leaves: the bytes' own row alone may have changed. -/
theorem string_walk (b : Nat) (p v : Value) (l : List UInt8) (w : World) {T : TypeId} {fr0 : Nat × Nat} (hbk : w.heap[b]? = some (.cells #[p, v] T fr0))
    (hv : (v = .slice none 0 0 ∧ l = []) ∨ (l ≠ [] ∧ ∃ g o cap cur fr, v = .slice (some ⟨g, o, none⟩) l.length cap ∧ l.length ≤ cap ∧ w.heap[g]? = some (.cells cur u8T fr) ∧ o + l.length ≤ cur.size ∧ l.length ≤ 140737488355328 ∧ ∀ (i : Nat) (x : UInt8), l[i]? = some x → cur[o + i]? = some (.int .u8 x.toNat))) :
    Calls Try.prog 34 #[.pointer (some ⟨b, 0, none⟩)] w fun e w' => e = .returned (.string (mkS l)) ∧ Same w w' ∧ ∀ k, k < w.heap.size → (∀ a n c, v = .slice (some a) n c → k ≠ a.block) → w'.heap[k]? = w.heap[k]? := by
  have L := strLay
  have mixed := L.mixed
  have t72 := L.t72; have a72 := L.a72; have z72 := L.z72; have v72 := L.v72; have u72 := run_underlying L.t72
  have t70 := L.t70; have a70 := L.a70; have z70 := L.z70; have v70 := L.v70; have u70 := run_underlying L.t70
  have t37 := L.t37; have a37 := L.a37; have z37 := L.z37; have v37 := L.v37; have u37 := run_underlying L.t37
  have t127 := L.t127; have a127 := L.a127; have z127 := L.z127; have v127 := L.v127; have u127 := run_underlying L.t127
  have t3 := L.t3; have a3 := L.a3; have z3 := L.z3; have v3 := L.v3; have u3 := run_underlying L.t3
  have t9 := L.t9; have a9 := L.a9; have z9 := L.z9; have v9 := L.v9; have u9 := run_underlying L.t9
  rcases hv with ⟨rfl, rfl⟩ | ⟨h0, g, o, cap, cur, fr, rfl, hlc, hg, hfit, hle, hcells⟩
  · have hUS : ∀ (W : World) (q : Option Addr), (Builtin.unsafeString_ #[(bldRen.t 127), (bldRen.t 3)] (bldRen.t 9) #[.pointer q, .int .i64 0]).run Try.prog W = .ok (.string .empty) W := fun W q => Go.Lib.run_unsafeString_none W _ _ _ q
    have c1 : w.drew.cell? ⟨b, 1, none⟩ = some (.slice none 0 0) := by
      have : w.drew.heap[b]? = some (.cells #[p, .slice none 0 0] T fr0) := hbk
      rw [Go.Lib.cell_of_heap this]; rfl
    have hSD : (Builtin.unsafeSliceData_ #[(bldRen.t 37)] (bldRen.t 127) #[.slice none 0 0]).run Try.prog w.drew = .ok (.pointer none) w.drew := rfl
    go_enter L.f169, Go.Proofs.Body.n169_ntmps bldRen
    go_wp2
    go_region_o
    all_goals (go_wp2; go_ret; exact ⟨rfl, Same.drew _, fun _ _ _ => rfl⟩)
  · have hcl : Try.prog.cellsOf u8T = 1 := by kernel_rfl
    have hl0 : l.length ≠ 0 := by simpa using h0
    have c1 : w.drew.cell? ⟨b, 1, none⟩ = some (.slice (some ⟨g, o, none⟩) l.length cap) := by
      have : w.drew.heap[b]? = some (.cells #[p, .slice (some ⟨g, o, none⟩) l.length cap] T fr0) := hbk
      rw [Go.Lib.cell_of_heap this]; rfl
    have hSD : (Builtin.unsafeSliceData_ #[(bldRen.t 37)] (bldRen.t 127) #[.slice (some ⟨g, o, none⟩) l.length cap]).run Try.prog w.drew = .ok (.pointer (some ⟨g, o, none⟩)) w.drew :=
      Go.Lib.run_unsafeSliceData_row _ _ _ _ _ _ (by omega)
    have hUS : (Builtin.unsafeString_ #[(bldRen.t 127), (bldRen.t 3)] (bldRen.t 9) #[.pointer (some ⟨g, o, none⟩), .int .i64 l.length]).run Try.prog w.drew = .ok (.string ⟨l.toArray⟩) (w.drew.freeze ⟨g, o, none⟩ l.length) := by
      have hg' : w.drew.heap[g]? = some (.cells cur u8T fr) := hg
      refine run_unsafeString_at w.drew _ _ _ u8T L.t127 g o cur.size (by simp [World.shape?, hg']) hcl l h0 hfit (by omega) (lies_bytes hcl _ _ _ (by rw [hcl]; simpa using hfit)) ?_
      intro j x hx
      rw [Addr.add_lit, cell_of_blk hg']
      exact hcells j x hx
    go_enter L.f169, Go.Proofs.Body.n169_ntmps bldRen
    go_wp2
    go_region_o
    all_goals (go_wp2; go_ret; refine ⟨rfl, ?_, fun k _ hk => ?_⟩)
    all_goals first
      | (unfold World.freeze; rw [if_neg hl0]; exact ⟨rfl, rfl, rfl, by simp⟩)
      | (unfold World.freeze
         rw [if_neg hl0]
         simp only [Array.getElem?_modify]
         rw [if_neg (fun e => hk _ _ _ rfl e.symm)]
         rfl)
#print axioms string_walk
theorem stringC (n0 r : Nat) (l : List UInt8) (H : AHeap) (hb : BSt n0 r l H) (hl : l.length ≤ 140737488355328) : ACall Try.prog 34 [.ptr r 0 0] H fun x H' => x = str l ∧ Kp n0 r H H' := by
  refine ⟨⟨_, Try.func34, by kernel_rfl, by kernel_rfl⟩, fun X ρ w vs hrel hargs => ?_⟩
  obtain ⟨a, rfl, ha⟩ := repL1 hargs
  have nilcase : ∀ x0, H[r]? = some (.box [x0, nilS]) → l = [] → Calls Try.prog 34 #[a] w fun e w' => ∃ v x H' ρ', e = .returned v ∧ (x = str l ∧ Kp n0 r H H') ∧ HRel w' X ρ' H' ∧ Rep w' (Mut X ρ' H'.length) ρ' H'.length x v ∧ Fut w ρ H.length w' ρ' H'.length := by
    intro x0 hr hl0
    obtain ⟨hrl, b, c, e, fr, hblk, rfl, hh, hcl, hfr, hver, hrep⟩ := ptr_box hrel ha hr rfl
    obtain ⟨c0, c1, rfl⟩ : ∃ c0 c1, c = #[c0, c1] := by
      match c, hcl with
      | ⟨[a, b]⟩, _ => exact ⟨a, b, rfl⟩
    have h1 := rep_vx' (hrep 1 nilS c1 rfl rfl).1
    subst h1
    refine (string_walk b c0 _ l w hh (.inl ⟨rfl, hl0⟩)).mono ?_
    rintro en w' ⟨rfl, hs, hk⟩
    obtain ⟨g1, g2⟩ := hrel.more hs fun k hk' => hk k hk' fun a n c hc => by cases hc
    exact ⟨_, _, H, ρ, rfl, ⟨rfl, Kp.refl _ _ _⟩, g1, .v _ _, g2⟩
  obtain ⟨hr0, ⟨hr, hl0⟩ | ⟨hr, hl0⟩ | ⟨k, v, hk0, hl0, hr, hk⟩⟩ := hb
  · exact nilcase _ hr hl0
  · exact nilcase _ hr hl0
  · obtain ⟨hrl, b, c, e, fr, hblk, rfl, hh, hcl, hfr, hver, hrep⟩ := ptr_box hrel ha hr rfl
    obtain ⟨c0, c1, rfl⟩ : ∃ c0 c1, c = #[c0, c1] := by
      match c, hcl with
      | ⟨[a, b]⟩, _ => exact ⟨a, b, rfl⟩
    have h1 := (hrep 1 (.os k v 0 l.length) c1 rfl rfl).1
    obtain ⟨hkl, hver', hsz', hext, ⟨a, cap, rfl, hlc, hcap⟩, hbk⟩ := os_barr hrel h1 hk rfl
    have hll : l.length ≠ 0 := by simpa using hl0
    rcases hcap with hc0 | ⟨g, o, hg, rfl, he⟩
    · omega
    rw [hg] at hbk
    obtain ⟨cur, fr2, hh2, hsize, hfr2, hcells⟩ := hbk
    rw [hsz'] at he
    simp only [Nat.zero_mul, Nat.add_zero, Nat.zero_add, Nat.mul_one] at he hh
    refine (string_walk b c0 _ l w hh (.inr ⟨hl0, g, o, cap, cur, fr2, rfl, hlc, hh2, by omega, hl, hcells⟩)).mono ?_
    rintro en w' ⟨rfl, hs, hkp⟩
    obtain ⟨ρ', hρ, g1, g2⟩ := hrel.setAt (w' := w') hkl (ρ k) .dead hs (.inl rfl) (fun b o hb => .inl ⟨o, hb⟩)
      (fun b' hb' hne => hkp b' hb' fun a n c hc => by
        cases hc
        exact fun e => hne o (by rw [e]; exact hg))
      (fun ρ' hρ' hf => trivial)
    refine ⟨_, _, H.set k .dead, ρ', rfl, ⟨rfl, by simp, fun i hi => ?_, fun i cs hi hc => ?_⟩, g1, .v _ _, g2⟩
    · rw [List.getElem?_set_ne (by omega)]
    · rw [List.getElem?_set_ne (fun e => by subst e; rw [hk] at hc; cases hc)]
      exact hc
#print axioms stringC
end Go.Proofs.Ytiibbkbcebccnaa

/- The contracts of the library at this translation, laid by the kit's program. -/
namespace Go.Proofs
open Go.Shelf
def Try.lays169_ren : Go.Shelf.Ren := ⟨fun | 169 => 34 | n => n, fun | 70 => 55 | 9 => 9 | 0 => 0 | 72 => 58 | 37 => 56 | 127 => 72 | 3 => 3 | 5 => 5 | n => n, fun | n => n⟩
theorem Try.lays169 : Go.Proofs.Lays.n169 Try.prog Try.lays169_ren := {
  mixed := by kernel_rfl
  f169 := Try.func34.trans (congrArg some (by kernel_rfl))
  t0 := Try.underlying0
  a0 := Try.isAgg0
  z0 := Try.sizeOf0
  v0 := Try.zeroValue0
  t3 := Try.underlying3
  a3 := Try.isAgg3
  z3 := Try.sizeOf3
  v3 := Try.zeroValue3
  t9 := Try.underlying9
  a9 := Try.isAgg9
  z9 := Try.sizeOf9
  v9 := Try.zeroValue9
  t37 := Try.underlying56
  a37 := Try.isAgg56
  z37 := Try.sizeOf56
  v37 := Try.zeroValue56
  t70 := Try.underlying55
  a70 := Try.isAgg55
  z70 := Try.sizeOf55
  v70 := Try.zeroValue55
  t72 := Try.underlying58
  a72 := Try.isAgg58
  z72 := Try.sizeOf58
  v72 := Try.zeroValue58
  t127 := Try.underlying72
  a127 := Try.isAgg72
  z127 := Try.sizeOf72
  v127 := Try.zeroValue72 }
theorem Try.Builder_Extra_169 : Builder.Extra Try.prog Try.lays169_ren := {
  sizeBuilder := by kernel_rfl
  liesBuilder := by kernel_rfl
  t5 := Try.underlying5
  a5 := Try.isAgg5
  z5 := Try.sizeOf5
  v5 := Try.zeroValue5
  infoByte := by kernel_rfl
  cellsByte := by kernel_rfl
  sizeByte := by kernel_rfl
  neB5 := by decide }
open Go.RowKit in
theorem Try.Builder_String (B b : Nat) (l : List UInt8) (w : World) (h : Lib.IsBuilder 58 5 B b (Lib.byteCells l) w) (h0 : l ≠ []) :
    Calls Try.prog 34 #[.pointer (some ⟨b, 0, none⟩)] w fun e w' => e = .returned (.string ⟨l.toArray⟩) ∧ Below B w w' := Any.Builder_String Try.lays169 Try.Builder_Extra_169 B b l w h h0
open Go.RowKit in
theorem Try.Builder_String_empty (B b : Nat) (w : World) (h : Lib.IsBuilder 58 5 B b [] w) (hBw : B ≤ w.heap.size) :
    Calls Try.prog 34 #[.pointer (some ⟨b, 0, none⟩)] w fun e w' => e = .returned (.string ⟨#[]⟩) ∧ Below B w w' := Any.Builder_String_empty Try.lays169 Try.Builder_Extra_169 B b w h hBw
open Go.RowKit in
theorem Try.Builder_String_any (B b : Nat) (l : List UInt8) (w : World) (h : Lib.IsBuilder 58 5 B b (Lib.byteCells l) w) (hBw : B ≤ w.heap.size) :
    Calls Try.prog 34 #[.pointer (some ⟨b, 0, none⟩)] w fun e w' => e = .returned (.string ⟨l.toArray⟩) ∧ Below B w w' := Any.Builder_String_any Try.lays169 Try.Builder_Extra_169 B b l w h hBw
def Try.lays241_ren : Go.Shelf.Ren := ⟨fun | 241 => 50 | 277 => 57 | n => n, fun | 70 => 55 | 3 => 3 | 0 => 0 | 72 => 58 | 37 => 56 | 5 => 5 | n => n, fun | n => n⟩
theorem Try.lays241 : Go.Proofs.Lays.n241 Try.prog Try.lays241_ren := {
  mixed := by kernel_rfl
  f241 := Try.func50.trans (congrArg some (by kernel_rfl))
  f277 := Try.func57.trans (congrArg some (by kernel_rfl))
  t0 := Try.underlying0
  a0 := Try.isAgg0
  z0 := Try.sizeOf0
  v0 := Try.zeroValue0
  t3 := Try.underlying3
  a3 := Try.isAgg3
  z3 := Try.sizeOf3
  v3 := Try.zeroValue3
  t37 := Try.underlying56
  a37 := Try.isAgg56
  z37 := Try.sizeOf56
  v37 := Try.zeroValue56
  t70 := Try.underlying55
  a70 := Try.isAgg55
  z70 := Try.sizeOf55
  v70 := Try.zeroValue55
  t72 := Try.underlying58
  a72 := Try.isAgg58
  z72 := Try.sizeOf58
  v72 := Try.zeroValue58 }
theorem Try.Builder_Extra_241 : Builder.Extra Try.prog Try.lays241_ren := {
  sizeBuilder := by kernel_rfl
  liesBuilder := by kernel_rfl
  t5 := Try.underlying5
  a5 := Try.isAgg5
  z5 := Try.sizeOf5
  v5 := Try.zeroValue5
  infoByte := by kernel_rfl
  cellsByte := by kernel_rfl
  sizeByte := by kernel_rfl
  neB5 := by decide }
open Go.RowKit in
theorem Try.Builder_grow_fresh (B b n : Nat) (w : World) (hB : B ≤ b) (hbk : w.heap[b]? = some (.cells #[.pointer (some ⟨b, 0, none⟩), .slice none 0 0] 58 (0, 0))) (hBw : B ≤ w.heap.size) (hn : n ≤ 281474976710656) :
    Calls Try.prog 50 #[.pointer (some ⟨b, 0, none⟩), .int .i64 n] w fun e w' => e = .returned (.tuple #[]) ∧ (Lib.BuilderAt 58 5 B b (.pointer (some ⟨b, 0, none⟩)) [] w' ∧ Below B w w') := Any.Builder_grow_fresh Try.lays241 Try.Builder_Extra_241 B b n w hB hbk hBw hn
def Try.lays165_ren : Go.Shelf.Ren := ⟨fun | 165 => 42 | 240 => 43 | 241 => 50 | 276 => 51 | 277 => 57 | n => n, fun | 70 => 55 | 3 => 3 | 0 => 0 | 4 => 4 | 9 => 9 | 20 => 20 | 72 => 58 | 37 => 56 | 164 => 74 | 5 => 5 | n => n, fun | n => n⟩
theorem Try.lays165 : Go.Proofs.Lays.n165 Try.prog Try.lays165_ren := {
  mixed := by kernel_rfl
  f165 := Try.func42.trans (congrArg some (by kernel_rfl))
  f240 := Try.func43.trans (congrArg some (by kernel_rfl))
  f241 := Try.func50.trans (congrArg some (by kernel_rfl))
  f276 := Try.func51.trans (congrArg some (by kernel_rfl))
  f277 := Try.func57.trans (congrArg some (by kernel_rfl))
  t0 := Try.underlying0
  a0 := Try.isAgg0
  z0 := Try.sizeOf0
  v0 := Try.zeroValue0
  t3 := Try.underlying3
  a3 := Try.isAgg3
  z3 := Try.sizeOf3
  v3 := Try.zeroValue3
  t4 := Try.underlying4
  a4 := Try.isAgg4
  z4 := Try.sizeOf4
  v4 := Try.zeroValue4
  t9 := Try.underlying9
  a9 := Try.isAgg9
  z9 := Try.sizeOf9
  v9 := Try.zeroValue9
  t20 := Try.underlying20
  a20 := Try.isAgg20
  z20 := Try.sizeOf20
  v20 := Try.zeroValue20
  t37 := Try.underlying56
  a37 := Try.isAgg56
  z37 := Try.sizeOf56
  v37 := Try.zeroValue56
  t70 := Try.underlying55
  a70 := Try.isAgg55
  z70 := Try.sizeOf55
  v70 := Try.zeroValue55
  t72 := Try.underlying58
  a72 := Try.isAgg58
  z72 := Try.sizeOf58
  v72 := Try.zeroValue58
  t164 := Try.underlying74
  a164 := Try.isAgg74
  z164 := Try.sizeOf74
  v164 := Try.zeroValue74 }
theorem Try.Builder_Extra_165 : Builder.Extra Try.prog Try.lays165_ren := {
  sizeBuilder := by kernel_rfl
  liesBuilder := by kernel_rfl
  t5 := Try.underlying5
  a5 := Try.isAgg5
  z5 := Try.sizeOf5
  v5 := Try.zeroValue5
  infoByte := by kernel_rfl
  cellsByte := by kernel_rfl
  sizeByte := by kernel_rfl
  neB5 := by decide }
open Go.RowKit in
theorem Try.Builder_Grow_fresh (B b n : Nat) (w : World) (hB : B ≤ b) (hbk : w.heap[b]? = some (.cells #[.pointer none, .slice none 0 0] 58 (0, 0))) (hBw : B ≤ w.heap.size) (hn : n ≤ 281474976710656) :
    Calls Try.prog 42 #[.pointer (some ⟨b, 0, none⟩), .int .i64 n] w fun e w' => e = .returned (.tuple #[]) ∧ (Lib.BuilderAt 58 5 B b (.pointer (some ⟨b, 0, none⟩)) [] w' ∧ Below B w w') := Any.Builder_Grow_fresh Try.lays165 Try.Builder_Extra_165 B b n w hB hbk hBw hn
def Try.lays156_ren : Go.Shelf.Ren := ⟨fun | 156 => 30 | 165 => 42 | 166 => 33 | 169 => 34 | 240 => 43 | 241 => 50 | 276 => 51 | 277 => 57 | n => n, fun | 31 => 51 | 9 => 9 | 3 => 3 | 4 => 4 | 0 => 0 | 20 => 20 | 72 => 58 | 76 => 61 | 70 => 55 | 37 => 56 | 75 => 60 | 127 => 72 | 164 => 74 | 5 => 5 | 80 => 64 | n => n, fun | n => n⟩
theorem Try.lays156 : Go.Proofs.Lays.n156 Try.prog Try.lays156_ren := {
  mixed := by kernel_rfl
  f156 := Try.func30.trans (congrArg some (by kernel_rfl))
  f165 := Try.func42.trans (congrArg some (by kernel_rfl))
  f166 := Try.func33.trans (congrArg some (by kernel_rfl))
  f169 := Try.func34.trans (congrArg some (by kernel_rfl))
  f240 := Try.func43.trans (congrArg some (by kernel_rfl))
  f241 := Try.func50.trans (congrArg some (by kernel_rfl))
  f276 := Try.func51.trans (congrArg some (by kernel_rfl))
  f277 := Try.func57.trans (congrArg some (by kernel_rfl))
  t0 := Try.underlying0
  a0 := Try.isAgg0
  z0 := Try.sizeOf0
  v0 := Try.zeroValue0
  t3 := Try.underlying3
  a3 := Try.isAgg3
  z3 := Try.sizeOf3
  v3 := Try.zeroValue3
  t4 := Try.underlying4
  a4 := Try.isAgg4
  z4 := Try.sizeOf4
  v4 := Try.zeroValue4
  t9 := Try.underlying9
  a9 := Try.isAgg9
  z9 := Try.sizeOf9
  v9 := Try.zeroValue9
  t20 := Try.underlying20
  a20 := Try.isAgg20
  z20 := Try.sizeOf20
  v20 := Try.zeroValue20
  t31 := Try.underlying51
  a31 := Try.isAgg51
  z31 := Try.sizeOf51
  v31 := Try.zeroValue51
  t37 := Try.underlying56
  a37 := Try.isAgg56
  z37 := Try.sizeOf56
  v37 := Try.zeroValue56
  t70 := Try.underlying55
  a70 := Try.isAgg55
  z70 := Try.sizeOf55
  v70 := Try.zeroValue55
  t72 := Try.underlying58
  a72 := Try.isAgg58
  z72 := Try.sizeOf58
  v72 := Try.zeroValue58
  t75 := Try.underlying60
  a75 := Try.isAgg60
  z75 := Try.sizeOf60
  v75 := Try.zeroValue60
  t76 := Try.underlying61
  a76 := Try.isAgg61
  z76 := Try.sizeOf61
  v76 := Try.zeroValue61
  t127 := Try.underlying72
  a127 := Try.isAgg72
  z127 := Try.sizeOf72
  v127 := Try.zeroValue72
  t164 := Try.underlying74
  a164 := Try.isAgg74
  z164 := Try.sizeOf74
  v164 := Try.zeroValue74 }
theorem Try.Builder_Extra_156 : Builder.Extra Try.prog Try.lays156_ren := {
  sizeBuilder := by kernel_rfl
  liesBuilder := by kernel_rfl
  t5 := Try.underlying5
  a5 := Try.isAgg5
  z5 := Try.sizeOf5
  v5 := Try.zeroValue5
  infoByte := by kernel_rfl
  cellsByte := by kernel_rfl
  sizeByte := by kernel_rfl
  neB5 := by decide }
open Go.RowKit in
theorem Try.strings_Join_none (a : Option Addr) (c : Nat) (sep : ByteArray) (w : World) :
    Calls Try.prog 30 #[.slice a 0 c, .string sep] w fun e w' => e = .returned (.string ⟨#[]⟩) ∧ w' = w := Any.strings_Join_none Try.lays156 Try.Builder_Extra_156 a c sep w
open Go.RowKit in
theorem Try.strings_Join (bk o c : Nat) (xs : List ByteArray) (sep : ByteArray) (w : World) (hcells : ∀ (j : Nat) x, xs[j]? = some x → w.cell? ⟨bk, o + j, none⟩ = some (.string x)) (hbk : bk < w.heap.size) (hN : xs.length ≤ 140737488355328) (hcap : xs.length ≤ c) (hlen : (Lib.join (xs.map (·.data.toList)) sep.data.toList).length ≤ 140737488355328) :
    Calls Try.prog 30 #[.slice (some ⟨bk, o, none⟩) xs.length c, .string sep] w fun e w' => e = .returned (.string ⟨(Lib.join (xs.map (·.data.toList)) sep.data.toList).toArray⟩) ∧ Below w.heap.size w w' := Any.strings_Join Try.lays156 Try.Builder_Extra_156 bk o c xs sep w hcells hbk hN hcap hlen
def Try.lays195_ren : Go.Shelf.Ren := ⟨fun | 195 => 44 | n => n, fun | 9 => 9 | 3 => 3 | 0 => 0 | 4 => 4 | n => n, fun | n => n⟩
theorem Try.lays195 : Go.Proofs.Lays.n195 Try.prog Try.lays195_ren := {
  mixed := by kernel_rfl
  f195 := Try.func44.trans (congrArg some (by kernel_rfl))
  t0 := Try.underlying0
  a0 := Try.isAgg0
  z0 := Try.sizeOf0
  v0 := Try.zeroValue0
  t3 := Try.underlying3
  a3 := Try.isAgg3
  z3 := Try.sizeOf3
  v3 := Try.zeroValue3
  t4 := Try.underlying4
  a4 := Try.isAgg4
  z4 := Try.sizeOf4
  v4 := Try.zeroValue4
  t9 := Try.underlying9
  a9 := Try.isAgg9
  z9 := Try.sizeOf9
  v9 := Try.zeroValue9 }
open Go.RowKit in
theorem Try.utf8_RuneCountInString (s : ByteArray) (w : World) (hs : s.size < 9223372036854775807) :
    Calls Try.prog 44 #[.string s] w fun e w' => e = .returned (.int .i64 (Lib.runeCount s)) ∧ ∃ pos, w' = w.iter s pos := Any.utf8_RuneCountInString Try.lays195 s w hs
def Try.lays217_ren : Go.Shelf.Ren := ⟨fun | 217 => 53 | 266 => 58 | n => n, fun | 9 => 9 | 5 => 5 | 3 => 3 | n => n, fun | n => n⟩
theorem Try.lays217 : Go.Proofs.Lays.n217 Try.prog Try.lays217_ren := {
  mixed := by kernel_rfl
  f217 := Try.func53.trans (congrArg some (by kernel_rfl))
  f266 := Try.func58.trans (congrArg some (by kernel_rfl))
  t3 := Try.underlying3
  a3 := Try.isAgg3
  z3 := Try.sizeOf3
  v3 := Try.zeroValue3
  t5 := Try.underlying5
  a5 := Try.isAgg5
  z5 := Try.sizeOf5
  v5 := Try.zeroValue5
  t9 := Try.underlying9
  a9 := Try.isAgg9
  z9 := Try.sizeOf9
  v9 := Try.zeroValue9 }
open Go.RowKit Go.Lib in
theorem Try.stringslite_IndexByte (s : ByteArray) (c : Int) (w : World) :
    Calls Try.prog 53 #[.string s, .int .u8 c] w fun e w' => e = .returned (.int .i64 (Lib.indexByte s.data.toList c.toNat.toUInt8)) ∧ w' = w := Any.stringslite_IndexByte Try.lays217 s c w
def Try.lays224_ren : Go.Shelf.Ren := ⟨fun | 224 => 55 | n => n, fun | 3 => 3 | n => n, fun | n => n⟩
theorem Try.lays224 : Go.Proofs.Lays.n224 Try.prog Try.lays224_ren := {
  mixed := by kernel_rfl
  f224 := Try.func55.trans (congrArg some (by kernel_rfl))
  t3 := Try.underlying3
  a3 := Try.isAgg3
  z3 := Try.sizeOf3
  v3 := Try.zeroValue3 }
open Go.RowKit Go.Lib in
theorem Try.bytealg_Cutover (n : Int) (h0 : 0 ≤ n) (h1 : n < 4611686018427387904) (w : World) :
    Calls Try.prog 55 #[.int .i64 n] w fun e w' => e = .returned (.int .i64 ((n + 16) / 8)) ∧ w' = w := Any.bytealg_Cutover Try.lays224 n h0 h1 w
def Try.lays314_ren : Go.Shelf.Ren := ⟨fun | 314 => 59 | n => n, fun | 9 => 9 | 51 => 79 | 3 => 3 | 4 => 4 | 5 => 5 | 46 => 77 | n => n, fun | n => n⟩
theorem Try.lays314 : Go.Proofs.Lays.n314 Try.prog Try.lays314_ren := {
  mixed := by kernel_rfl
  f314 := Try.func59.trans (congrArg some (by kernel_rfl))
  t3 := Try.underlying3
  a3 := Try.isAgg3
  z3 := Try.sizeOf3
  v3 := Try.zeroValue3
  t4 := Try.underlying4
  a4 := Try.isAgg4
  z4 := Try.sizeOf4
  v4 := Try.zeroValue4
  t5 := Try.underlying5
  a5 := Try.isAgg5
  z5 := Try.sizeOf5
  v5 := Try.zeroValue5
  t9 := Try.underlying9
  a9 := Try.isAgg9
  z9 := Try.sizeOf9
  v9 := Try.zeroValue9
  t46 := Try.underlying77
  a46 := Try.isAgg77
  z46 := Try.sizeOf77
  v46 := Try.zeroValue77
  t51 := Try.underlying79
  a51 := Try.isAgg79
  z51 := Try.sizeOf79
  v51 := Try.zeroValue79 }
open Go.RowKit Go.Lib in
theorem Try.bytealg_hashStr (sep : ByteArray) (hs : sep.size < 4294967281) (w : World) :
    Calls Try.prog 59 #[.string sep] w fun e w' => e = .returned (.tuple #[.int .u32 (RK.H sep.data.toList % 4294967296), .int .u32 (16777619 ^ sep.size % 4294967296)]) ∧ w' = w := Any.bytealg_hashStr Try.lays314 sep hs w
def Try.lays267_ren : Go.Shelf.Ren := ⟨fun | 267 => 56 | 314 => 59 | n => n, fun | 9 => 9 | 3 => 3 | 146 => 80 | 51 => 79 | 4 => 4 | 5 => 5 | 46 => 77 | n => n, fun | n => n⟩
theorem Try.lays267 : Go.Proofs.Lays.n267 Try.prog Try.lays267_ren := {
  mixed := by kernel_rfl
  f267 := Try.func56.trans (congrArg some (by kernel_rfl))
  f314 := Try.func59.trans (congrArg some (by kernel_rfl))
  t3 := Try.underlying3
  a3 := Try.isAgg3
  z3 := Try.sizeOf3
  v3 := Try.zeroValue3
  t4 := Try.underlying4
  a4 := Try.isAgg4
  z4 := Try.sizeOf4
  v4 := Try.zeroValue4
  t5 := Try.underlying5
  a5 := Try.isAgg5
  z5 := Try.sizeOf5
  v5 := Try.zeroValue5
  t9 := Try.underlying9
  a9 := Try.isAgg9
  z9 := Try.sizeOf9
  v9 := Try.zeroValue9
  t46 := Try.underlying77
  a46 := Try.isAgg77
  z46 := Try.sizeOf77
  v46 := Try.zeroValue77
  t51 := Try.underlying79
  a51 := Try.isAgg79
  z51 := Try.sizeOf79
  v51 := Try.zeroValue79
  t146 := Try.underlying80
  a146 := Try.isAgg80
  z146 := Try.sizeOf80
  v146 := Try.zeroValue80 }
open Go.RowKit Go.Lib in
theorem Try.bytealg_IndexRabinKarp (s sep : ByteArray) (h1 : 1 ≤ sep.size) (h2 : sep.size ≤ s.size) (hs : s.size < 4294967281) (w : World) :
    Calls Try.prog 56 #[.string s, .string sep] w fun e w' => e = .returned (.int .i64 (Lib.index s.data.toList sep.data.toList)) ∧ w' = w := Any.bytealg_IndexRabinKarp Try.lays267 s sep h1 h2 hs w
def Try.lays219_ren : Go.Shelf.Ren := ⟨fun | 219 => 49 | 217 => 53 | 225 => 54 | 224 => 55 | 267 => 56 | 266 => 58 | 314 => 59 | n => n, fun | 9 => 9 | 3 => 3 | 4 => 4 | 5 => 5 | 46 => 77 | 146 => 80 | 51 => 79 | n => n, fun | 1 => 0 | n => n⟩
theorem Try.lays219 : Go.Proofs.Lays.n219 Try.prog Try.lays219_ren := {
  mixed := by kernel_rfl
  f217 := Try.func53.trans (congrArg some (by kernel_rfl))
  f219 := Try.func49.trans (congrArg some (by kernel_rfl))
  f224 := Try.func55.trans (congrArg some (by kernel_rfl))
  f225 := Try.func54.trans (congrArg some (by kernel_rfl))
  f266 := Try.func58.trans (congrArg some (by kernel_rfl))
  f267 := Try.func56.trans (congrArg some (by kernel_rfl))
  f314 := Try.func59.trans (congrArg some (by kernel_rfl))
  t3 := Try.underlying3
  a3 := Try.isAgg3
  z3 := Try.sizeOf3
  v3 := Try.zeroValue3
  t4 := Try.underlying4
  a4 := Try.isAgg4
  z4 := Try.sizeOf4
  v4 := Try.zeroValue4
  t5 := Try.underlying5
  a5 := Try.isAgg5
  z5 := Try.sizeOf5
  v5 := Try.zeroValue5
  t9 := Try.underlying9
  a9 := Try.isAgg9
  z9 := Try.sizeOf9
  v9 := Try.zeroValue9
  t46 := Try.underlying77
  a46 := Try.isAgg77
  z46 := Try.sizeOf77
  v46 := Try.zeroValue77
  t51 := Try.underlying79
  a51 := Try.isAgg79
  z51 := Try.sizeOf79
  v51 := Try.zeroValue79
  t146 := Try.underlying80
  a146 := Try.isAgg80
  z146 := Try.sizeOf80
  v146 := Try.zeroValue80
  g1 := by kernel_rfl }
open Go.RowKit Go.Lib in
theorem Try.stringslite_Index_one (s : ByteArray) (c : UInt8) (w : World) :
    Calls Try.prog 49 #[.string s, .string ⟨#[c]⟩] w fun e w' => e = .returned (.int .i64 (Lib.indexByte s.data.toList c)) ∧ w' = w := Any.stringslite_Index_one Try.lays219 s c w
open Go.RowKit Go.Lib in
theorem Try.stringslite_Index (s sub : ByteArray) (m : Int) (w : World) (hs : s.size < 4294967281) (hm : w.cell? ⟨0, 0, none⟩ = some (.int .i64 m)) :
    Calls Try.prog 49 #[.string s, .string sub] w fun e w' => e = .returned (.int .i64 (Lib.index s.data.toList sub.data.toList)) ∧ w' = w := Any.stringslite_Index Try.lays219 s sub m w hs hm
def Try.lays143_ren : Go.Shelf.Ren := ⟨fun | 143 => 41 | 219 => 49 | 217 => 53 | 225 => 54 | 224 => 55 | 267 => 56 | 266 => 58 | 314 => 59 | n => n, fun | 9 => 9 | 3 => 3 | 4 => 4 | 5 => 5 | 46 => 77 | 146 => 80 | 51 => 79 | n => n, fun | 1 => 0 | n => n⟩
theorem Try.lays143 : Go.Proofs.Lays.n143 Try.prog Try.lays143_ren := {
  mixed := by kernel_rfl
  f143 := Try.func41.trans (congrArg some (by kernel_rfl))
  f217 := Try.func53.trans (congrArg some (by kernel_rfl))
  f219 := Try.func49.trans (congrArg some (by kernel_rfl))
  f224 := Try.func55.trans (congrArg some (by kernel_rfl))
  f225 := Try.func54.trans (congrArg some (by kernel_rfl))
  f266 := Try.func58.trans (congrArg some (by kernel_rfl))
  f267 := Try.func56.trans (congrArg some (by kernel_rfl))
  f314 := Try.func59.trans (congrArg some (by kernel_rfl))
  t3 := Try.underlying3
  a3 := Try.isAgg3
  z3 := Try.sizeOf3
  v3 := Try.zeroValue3
  t4 := Try.underlying4
  a4 := Try.isAgg4
  z4 := Try.sizeOf4
  v4 := Try.zeroValue4
  t5 := Try.underlying5
  a5 := Try.isAgg5
  z5 := Try.sizeOf5
  v5 := Try.zeroValue5
  t9 := Try.underlying9
  a9 := Try.isAgg9
  z9 := Try.sizeOf9
  v9 := Try.zeroValue9
  t46 := Try.underlying77
  a46 := Try.isAgg77
  z46 := Try.sizeOf77
  v46 := Try.zeroValue77
  t51 := Try.underlying79
  a51 := Try.isAgg79
  z51 := Try.sizeOf79
  v51 := Try.zeroValue79
  t146 := Try.underlying80
  a146 := Try.isAgg80
  z146 := Try.sizeOf80
  v146 := Try.zeroValue80
  g1 := by kernel_rfl }
open Go.RowKit Go.Lib in
theorem Try.strings_Index_one (s : ByteArray) (c : UInt8) (w : World) :
    Calls Try.prog 41 #[.string s, .string ⟨#[c]⟩] w fun e w' => e = .returned (.int .i64 (Lib.indexByte s.data.toList c)) ∧ w' = w := Any.strings_Index_one Try.lays143 s c w
open Go.RowKit Go.Lib in
theorem Try.strings_Index (s sub : ByteArray) (m : Int) (w : World) (hs : s.size < 4294967281) (hm : w.cell? ⟨0, 0, none⟩ = some (.int .i64 m)) :
    Calls Try.prog 41 #[.string s, .string sub] w fun e w' => e = .returned (.int .i64 (Lib.index s.data.toList sub.data.toList)) ∧ w' = w := Any.strings_Index Try.lays143 s sub m w hs hm
def Try.lays144_ren : Go.Shelf.Ren := ⟨fun | 144 => 29 | 143 => 41 | 219 => 49 | 217 => 53 | 225 => 54 | 224 => 55 | 267 => 56 | 266 => 58 | 314 => 59 | n => n, fun | 9 => 9 | 4 => 4 | 3 => 3 | 5 => 5 | 46 => 77 | 146 => 80 | 51 => 79 | n => n, fun | 1 => 0 | n => n⟩
theorem Try.lays144 : Go.Proofs.Lays.n144 Try.prog Try.lays144_ren := {
  mixed := by kernel_rfl
  f143 := Try.func41.trans (congrArg some (by kernel_rfl))
  f144 := Try.func29.trans (congrArg some (by kernel_rfl))
  f217 := Try.func53.trans (congrArg some (by kernel_rfl))
  f219 := Try.func49.trans (congrArg some (by kernel_rfl))
  f224 := Try.func55.trans (congrArg some (by kernel_rfl))
  f225 := Try.func54.trans (congrArg some (by kernel_rfl))
  f266 := Try.func58.trans (congrArg some (by kernel_rfl))
  f267 := Try.func56.trans (congrArg some (by kernel_rfl))
  f314 := Try.func59.trans (congrArg some (by kernel_rfl))
  t3 := Try.underlying3
  a3 := Try.isAgg3
  z3 := Try.sizeOf3
  v3 := Try.zeroValue3
  t4 := Try.underlying4
  a4 := Try.isAgg4
  z4 := Try.sizeOf4
  v4 := Try.zeroValue4
  t5 := Try.underlying5
  a5 := Try.isAgg5
  z5 := Try.sizeOf5
  v5 := Try.zeroValue5
  t9 := Try.underlying9
  a9 := Try.isAgg9
  z9 := Try.sizeOf9
  v9 := Try.zeroValue9
  t46 := Try.underlying77
  a46 := Try.isAgg77
  z46 := Try.sizeOf77
  v46 := Try.zeroValue77
  t51 := Try.underlying79
  a51 := Try.isAgg79
  z51 := Try.sizeOf79
  v51 := Try.zeroValue79
  t146 := Try.underlying80
  a146 := Try.isAgg80
  z146 := Try.sizeOf80
  v146 := Try.zeroValue80
  g1 := by kernel_rfl }
open Go.RowKit Go.Lib in
theorem Try.strings_Contains_one (s : ByteArray) (c : UInt8) (w : World) :
    Calls Try.prog 29 #[.string s, .string ⟨#[c]⟩] w fun e w' => e = .returned (.bool (decide (0 ≤ Lib.indexByte s.data.toList c))) ∧ w' = w := Any.strings_Contains_one Try.lays144 s c w
open Go.RowKit Go.Lib in
theorem Try.strings_Contains (s sub : ByteArray) (m : Int) (w : World) (hs : s.size < 4294967281) (hm : w.cell? ⟨0, 0, none⟩ = some (.int .i64 m)) :
    Calls Try.prog 29 #[.string s, .string sub] w fun e w' => e = .returned (.bool (Lib.contains s.data.toList sub.data.toList)) ∧ w' = w := Any.strings_Contains Try.lays144 s sub m w hs hm
def Try.lays138_ren : Go.Shelf.Ren := ⟨fun | 138 => 36 | 195 => 44 | 218 => 45 | 143 => 41 | 219 => 49 | 217 => 53 | 225 => 54 | 224 => 55 | 267 => 56 | 266 => 58 | 314 => 59 | n => n, fun | 9 => 9 | 3 => 3 | 4 => 4 | 5 => 5 | 0 => 0 | 46 => 77 | 146 => 80 | 51 => 79 | n => n, fun | 1 => 0 | n => n⟩
theorem Try.lays138 : Go.Proofs.Lays.n138 Try.prog Try.lays138_ren := {
  mixed := by kernel_rfl
  f138 := Try.func36.trans (congrArg some (by kernel_rfl))
  f143 := Try.func41.trans (congrArg some (by kernel_rfl))
  f195 := Try.func44.trans (congrArg some (by kernel_rfl))
  f217 := Try.func53.trans (congrArg some (by kernel_rfl))
  f218 := Try.func45.trans (congrArg some (by kernel_rfl))
  f219 := Try.func49.trans (congrArg some (by kernel_rfl))
  f224 := Try.func55.trans (congrArg some (by kernel_rfl))
  f225 := Try.func54.trans (congrArg some (by kernel_rfl))
  f266 := Try.func58.trans (congrArg some (by kernel_rfl))
  f267 := Try.func56.trans (congrArg some (by kernel_rfl))
  f314 := Try.func59.trans (congrArg some (by kernel_rfl))
  t0 := Try.underlying0
  a0 := Try.isAgg0
  z0 := Try.sizeOf0
  v0 := Try.zeroValue0
  t3 := Try.underlying3
  a3 := Try.isAgg3
  z3 := Try.sizeOf3
  v3 := Try.zeroValue3
  t4 := Try.underlying4
  a4 := Try.isAgg4
  z4 := Try.sizeOf4
  v4 := Try.zeroValue4
  t5 := Try.underlying5
  a5 := Try.isAgg5
  z5 := Try.sizeOf5
  v5 := Try.zeroValue5
  t9 := Try.underlying9
  a9 := Try.isAgg9
  z9 := Try.sizeOf9
  v9 := Try.zeroValue9
  t46 := Try.underlying77
  a46 := Try.isAgg77
  z46 := Try.sizeOf77
  v46 := Try.zeroValue77
  t51 := Try.underlying79
  a51 := Try.isAgg79
  z51 := Try.sizeOf79
  v51 := Try.zeroValue79
  t146 := Try.underlying80
  a146 := Try.isAgg80
  z146 := Try.sizeOf80
  v146 := Try.zeroValue80
  g1 := by kernel_rfl }
open Go.RowKit Go.Lib in
theorem Try.strings_Count_one (s : ByteArray) (c : UInt8) (w : World) :
    Calls Try.prog 36 #[.string s, .string ⟨#[c]⟩] w fun e w' => e = .returned (.int .i64 (Lib.countByte s.data.toList c)) ∧ w' = w := Any.strings_Count_one Try.lays138 s c w
open Go.RowKit Go.Lib in
theorem Try.strings_Count (s sub : ByteArray) (m : Int) (w : World) (hs : s.size < 4294967281) (hm : w.cell? ⟨0, 0, none⟩ = some (.int .i64 m)) (h2 : 2 ≤ sub.size) :
    Calls Try.prog 36 #[.string s, .string sub] w fun e w' => e = .returned (.int .i64 (Lib.countB s sub)) ∧ w' = w := Any.strings_Count Try.lays138 s sub m w hs hm h2
def Try.laysM219_ren : Go.Shelf.Ren := ⟨fun | 219 => 49 | 217 => 53 | 225 => 54 | 224 => 55 | 267 => 56 | 266 => 58 | 314 => 59 | n => n, fun | 9 => 9 | 3 => 3 | 4 => 4 | 5 => 5 | 46 => 77 | 146 => 80 | 51 => 79 | n => n, fun | 1 => 0 | n => n⟩
theorem Try.laysM219 : Go.Proofs.LaysM.n219 Try.prog Try.laysM219_ren := {
  mixed := by kernel_rfl
  f217 := Try.func53.trans (congrArg some (by kernel_rfl))
  f219 := Try.func49.trans (congrArg some (by kernel_rfl))
  f224 := Try.func55.trans (congrArg some (by kernel_rfl))
  f225 := Try.func54.trans (congrArg some (by kernel_rfl))
  f266 := Try.func58.trans (congrArg some (by kernel_rfl))
  f267 := Try.func56.trans (congrArg some (by kernel_rfl))
  f314 := Try.func59.trans (congrArg some (by kernel_rfl))
  t3 := Try.underlying3
  a3 := Try.isAgg3
  z3 := Try.sizeOf3
  v3 := Try.zeroValue3
  t4 := Try.underlying4
  a4 := Try.isAgg4
  z4 := Try.sizeOf4
  v4 := Try.zeroValue4
  t5 := Try.underlying5
  a5 := Try.isAgg5
  z5 := Try.sizeOf5
  v5 := Try.zeroValue5
  t9 := Try.underlying9
  a9 := Try.isAgg9
  z9 := Try.sizeOf9
  v9 := Try.zeroValue9
  t46 := Try.underlying77
  a46 := Try.isAgg77
  z46 := Try.sizeOf77
  v46 := Try.zeroValue77
  t51 := Try.underlying79
  a51 := Try.isAgg79
  z51 := Try.sizeOf79
  v51 := Try.zeroValue79
  t146 := Try.underlying80
  a146 := Try.isAgg80
  z146 := Try.sizeOf80
  v146 := Try.zeroValue80
  g1 := by kernel_rfl
  i3 := by kernel_rfl
  i4 := by kernel_rfl
  i5 := by kernel_rfl
  i9 := by kernel_rfl
  i46 := by kernel_rfl
  i51 := by kernel_rfl
  i146 := by kernel_rfl
  m1 := by kernel_rfl
  s1_3 := fun w h => Go.Proofs.cell_of_shapedOpen_int (zero := #[.int .i64 0]) (t := 3) h (of_decide_eq_true (by kernel_rfl)) (by kernel_rfl) rfl (by kernel_rfl) (by kernel_rfl) Try.underlying3 }
open Go.RowKit Go.Lib in
theorem Try.stringslite_Index_shaped (s sub : ByteArray) (w : World) (h : w.ShapedOpen Try.prog) (hs : s.size < 4294967281) :
    Calls Try.prog 49 #[.string s, .string sub] w fun e w' => e = .returned (.int .i64 (Lib.index s.data.toList sub.data.toList)) ∧ w' = w := Any.stringslite_Index_shaped Try.laysM219 s sub w h hs
def Try.laysM143_ren : Go.Shelf.Ren := ⟨fun | 143 => 41 | 219 => 49 | 217 => 53 | 225 => 54 | 224 => 55 | 267 => 56 | 266 => 58 | 314 => 59 | n => n, fun | 9 => 9 | 3 => 3 | 4 => 4 | 5 => 5 | 46 => 77 | 146 => 80 | 51 => 79 | n => n, fun | 1 => 0 | n => n⟩
theorem Try.laysM143 : Go.Proofs.LaysM.n143 Try.prog Try.laysM143_ren := {
  mixed := by kernel_rfl
  f143 := Try.func41.trans (congrArg some (by kernel_rfl))
  f217 := Try.func53.trans (congrArg some (by kernel_rfl))
  f219 := Try.func49.trans (congrArg some (by kernel_rfl))
  f224 := Try.func55.trans (congrArg some (by kernel_rfl))
  f225 := Try.func54.trans (congrArg some (by kernel_rfl))
  f266 := Try.func58.trans (congrArg some (by kernel_rfl))
  f267 := Try.func56.trans (congrArg some (by kernel_rfl))
  f314 := Try.func59.trans (congrArg some (by kernel_rfl))
  t3 := Try.underlying3
  a3 := Try.isAgg3
  z3 := Try.sizeOf3
  v3 := Try.zeroValue3
  t4 := Try.underlying4
  a4 := Try.isAgg4
  z4 := Try.sizeOf4
  v4 := Try.zeroValue4
  t5 := Try.underlying5
  a5 := Try.isAgg5
  z5 := Try.sizeOf5
  v5 := Try.zeroValue5
  t9 := Try.underlying9
  a9 := Try.isAgg9
  z9 := Try.sizeOf9
  v9 := Try.zeroValue9
  t46 := Try.underlying77
  a46 := Try.isAgg77
  z46 := Try.sizeOf77
  v46 := Try.zeroValue77
  t51 := Try.underlying79
  a51 := Try.isAgg79
  z51 := Try.sizeOf79
  v51 := Try.zeroValue79
  t146 := Try.underlying80
  a146 := Try.isAgg80
  z146 := Try.sizeOf80
  v146 := Try.zeroValue80
  g1 := by kernel_rfl
  i3 := by kernel_rfl
  i4 := by kernel_rfl
  i5 := by kernel_rfl
  i9 := by kernel_rfl
  i46 := by kernel_rfl
  i51 := by kernel_rfl
  i146 := by kernel_rfl
  m1 := by kernel_rfl
  s1_3 := fun w h => Go.Proofs.cell_of_shapedOpen_int (zero := #[.int .i64 0]) (t := 3) h (of_decide_eq_true (by kernel_rfl)) (by kernel_rfl) rfl (by kernel_rfl) (by kernel_rfl) Try.underlying3 }
open Go.RowKit Go.Lib in
theorem Try.strings_Index_shaped (s sub : ByteArray) (w : World) (h : w.ShapedOpen Try.prog) (hs : s.size < 4294967281) :
    Calls Try.prog 41 #[.string s, .string sub] w fun e w' => e = .returned (.int .i64 (Lib.index s.data.toList sub.data.toList)) ∧ w' = w := Any.strings_Index_shaped Try.laysM143 s sub w h hs
def Try.laysM144_ren : Go.Shelf.Ren := ⟨fun | 144 => 29 | 143 => 41 | 219 => 49 | 217 => 53 | 225 => 54 | 224 => 55 | 267 => 56 | 266 => 58 | 314 => 59 | n => n, fun | 9 => 9 | 4 => 4 | 3 => 3 | 5 => 5 | 46 => 77 | 146 => 80 | 51 => 79 | n => n, fun | 1 => 0 | n => n⟩
theorem Try.laysM144 : Go.Proofs.LaysM.n144 Try.prog Try.laysM144_ren := {
  mixed := by kernel_rfl
  f143 := Try.func41.trans (congrArg some (by kernel_rfl))
  f144 := Try.func29.trans (congrArg some (by kernel_rfl))
  f217 := Try.func53.trans (congrArg some (by kernel_rfl))
  f219 := Try.func49.trans (congrArg some (by kernel_rfl))
  f224 := Try.func55.trans (congrArg some (by kernel_rfl))
  f225 := Try.func54.trans (congrArg some (by kernel_rfl))
  f266 := Try.func58.trans (congrArg some (by kernel_rfl))
  f267 := Try.func56.trans (congrArg some (by kernel_rfl))
  f314 := Try.func59.trans (congrArg some (by kernel_rfl))
  t3 := Try.underlying3
  a3 := Try.isAgg3
  z3 := Try.sizeOf3
  v3 := Try.zeroValue3
  t4 := Try.underlying4
  a4 := Try.isAgg4
  z4 := Try.sizeOf4
  v4 := Try.zeroValue4
  t5 := Try.underlying5
  a5 := Try.isAgg5
  z5 := Try.sizeOf5
  v5 := Try.zeroValue5
  t9 := Try.underlying9
  a9 := Try.isAgg9
  z9 := Try.sizeOf9
  v9 := Try.zeroValue9
  t46 := Try.underlying77
  a46 := Try.isAgg77
  z46 := Try.sizeOf77
  v46 := Try.zeroValue77
  t51 := Try.underlying79
  a51 := Try.isAgg79
  z51 := Try.sizeOf79
  v51 := Try.zeroValue79
  t146 := Try.underlying80
  a146 := Try.isAgg80
  z146 := Try.sizeOf80
  v146 := Try.zeroValue80
  g1 := by kernel_rfl
  i3 := by kernel_rfl
  i4 := by kernel_rfl
  i5 := by kernel_rfl
  i9 := by kernel_rfl
  i46 := by kernel_rfl
  i51 := by kernel_rfl
  i146 := by kernel_rfl
  m1 := by kernel_rfl
  s1_3 := fun w h => Go.Proofs.cell_of_shapedOpen_int (zero := #[.int .i64 0]) (t := 3) h (of_decide_eq_true (by kernel_rfl)) (by kernel_rfl) rfl (by kernel_rfl) (by kernel_rfl) Try.underlying3 }
open Go.RowKit Go.Lib in
theorem Try.strings_Contains_shaped (s sub : ByteArray) (w : World) (h : w.ShapedOpen Try.prog) (hs : s.size < 4294967281) :
    Calls Try.prog 29 #[.string s, .string sub] w fun e w' => e = .returned (.bool (Lib.contains s.data.toList sub.data.toList)) ∧ w' = w := Any.strings_Contains_shaped Try.laysM144 s sub w h hs
def Try.laysM138_ren : Go.Shelf.Ren := ⟨fun | 138 => 36 | 195 => 44 | 218 => 45 | 143 => 41 | 219 => 49 | 217 => 53 | 225 => 54 | 224 => 55 | 267 => 56 | 266 => 58 | 314 => 59 | n => n, fun | 9 => 9 | 3 => 3 | 4 => 4 | 5 => 5 | 0 => 0 | 46 => 77 | 146 => 80 | 51 => 79 | n => n, fun | 1 => 0 | n => n⟩
theorem Try.laysM138 : Go.Proofs.LaysM.n138 Try.prog Try.laysM138_ren := {
  mixed := by kernel_rfl
  f138 := Try.func36.trans (congrArg some (by kernel_rfl))
  f143 := Try.func41.trans (congrArg some (by kernel_rfl))
  f195 := Try.func44.trans (congrArg some (by kernel_rfl))
  f217 := Try.func53.trans (congrArg some (by kernel_rfl))
  f218 := Try.func45.trans (congrArg some (by kernel_rfl))
  f219 := Try.func49.trans (congrArg some (by kernel_rfl))
  f224 := Try.func55.trans (congrArg some (by kernel_rfl))
  f225 := Try.func54.trans (congrArg some (by kernel_rfl))
  f266 := Try.func58.trans (congrArg some (by kernel_rfl))
  f267 := Try.func56.trans (congrArg some (by kernel_rfl))
  f314 := Try.func59.trans (congrArg some (by kernel_rfl))
  t0 := Try.underlying0
  a0 := Try.isAgg0
  z0 := Try.sizeOf0
  v0 := Try.zeroValue0
  t3 := Try.underlying3
  a3 := Try.isAgg3
  z3 := Try.sizeOf3
  v3 := Try.zeroValue3
  t4 := Try.underlying4
  a4 := Try.isAgg4
  z4 := Try.sizeOf4
  v4 := Try.zeroValue4
  t5 := Try.underlying5
  a5 := Try.isAgg5
  z5 := Try.sizeOf5
  v5 := Try.zeroValue5
  t9 := Try.underlying9
  a9 := Try.isAgg9
  z9 := Try.sizeOf9
  v9 := Try.zeroValue9
  t46 := Try.underlying77
  a46 := Try.isAgg77
  z46 := Try.sizeOf77
  v46 := Try.zeroValue77
  t51 := Try.underlying79
  a51 := Try.isAgg79
  z51 := Try.sizeOf79
  v51 := Try.zeroValue79
  t146 := Try.underlying80
  a146 := Try.isAgg80
  z146 := Try.sizeOf80
  v146 := Try.zeroValue80
  g1 := by kernel_rfl
  i0 := by kernel_rfl
  i3 := by kernel_rfl
  i4 := by kernel_rfl
  i5 := by kernel_rfl
  i9 := by kernel_rfl
  i46 := by kernel_rfl
  i51 := by kernel_rfl
  i146 := by kernel_rfl
  m1 := by kernel_rfl
  s1_3 := fun w h => Go.Proofs.cell_of_shapedOpen_int (zero := #[.int .i64 0]) (t := 3) h (of_decide_eq_true (by kernel_rfl)) (by kernel_rfl) rfl (by kernel_rfl) (by kernel_rfl) Try.underlying3 }
open Go.RowKit Go.Lib in
theorem Try.strings_Count_shaped (s sub : ByteArray) (w : World) (h : w.ShapedOpen Try.prog) (hs : s.size < 4294967281) (h2 : 2 ≤ sub.size) :
    Calls Try.prog 36 #[.string s, .string sub] w fun e w' => e = .returned (.int .i64 (Lib.countB s sub)) ∧ w' = w := Any.strings_Count_shaped Try.laysM138 s sub w h hs h2
end Go.Proofs

/- Texts: lines and positions. -/
namespace Go.Proofs.Ytiibbkbcebccnaa
open Go Go.Ax Go.RowKit
set_option maxRecDepth 100000
set_option linter.unusedSimpArgs false
set_option linter.unusedVariables false

abbrev Comp' (k : FuncId) (args : List AV) (H : AHeap) (x : AV) : Prop := ACall Try.prog k args H fun y H' => y = x ∧ H' = H
/-- A number as a row. -/
def iR (n : Int) : List AV := [int n]
theorem iR_len (n : Int) : (iR n).length = 1 := rfl
theorem repL2 {w : World} {M : Nat → Prop} {ρ : Nat → Ax.Loc} {n : Nat} {x y : AV} {vs : Array Value} (h : RepL w M ρ n [x, y] vs) : ∃ a b, vs = #[a, b] ∧ Rep w M ρ n x a ∧ Rep w M ρ n y b := by
  obtain ⟨h1, h2⟩ := h
  match vs, h1 with
  | ⟨[a, b]⟩, _ => exact ⟨a, b, rfl, h2 0 x a rfl rfl, h2 1 y b rfl rfl⟩
theorem countC (s : List UInt8) (c : UInt8) (H : AHeap) : Comp' 36 [str s, str [c]] H (int (s.count c)) := by
  refine ⟨⟨_, Try.func36, by kernel_rfl, by kernel_rfl⟩, fun X ρ w vs hrel hargs => ?_⟩
  obtain ⟨a, b, rfl, ha, hb⟩ := repL2 hargs
  have ha := rep_vx ha
  have hb := rep_vx hb
  subst ha
  subst hb
  refine (Go.Proofs.Try.strings_Count_one (mkS s) c w).mono ?_
  rintro e w' ⟨rfl, rfl⟩
  exact ⟨_, _, H, ρ, rfl, ⟨rfl, rfl⟩, hrel, .v _ _, Fut.refl _ _ _⟩

/-- The last index of a byte among the first k, or -1. -/
def lastG (s : List UInt8) (c : UInt8) : Nat → Int
  | 0 => -1
  | k + 1 => if s.getD k 0 = c then k else lastG s c k
theorem lastG_le (s : List UInt8) (c : UInt8) : ∀ k, -1 ≤ lastG s c k ∧ lastG s c k < k
  | 0 => by simp [lastG]
  | k + 1 => by
    have := lastG_le s c k
    simp only [lastG]
    split <;> omega
theorem lastG_take (s : List UInt8) (c : UInt8) : ∀ {k n : Nat}, k ≤ n → lastG (s.take n) c k = lastG s c k
  | 0, _, _ => rfl
  | k + 1, n, h => by
    simp only [lastG]
    rw [lastG_take s c (k := k) (n := n) (by omega)]
    have : (s.take n).getD k 0 = s.getD k 0 := by simp [List.getD_eq_getElem?_getD, List.getElem?_take, show k < n by omega]
    rw [this]
theorem u8_eq {a b : UInt8} : a = b ↔ a.toNat = b.toNat := ⟨fun h => by rw [h], fun h => UInt8.toNat_inj.1 h⟩
theorem lastStrC (s : List UInt8) (c : UInt8) (hs : (s.length : Int) < 9223372036854775806) (H : AHeap) : Comp' 46 [str s, u8 c.toNat] H (int (lastG s c s.length)) := by
  refine enter Try.func46 L46_ok (Nat.le_of_ble_eq_true rfl) ?_
  repeat' (first | (refine And.intro (by omega) ?_) | simp -implicitDefEqProofs (disch := omega) only [L46, dT_lt, dF_lt, dT_le, dF_le, dT_eq, dF_eq, push_cast, ↓reduceIte, Nat.reduceEqDiff, reduceCtorEq, Nat.reduceAdd, Nat.reduceSub, Nat.reduceMul, Nat.reduceLeDiff, Nat.reduceLT, Nat.reduceMod, Nat.reduceDiv, Int.reduceToNat, Int.reduceLT, Int.reduceLE, Int.reduceEq, Int.reduceAdd, Int.reduceSub, Int.reduceNeg, Int.reduceMul, Bool.and_self] | split)
  refine rk_loopS (fun (k : Nat) e' H' => e' 0 = str s ∧ e' 1 = u8 c.toNat ∧ e' 5 = int ((k : Int) - 1) ∧ H = H' ∧ k ≤ s.length ∧ lastG s c s.length = lastG s c k) (fun k => k) s.length ?_ ?_
  · exact ⟨rfl, rfl, rfl, rfl, Nat.le_refl _, rfl⟩
  rintro k e' H' ⟨h0, h1, h5, rfl, hk, hg⟩
  cases k with
  | zero =>
    have h5 : e' 5 = int (-1) := h5
    repeat' (first | (refine And.intro (by omega) ?_) | simp -implicitDefEqProofs (disch := omega) only [h0, h1, h5, dT_lt, dF_lt, dT_le, dF_le, dT_eq, dF_eq, push_cast, ↓reduceIte, Nat.reduceEqDiff, reduceCtorEq, Nat.reduceAdd, Nat.reduceSub, Nat.reduceMul, Nat.reduceLeDiff, Nat.reduceLT, Nat.reduceMod, Nat.reduceDiv, Int.reduceToNat, Int.reduceLT, Int.reduceLE, Int.reduceEq, Int.reduceAdd, Int.reduceSub, Int.reduceNeg, Int.reduceMul, Bool.and_self] | split)
    rw [hg]; rfl
  | succ k =>
    have h5 : e' 5 = int k := intc h5 (by omega)
    by_cases hc : s.getD k 0 = c
    · rw [hg]
      simp only [lastG]
      rw [if_pos hc]
      have hn := u8_eq.1 hc
      have hkl : (k : Int) < s.length := by omega
      repeat' (first | (refine And.intro (by omega) ?_) | simp -implicitDefEqProofs (disch := omega) only [h0, h1, h5, dT_lt, dF_lt, dT_le, dF_le, dT_eq, dF_eq, push_cast, ↓reduceIte, Nat.reduceEqDiff, reduceCtorEq, Nat.reduceAdd, Nat.reduceSub, Nat.reduceMul, Nat.reduceLeDiff, Nat.reduceLT, Nat.reduceMod, Nat.reduceDiv, Int.reduceToNat, Int.reduceLT, Int.reduceLE, Int.reduceEq, Int.reduceAdd, Int.reduceSub, Int.reduceNeg, Int.reduceMul, Bool.and_self] | split)
      omega
    · have hg2 : lastG s c s.length = lastG s c k := by rw [hg]; simp only [lastG]; rw [if_neg hc]
      have hn : ¬ (s.getD k 0).toNat = c.toNat := fun h => hc (u8_eq.2 h)
      repeat' (first | (refine And.intro (by omega) ?_) | simp -implicitDefEqProofs (disch := omega) only [h0, h1, h5, dT_lt, dF_lt, dT_le, dF_le, dT_eq, dF_eq, push_cast, ↓reduceIte, Nat.reduceEqDiff, reduceCtorEq, Nat.reduceAdd, Nat.reduceSub, Nat.reduceMul, Nat.reduceLeDiff, Nat.reduceLT, Nat.reduceMod, Nat.reduceDiv, Int.reduceToNat, Int.reduceLT, Int.reduceLE, Int.reduceEq, Int.reduceAdd, Int.reduceSub, Int.reduceNeg, Int.reduceMul, Bool.and_self] | split)
      exact .mk k ⟨h0, h1, intc rfl (by omega), rfl, by omega, hg2⟩ (by omega)
theorem lastC (s : List UInt8) (c : UInt8) (hs : (s.length : Int) < 9223372036854775806) (H : AHeap) : Comp' 37 [str s, u8 c.toNat] H (int (lastG s c s.length)) := by
  refine enter Try.func37 L37_ok (Nat.le_of_ble_eq_true rfl) ?_
  repeat' (first | (refine And.intro (by omega) ?_) | (refine callF_pure (lastStrC s c hs _) ?_) | (refine callQF_pure (lastStrC s c hs _) (by first | rfl | simp -implicitDefEqProofs (disch := omega) only [L37, dT_lt, dF_lt, dT_le, dF_le, dT_eq, dF_eq, push_cast, ↓reduceIte, Nat.reduceEqDiff, reduceCtorEq, Nat.reduceAdd, Nat.reduceSub, Nat.reduceMul, Nat.reduceLeDiff, Nat.reduceLT, Nat.reduceMod, Nat.reduceDiv, Int.reduceToNat, Int.reduceLT, Int.reduceLE, Int.reduceEq, Int.reduceAdd, Int.reduceSub, Int.reduceNeg, Int.reduceMul, Bool.and_self]) ?_) | simp -implicitDefEqProofs (disch := omega) only [L37, dT_lt, dF_lt, dT_le, dF_le, dT_eq, dF_eq, push_cast, ↓reduceIte, Nat.reduceEqDiff, reduceCtorEq, Nat.reduceAdd, Nat.reduceSub, Nat.reduceMul, Nat.reduceLeDiff, Nat.reduceLT, Nat.reduceMod, Nat.reduceDiv, Int.reduceToNat, Int.reduceLT, Int.reduceLE, Int.reduceEq, Int.reduceAdd, Int.reduceSub, Int.reduceNeg, Int.reduceMul, Bool.and_self] | split)

/-- The line and the column of an offset. -/
def posF (s : List UInt8) (t : Int) : Int × Int := if 0 ≤ t ∧ t ≤ s.length then (1 + (s.take t.toNat).count 10, t - lastG s 10 t.toNat) else (0, 0)
theorem posT (s : List UInt8) (t : Int) (hs : (s.length : Int) < 9223372036854775806) (H : AHeap) : Comp' 20 [str s, int t] H (.tup [int (posF s t).1, int (posF s t).2]) := by
  refine enter Try.func20 L20_ok (Nat.le_of_ble_eq_true rfl) ?_
  unfold posF
  by_cases h0 : 0 ≤ t
  · by_cases h1 : t ≤ s.length
    · rw [if_pos ⟨h0, h1⟩]
      obtain ⟨k, rfl⟩ : ∃ k : Nat, t = k := ⟨t.toNat, by omega⟩
      have hl : (s.take k).length = k := by rw [List.length_take]; omega
      have c1 := fun H => countC (s.take k) 10 H
      have c2 := fun H => lastC (s.take k) 10 (by omega) H
      rw [hl, lastG_take s 10 (Nat.le_refl k)] at c2
      have hlg := lastG_le s 10 k
      have hct : (s.take k).count 10 ≤ k := by have := List.count_le_length (a := (10 : UInt8)) (l := s.take k); omega
      have hu : ((10 : UInt8).toNat : Int) = 10 := rfl
      rw [hu] at c2
      repeat' (first | (refine And.intro (by omega) ?_) | (refine callF_pure (c1 _) ?_) | (refine callF_pure (c2 _) ?_) | (refine callQF_pure (c1 _) (by first | rfl | simp -implicitDefEqProofs (disch := omega) only [L20, Nat.sub_zero, List.drop_zero, dT_lt, dF_lt, dT_le, dF_le, dT_eq, dF_eq, push_cast, ↓reduceIte, Nat.reduceEqDiff, reduceCtorEq, Nat.reduceAdd, Nat.reduceSub, Nat.reduceMul, Nat.reduceLeDiff, Nat.reduceLT, Nat.reduceMod, Nat.reduceDiv, Int.reduceToNat, Int.reduceLT, Int.reduceLE, Int.reduceEq, Int.reduceAdd, Int.reduceSub, Int.reduceNeg, Int.reduceMul, Bool.and_self]) ?_) | (refine callQF_pure (c2 _) (by first | rfl | simp -implicitDefEqProofs (disch := omega) only [L20, Nat.sub_zero, List.drop_zero, dT_lt, dF_lt, dT_le, dF_le, dT_eq, dF_eq, push_cast, ↓reduceIte, Nat.reduceEqDiff, reduceCtorEq, Nat.reduceAdd, Nat.reduceSub, Nat.reduceMul, Nat.reduceLeDiff, Nat.reduceLT, Nat.reduceMod, Nat.reduceDiv, Int.reduceToNat, Int.reduceLT, Int.reduceLE, Int.reduceEq, Int.reduceAdd, Int.reduceSub, Int.reduceNeg, Int.reduceMul, Bool.and_self]) ?_) | simp -implicitDefEqProofs (disch := omega) only [L20, Nat.sub_zero, List.drop_zero, dT_lt, dF_lt, dT_le, dF_le, dT_eq, dF_eq, push_cast, ↓reduceIte, Nat.reduceEqDiff, reduceCtorEq, Nat.reduceAdd, Nat.reduceSub, Nat.reduceMul, Nat.reduceLeDiff, Nat.reduceLT, Nat.reduceMod, Nat.reduceDiv, Int.reduceToNat, Int.reduceLT, Int.reduceLE, Int.reduceEq, Int.reduceAdd, Int.reduceSub, Int.reduceNeg, Int.reduceMul, Bool.and_self] | split)
    · rw [if_neg (by omega)]
      repeat' (first | (refine And.intro (by omega) ?_) | simp -implicitDefEqProofs (disch := omega) only [L20, dT_lt, dF_lt, dT_le, dF_le, dT_eq, dF_eq, push_cast, ↓reduceIte, Nat.reduceEqDiff, reduceCtorEq, Nat.reduceAdd, Nat.reduceSub, Nat.reduceMul, Nat.reduceLeDiff, Nat.reduceLT, Nat.reduceMod, Nat.reduceDiv, Int.reduceToNat, Int.reduceLT, Int.reduceLE, Int.reduceEq, Int.reduceAdd, Int.reduceSub, Int.reduceNeg, Int.reduceMul, Bool.and_self] | split)
  · rw [if_neg (by omega)]
    repeat' (first | (refine And.intro (by omega) ?_) | simp -implicitDefEqProofs (disch := omega) only [L20, dT_lt, dF_lt, dT_le, dF_le, dT_eq, dF_eq, push_cast, ↓reduceIte, Nat.reduceEqDiff, reduceCtorEq, Nat.reduceAdd, Nat.reduceSub, Nat.reduceMul, Nat.reduceLeDiff, Nat.reduceLT, Nat.reduceMod, Nat.reduceDiv, Int.reduceToNat, Int.reduceLT, Int.reduceLE, Int.reduceEq, Int.reduceAdd, Int.reduceSub, Int.reduceNeg, Int.reduceMul, Bool.and_self] | split)
theorem posR (s : List UInt8) (t : Int) (hs : (s.length : Int) < 9223372036854775806) (H : AHeap) : Comp' 21 [str s, int t] H (.tup [int (posF s t).1, int (posF s t).2]) := by
  refine enter Try.func21 L21_ok (Nat.le_of_ble_eq_true rfl) ?_
  unfold posF
  by_cases h0 : 0 ≤ t
  · by_cases h1 : t ≤ s.length
    · rw [if_pos ⟨h0, h1⟩]
      obtain ⟨k, rfl⟩ : ∃ k : Nat, t = k := ⟨t.toNat, by omega⟩
      repeat' (first | (refine And.intro (by omega) ?_) | simp -implicitDefEqProofs (disch := omega) only [L21, dT_lt, dF_lt, dT_le, dF_le, dT_eq, dF_eq, push_cast, ↓reduceIte, Nat.reduceEqDiff, reduceCtorEq, Nat.reduceAdd, Nat.reduceSub, Nat.reduceMul, Nat.reduceLeDiff, Nat.reduceLT, Nat.reduceMod, Nat.reduceDiv, Int.reduceToNat, Int.reduceLT, Int.reduceLE, Int.reduceEq, Int.reduceAdd, Int.reduceSub, Int.reduceNeg, Int.reduceMul, Bool.and_self] | split)
      refine rk_loopS (fun (j : Nat) e' H' => e' 0 = str s ∧ e' 1 = int k ∧ e' 6 = int (1 + ((s.take j).count 10 : Nat)) ∧ e' 7 = int ((j : Int) - lastG s 10 j) ∧ e' 8 = int j ∧ H = H' ∧ j ≤ k) (fun j => k - j) 0 ?_ ?_
      · exact ⟨rfl, rfl, rfl, rfl, rfl, rfl, Nat.zero_le _⟩
      rintro j e' H' ⟨h0', h1', h6, h7, h8, rfl, hj⟩
      have hlg := lastG_le s 10 j
      have hct : (s.take j).count 10 ≤ j := by have := List.count_le_length (a := (10 : UInt8)) (l := s.take j); rw [List.length_take] at this; omega
      by_cases hlt : j < k
      · have ht : s.take (j + 1) = s.take j ++ [s.getD j 0] := take_snoc (by omega)
        by_cases hc : s.getD j 0 = 10
        · have hn : ((s.getD j 0).toNat : Int) = 10 := by rw [hc]; rfl
          repeat' (first | (refine And.intro (by omega) ?_) | simp -implicitDefEqProofs (disch := omega) only [h0', h1', h6, h7, h8, dT_lt, dF_lt, dT_le, dF_le, dT_eq, dF_eq, push_cast, ↓reduceIte, Nat.reduceEqDiff, reduceCtorEq, Nat.reduceAdd, Nat.reduceSub, Nat.reduceMul, Nat.reduceLeDiff, Nat.reduceLT, Nat.reduceMod, Nat.reduceDiv, Int.reduceToNat, Int.reduceLT, Int.reduceLE, Int.reduceEq, Int.reduceAdd, Int.reduceSub, Int.reduceNeg, Int.reduceMul, Bool.and_self] | split)
          exact .mk (j + 1) ⟨h0', h1', intc rfl (by rw [ht, hc, List.count_append]; simp; omega), intc rfl (by simp only [lastG]; rw [if_pos hc]; omega), rfl, rfl, hlt⟩ (by omega)
        · have hn : ¬ ((s.getD j 0).toNat : Int) = 10 := fun h => hc (u8_eq.2 (by show _ = 10; omega))
          repeat' (first | (refine And.intro (by omega) ?_) | simp -implicitDefEqProofs (disch := omega) only [h0', h1', h6, h7, h8, dT_lt, dF_lt, dT_le, dF_le, dT_eq, dF_eq, push_cast, ↓reduceIte, Nat.reduceEqDiff, reduceCtorEq, Nat.reduceAdd, Nat.reduceSub, Nat.reduceMul, Nat.reduceLeDiff, Nat.reduceLT, Nat.reduceMod, Nat.reduceDiv, Int.reduceToNat, Int.reduceLT, Int.reduceLE, Int.reduceEq, Int.reduceAdd, Int.reduceSub, Int.reduceNeg, Int.reduceMul, Bool.and_self] | split)
          exact .mk (j + 1) ⟨h0', h1', intc h6 (by rw [ht, List.count_append, List.count_cons_of_ne hc]; simp), intc rfl (by simp only [lastG]; rw [if_neg hc]; omega), rfl, rfl, hlt⟩ (by omega)
      · have e : j = k := by omega
        subst e
        repeat' (first | (refine And.intro (by omega) ?_) | simp -implicitDefEqProofs (disch := omega) only [h0', h1', h6, h7, h8, dT_lt, dF_lt, dT_le, dF_le, dT_eq, dF_eq, push_cast, ↓reduceIte, Nat.reduceEqDiff, reduceCtorEq, Nat.reduceAdd, Nat.reduceSub, Nat.reduceMul, Nat.reduceLeDiff, Nat.reduceLT, Nat.reduceMod, Nat.reduceDiv, Int.reduceToNat, Int.reduceLT, Int.reduceLE, Int.reduceEq, Int.reduceAdd, Int.reduceSub, Int.reduceNeg, Int.reduceMul, Bool.and_self] | split)
    · rw [if_neg (by omega)]
      repeat' (first | (refine And.intro (by omega) ?_) | simp -implicitDefEqProofs (disch := omega) only [L21, dT_lt, dF_lt, dT_le, dF_le, dT_eq, dF_eq, push_cast, ↓reduceIte, Nat.reduceEqDiff, reduceCtorEq, Nat.reduceAdd, Nat.reduceSub, Nat.reduceMul, Nat.reduceLeDiff, Nat.reduceLT, Nat.reduceMod, Nat.reduceDiv, Int.reduceToNat, Int.reduceLT, Int.reduceLE, Int.reduceEq, Int.reduceAdd, Int.reduceSub, Int.reduceNeg, Int.reduceMul, Bool.and_self] | split)
  · rw [if_neg (by omega)]
    repeat' (first | (refine And.intro (by omega) ?_) | simp -implicitDefEqProofs (disch := omega) only [L21, dT_lt, dF_lt, dT_le, dF_le, dT_eq, dF_eq, push_cast, ↓reduceIte, Nat.reduceEqDiff, reduceCtorEq, Nat.reduceAdd, Nat.reduceSub, Nat.reduceMul, Nat.reduceLeDiff, Nat.reduceLT, Nat.reduceMod, Nat.reduceDiv, Int.reduceToNat, Int.reduceLT, Int.reduceLE, Int.reduceEq, Int.reduceAdd, Int.reduceSub, Int.reduceNeg, Int.reduceMul, Bool.and_self] | split)

/-- The beginnings of lines among the first k bytes' ends. -/
def linG (s : List UInt8) : Nat → List Int
  | 0 => [0]
  | k + 1 => if s.getD k 0 = 10 then linG s k ++ [(k : Int) + 1] else linG s k
theorem linG_len (s : List UInt8) : ∀ k, (linG s k).length ≤ k + 1
  | 0 => by simp [linG]
  | k + 1 => by
    have := linG_len s k
    simp only [linG]
    split
    · simp; omega
    · omega
theorem linesT (s : List UInt8) (hs : s.length ≤ 1048576) (H : AHeap) : Comp' 25 [str s] H (.sl 1 ((linG s s.length).map iR)) := by
  refine ACall.drop (R := fun x => x = .sl 1 ((linG s s.length).map iR)) ?_
  refine enter Try.func25 L25_ok (Nat.le_of_ble_eq_true rfl) ?_
  repeat' (first | (refine And.intro (by omega) ?_) | simp -implicitDefEqProofs (disch := omega) only [L25, dT_lt, dF_lt, dT_le, dF_le, dT_eq, dF_eq, push_cast, ↓reduceIte, Nat.reduceEqDiff, reduceCtorEq, Nat.reduceAdd, Nat.reduceSub, Nat.reduceMul, Nat.reduceLeDiff, Nat.reduceLT, Nat.reduceMod, Nat.reduceDiv, Int.reduceToNat, Int.reduceLT, Int.reduceLE, Int.reduceEq, Int.reduceAdd, Int.reduceSub, Int.reduceNeg, Int.reduceMul, Bool.and_self] | split)
  refine rk_loopS (fun (st : Nat × Nat) e' H' => e' 0 = str s ∧ e' 3 = .os H.length st.2 0 (linG s st.1).length ∧ e' 7 = int s.length ∧ e' 8 = int st.1 ∧ H' = H ++ [.arr st.2 1 ((linG s st.1).map iR)] ∧ st.1 ≤ s.length) (fun st => s.length - st.1) (0, 0) ?_ ?_
  · exact ⟨rfl, rfl, rfl, rfl, rfl, Nat.zero_le _⟩
  rintro ⟨k, v⟩ e' H' ⟨h0, h3, h7, h8, rfl, hk⟩
  simp only at h3 h8 hk
  have hll := linG_len s k
  by_cases hlt : k < s.length
  · by_cases hc : s.getD k 0 = 10
    · have hn : ((s.getD k 0).toNat : Int) = 10 := by rw [hc]; rfl
      have hl : linG s (k + 1) = linG s k ++ [(k : Int) + 1] := by simp only [linG]; rw [if_pos hc]
      repeat' (first | (refine And.intro (by omega) ?_) | simp -implicitDefEqProofs (disch := omega) only [h0, h3, h7, h8, List.length_map, dT_lt, dF_lt, dT_le, dF_le, dT_eq, dF_eq, push_cast, ↓reduceIte, Nat.reduceEqDiff, reduceCtorEq, Nat.reduceAdd, Nat.reduceSub, Nat.reduceMul, Nat.reduceLeDiff, Nat.reduceLT, Nat.reduceMod, Nat.reduceDiv, Int.reduceToNat, Int.reduceLT, Int.reduceLE, Int.reduceEq, Int.reduceAdd, Int.reduceSub, Int.reduceNeg, Int.reduceMul, Bool.and_self] | split)
      refine .mk (k + 1, v + 1) ⟨h0, by rw [hl]; simp [up, ups], h7, rfl, ?_, hlt⟩ (by simp only; omega)
      simp [hl, iR]
    · have hn : ¬ ((s.getD k 0).toNat : Int) = 10 := fun h => hc (u8_eq.2 (by show _ = 10; omega))
      have hl : linG s (k + 1) = linG s k := by simp only [linG]; rw [if_neg hc]
      repeat' (first | (refine And.intro (by omega) ?_) | simp -implicitDefEqProofs (disch := omega) only [h0, h3, h7, h8, List.length_map, dT_lt, dF_lt, dT_le, dF_le, dT_eq, dF_eq, push_cast, ↓reduceIte, Nat.reduceEqDiff, reduceCtorEq, Nat.reduceAdd, Nat.reduceSub, Nat.reduceMul, Nat.reduceLeDiff, Nat.reduceLT, Nat.reduceMod, Nat.reduceDiv, Int.reduceToNat, Int.reduceLT, Int.reduceLE, Int.reduceEq, Int.reduceAdd, Int.reduceSub, Int.reduceNeg, Int.reduceMul, Bool.and_self] | split)
      exact .mk (k + 1, v) ⟨h0, by rw [hl]; exact h3, h7, rfl, by rw [hl], hlt⟩ (by simp only; omega)
  · have e : k = s.length := by omega
    subst e
    repeat' (first | (refine And.intro (by omega) ?_) | simp -implicitDefEqProofs (disch := omega) only [h0, h3, h7, h8, List.length_map, dT_lt, dF_lt, dT_le, dF_le, dT_eq, dF_eq, push_cast, ↓reduceIte, Nat.reduceEqDiff, reduceCtorEq, Nat.reduceAdd, Nat.reduceSub, Nat.reduceMul, Nat.reduceLeDiff, Nat.reduceLT, Nat.reduceMod, Nat.reduceDiv, Int.reduceToNat, Int.reduceLT, Int.reduceLE, Int.reduceEq, Int.reduceAdd, Int.reduceSub, Int.reduceNeg, Int.reduceMul, Bool.and_self] | split)
    exact ⟨_, rfl⟩
theorem linesR (s : List UInt8) (hs : s.length ≤ 1048576) (H : AHeap) : Comp' 26 [str s] H (.sl 1 ((linG s s.length).map iR)) := by
  refine ACall.drop (R := fun x => x = .sl 1 ((linG s s.length).map iR)) ?_
  refine enter Try.func26 L26_ok (Nat.le_of_ble_eq_true rfl) ?_
  repeat' (first | (refine And.intro (by omega) ?_) | simp -implicitDefEqProofs (disch := omega) only [L26, dT_lt, dF_lt, dT_le, dF_le, dT_eq, dF_eq, push_cast, ↓reduceIte, Nat.reduceEqDiff, reduceCtorEq, Nat.reduceAdd, Nat.reduceSub, Nat.reduceMul, Nat.reduceLeDiff, Nat.reduceLT, Nat.reduceMod, Nat.reduceDiv, Int.reduceToNat, Int.reduceLT, Int.reduceLE, Int.reduceEq, Int.reduceAdd, Int.reduceSub, Int.reduceNeg, Int.reduceMul, Bool.and_self] | split)
  refine rk_loopS (fun (st : Nat × Nat) e' H' => e' 0 = str s ∧ e' 3 = .os H.length st.2 0 (linG s st.1).length ∧ e' 4 = int st.1 ∧ H' = H ++ [.arr st.2 1 ((linG s st.1).map iR)] ∧ st.1 ≤ s.length) (fun st => s.length - st.1) (0, 0) ?_ ?_
  · exact ⟨rfl, rfl, rfl, rfl, Nat.zero_le _⟩
  rintro ⟨k, v⟩ e' H' ⟨h0, h3, h4, rfl, hk⟩
  simp only at h3 h4 hk
  have hll := linG_len s k
  by_cases hlt : k < s.length
  · by_cases hc : s.getD k 0 = 10
    · have hn : ((s.getD k 0).toNat : Int) = 10 := by rw [hc]; rfl
      have hl : linG s (k + 1) = linG s k ++ [(k : Int) + 1] := by simp only [linG]; rw [if_pos hc]
      repeat' (first | (refine And.intro (by omega) ?_) | simp -implicitDefEqProofs (disch := omega) only [h0, h3, h4, List.length_map, dT_lt, dF_lt, dT_le, dF_le, dT_eq, dF_eq, push_cast, ↓reduceIte, Nat.reduceEqDiff, reduceCtorEq, Nat.reduceAdd, Nat.reduceSub, Nat.reduceMul, Nat.reduceLeDiff, Nat.reduceLT, Nat.reduceMod, Nat.reduceDiv, Int.reduceToNat, Int.reduceLT, Int.reduceLE, Int.reduceEq, Int.reduceAdd, Int.reduceSub, Int.reduceNeg, Int.reduceMul, Bool.and_self] | split)
      refine .mk (k + 1, v + 1) ⟨h0, by rw [hl]; simp [up, ups], rfl, ?_, hlt⟩ (by simp only; omega)
      simp [hl, iR]
    · have hn : ¬ ((s.getD k 0).toNat : Int) = 10 := fun h => hc (u8_eq.2 (by show _ = 10; omega))
      have hl : linG s (k + 1) = linG s k := by simp only [linG]; rw [if_neg hc]
      repeat' (first | (refine And.intro (by omega) ?_) | simp -implicitDefEqProofs (disch := omega) only [h0, h3, h4, List.length_map, dT_lt, dF_lt, dT_le, dF_le, dT_eq, dF_eq, push_cast, ↓reduceIte, Nat.reduceEqDiff, reduceCtorEq, Nat.reduceAdd, Nat.reduceSub, Nat.reduceMul, Nat.reduceLeDiff, Nat.reduceLT, Nat.reduceMod, Nat.reduceDiv, Int.reduceToNat, Int.reduceLT, Int.reduceLE, Int.reduceEq, Int.reduceAdd, Int.reduceSub, Int.reduceNeg, Int.reduceMul, Bool.and_self] | split)
      exact .mk (k + 1, v) ⟨h0, by rw [hl]; exact h3, rfl, by rw [hl], hlt⟩ (by simp only; omega)
  · have e : k = s.length := by omega
    subst e
    repeat' (first | (refine And.intro (by omega) ?_) | simp -implicitDefEqProofs (disch := omega) only [h0, h3, h4, List.length_map, dT_lt, dF_lt, dT_le, dF_le, dT_eq, dF_eq, push_cast, ↓reduceIte, Nat.reduceEqDiff, reduceCtorEq, Nat.reduceAdd, Nat.reduceSub, Nat.reduceMul, Nat.reduceLeDiff, Nat.reduceLT, Nat.reduceMod, Nat.reduceDiv, Int.reduceToNat, Int.reduceLT, Int.reduceLE, Int.reduceEq, Int.reduceAdd, Int.reduceSub, Int.reduceNeg, Int.reduceMul, Bool.and_self] | split)
    exact ⟨_, rfl⟩
theorem intsC (l m : List Int) (hl : l.length ≤ 9223372036854775807) (H : AHeap) : Comp' 24 [.sl 1 (l.map iR), .sl 1 (m.map iR)] H (bool (decide (l = m))) := by
  refine enter Try.func24 L24_ok (Nat.le_of_ble_eq_true rfl) ?_
  by_cases hlen : l.length = m.length
  · repeat' (first | (refine And.intro (by omega) ?_) | simp -implicitDefEqProofs (disch := omega) only [L24, dT_lt, dF_lt, dT_le, dF_le, dT_eq, dF_eq, push_cast, ↓reduceIte, Nat.reduceEqDiff, reduceCtorEq, Nat.reduceAdd, Nat.reduceSub, Nat.reduceMul, Nat.reduceLeDiff, Nat.reduceLT, Nat.reduceMod, Nat.reduceDiv, Int.reduceToNat, Int.reduceLT, Int.reduceLE, Int.reduceEq, Int.reduceAdd, Int.reduceSub, Int.reduceNeg, Int.reduceMul, Bool.and_self] | split)
    refine rk_loopS (fun (j : Nat) e' H' => e' 0 = .sl 1 (l.map iR) ∧ e' 1 = .sl 1 (m.map iR) ∧ e' 5 = int j ∧ H = H' ∧ j ≤ l.length ∧ l.take j = m.take j) (fun j => l.length - j) 0 ?_ ?_
    · exact ⟨rfl, rfl, rfl, rfl, Nat.zero_le _, rfl⟩
    rintro j e' H' ⟨h0, h1, h5, rfl, hj, ht⟩
    by_cases hlt : j < l.length
    · by_cases he : l.getD j default = m.getD j default
      · repeat' (first | (refine And.intro (by omega) ?_) | simp -implicitDefEqProofs (disch := omega) only [h0, h1, h5, rows_getD, iR, he, dT_lt, dF_lt, dT_le, dF_le, dT_eq, dF_eq, push_cast, ↓reduceIte, Nat.reduceEqDiff, reduceCtorEq, Nat.reduceAdd, Nat.reduceSub, Nat.reduceMul, Nat.reduceLeDiff, Nat.reduceLT, Nat.reduceMod, Nat.reduceDiv, Int.reduceToNat, Int.reduceLT, Int.reduceLE, Int.reduceEq, Int.reduceAdd, Int.reduceSub, Int.reduceNeg, Int.reduceMul, Bool.and_self] | split)
        refine .mk (j + 1) ⟨h0, h1, rfl, rfl, hlt, ?_⟩ (by omega)
        rw [take_snoc hlt, take_snoc (by omega), ht, he]
      · have hd : decide (l = m) = false := by
          simp only [decide_eq_false_iff_not]
          intro h; exact he (by rw [h])
        repeat' (first | (refine And.intro (by omega) ?_) | simp -implicitDefEqProofs (disch := omega) only [h0, h1, h5, rows_getD, iR, dT_lt, dF_lt, dT_le, dF_le, dT_eq, dF_eq, push_cast, ↓reduceIte, Nat.reduceEqDiff, reduceCtorEq, Nat.reduceAdd, Nat.reduceSub, Nat.reduceMul, Nat.reduceLeDiff, Nat.reduceLT, Nat.reduceMod, Nat.reduceDiv, Int.reduceToNat, Int.reduceLT, Int.reduceLE, Int.reduceEq, Int.reduceAdd, Int.reduceSub, Int.reduceNeg, Int.reduceMul, Bool.and_self] | split)
        rw [hd]
    · have hd : decide (l = m) = true := by
        simp only [decide_eq_true_eq]
        have := ht
        rwa [List.take_of_length_le (by omega), List.take_of_length_le (by omega)] at this
      repeat' (first | (refine And.intro (by omega) ?_) | simp -implicitDefEqProofs (disch := omega) only [h0, h1, h5, dT_lt, dF_lt, dT_le, dF_le, dT_eq, dF_eq, push_cast, ↓reduceIte, Nat.reduceEqDiff, reduceCtorEq, Nat.reduceAdd, Nat.reduceSub, Nat.reduceMul, Nat.reduceLeDiff, Nat.reduceLT, Nat.reduceMod, Nat.reduceDiv, Int.reduceToNat, Int.reduceLT, Int.reduceLE, Int.reduceEq, Int.reduceAdd, Int.reduceSub, Int.reduceNeg, Int.reduceMul, Bool.and_self] | split)
      rw [hd]
  · have hd : decide (l = m) = false := by
      simp only [decide_eq_false_iff_not]
      intro h; exact hlen (by rw [h])
    repeat' (first | (refine And.intro (by omega) ?_) | simp -implicitDefEqProofs (disch := omega) only [L24, dT_lt, dF_lt, dT_le, dF_le, dT_eq, dF_eq, push_cast, ↓reduceIte, Nat.reduceEqDiff, reduceCtorEq, Nat.reduceAdd, Nat.reduceSub, Nat.reduceMul, Nat.reduceLeDiff, Nat.reduceLT, Nat.reduceMod, Nat.reduceDiv, Int.reduceToNat, Int.reduceLT, Int.reduceLE, Int.reduceEq, Int.reduceAdd, Int.reduceSub, Int.reduceNeg, Int.reduceMul, Bool.and_self] | split)
    rw [hd]
#print axioms posT
end Go.Proofs.Ytiibbkbcebccnaa
