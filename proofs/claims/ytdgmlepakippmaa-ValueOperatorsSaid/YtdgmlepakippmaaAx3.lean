/- The steps of a run, as rules for rewriting. -/
import Derived.Test.YtdgmlepakippmaaAx2
namespace Go.Ax
open Go Go.RowKit

section
variable {P : Program} {k : List Item} {Q : Out → Env → AHeap → Prop} {e : Env} {H : AHeap} {d : Option Nat} {l : List LO}

/-- On with the value of an operation. -/
def goK (P : Program) (r : Res) (e : Env) (d : Option Nat) (l : List LO) (k : List Item) (Q : Out → Env → AHeap → Prop) : Prop :=
  r.ok ∧ runK P (.ops l :: k) Q .normal (ups e d r.x) r.H
def opK (P : Program) (op : LOp) (e : Env) (H : AHeap) (d : Option Nat) (l : List LO) (k : List Item) (Q : Out → Env → AHeap → Prop) : Prop :=
  aop P op e H fun x H' => runK P (.ops l :: k) Q .normal (ups e d x) H'
/-- A call, and on with what it hands back. -/
def callK (P : Program) (f : AV) (args : List AV) (H : AHeap) (e : Env) (d : Option Nat) (l : List LO) (k : List Item) (Q : Out → Env → AHeap → Prop) : Prop :=
  acall P f args H fun x H' => runK P (.ops l :: k) Q .normal (ups e d x) H'
def callF (P : Program) (f : FuncId) (args : List AV) (H : AHeap) (e : Env) (d : Option Nat) (l : List LO) (k : List Item) (Q : Out → Env → AHeap → Prop) : Prop :=
  ACall P f args H fun x H' => runK P (.ops l :: k) Q .normal (ups e d x) H'
def nilK (P : Program) (neg : Bool) (x : AV) (e : Env) (H : AHeap) (d : Option Nat) (l : List LO) (k : List Item) (Q : Out → Env → AHeap → Prop) : Prop :=
  slcK H x ∧ ∀ b, nilOk x b → runK P (.ops l :: k) Q .normal (ups e d (bool (b ^^ neg))) H
def gK (P : Program) (x : AV) (want : Bool) (op : LOp) (e : Env) (t : Nat) (H : AHeap) (d : Option Nat) (l : List LO) (k : List Item) (Q : Out → Env → AHeap → Prop) : Prop :=
  match x with
  | .v (.bool b) => if b = true then (if want = true then opK P op (up e t (bool true)) H d l k Q else runK P (.ops l :: k) Q .normal (ups (up e t (bool true)) d undefA) H)
      else (if want = true then runK P (.ops l :: k) Q .normal (ups (up e t (bool false)) d undefA) H else opK P op (up e t (bool false)) H d l k Q)
  | .v (.tuple _) => runK P (.ops l :: k) Q .normal (ups e d undefA) H
  | _ => False
def pickK (P : Program) (c a b : AV) (e : Env) (H : AHeap) (d : Option Nat) (l : List LO) (k : List Item) (Q : Out → Env → AHeap → Prop) : Prop :=
  match c with
  | .v (.bool t) => if t = true then runK P (.ops l :: k) Q .normal (ups e d a) H else runK P (.ops l :: k) Q .normal (ups e d b) H
  | _ => False
def cK (P : Program) (v : AV) (x : LX) (a b : LCode) (e : Env) (H : AHeap) (k : List Item) (Q : Out → Env → AHeap → Prop) : Prop :=
  match v with
  | .v (.bool t) => if t = true then runK P (.code a :: k) Q .normal (markX e x true) H else runK P (.code b :: k) Q .normal (markX e x false) H
  | _ => False

@[push_cast] theorem goK_mk (p : Prop) (x : AV) (H' : AHeap) : goK P ⟨p, x, H'⟩ e d l k Q = (p ∧ runK P (.ops l :: k) Q .normal (ups e d x) H') := rfl
@[push_cast] theorem also_mk (p q : Prop) (x : AV) (H' : AHeap) : Res.also p ⟨q, x, H'⟩ = ⟨p ∧ q, x, H'⟩ := rfl

@[push_cast] theorem rk_nil (o : Out) : runK P [] Q o e H = Q o e H := rfl
@[push_cast] theorem rk_skip : runK P (.code .skip :: k) Q .normal e H = runK P k Q .normal e H := rfl
@[push_cast] theorem rk_seq (a b : LCode) : runK P (.code (.seq a b) :: k) Q .normal e H = runK P (.code a :: .code b :: k) Q .normal e H := by
  show awp P a e H _ = awp P a e H _
  congr 1
  funext o e' H'
  cases o <;> rfl
@[push_cast] theorem rk_block (id : Nat) (c : LCode) : runK P (.code (.block id c) :: k) Q .normal e H = runK P (.code c :: .blk id :: k) Q .normal e H := by
  show awp P c e H _ = awp P c e H _
  rfl
@[push_cast] theorem rk_exit (id : Nat) : runK P (.code (.exit id) :: k) Q .normal e H = runK P k Q (.exit id) e H := rfl
@[push_cast] theorem rk_ret : runK P (.code .ret :: k) Q .normal e H = runK P k Q .ret e H := rfl
@[push_cast] theorem rk_code_exit (c : LCode) (id : Nat) : runK P (.code c :: k) Q (.exit id) e H = runK P k Q (.exit id) e H := rfl
@[push_cast] theorem rk_code_ret (c : LCode) : runK P (.code c :: k) Q .ret e H = runK P k Q .ret e H := rfl
@[push_cast] theorem rk_blk : ∀ (id : Nat), runK P (.blk id :: k) Q .normal e H = runK P k Q .normal e H := fun _ => rfl
@[push_cast] theorem rk_blk_exit (id j : Nat) : runK P (.blk id :: k) Q (.exit j) e H = if j = id then runK P k Q .normal e H else runK P k Q (.exit j) e H := rfl
@[push_cast] theorem rk_blk_ret (id : Nat) : runK P (.blk id :: k) Q .ret e H = runK P k Q .ret e H := rfl
@[push_cast] theorem rk_lp (R : Env → AHeap → Prop) : runK P (.lp R :: k) Q .normal e H = R e H := rfl
@[push_cast] theorem rk_lp_exit (R : Env → AHeap → Prop) (j : Nat) : runK P (.lp R :: k) Q (.exit j) e H = runK P k Q (.exit j) e H := rfl
@[push_cast] theorem rk_lp_ret (R : Env → AHeap → Prop) : runK P (.lp R :: k) Q .ret e H = runK P k Q .ret e H := rfl
@[push_cast] theorem rk_ops (l : List LO) : runK P (.code (.ops l) :: k) Q .normal e H = runK P (.ops l :: k) Q .normal e H := rfl
@[push_cast] theorem rk_opsnil : runK P (.ops [] :: k) Q .normal e H = runK P k Q .normal e H := rfl
@[push_cast] theorem rk_op (op : LOp) : runK P (.ops (⟨d, none, op⟩ :: l) :: k) Q .normal e H = opK P op e H d l k Q := rfl
@[push_cast] theorem rk_opg (t : Nat) (want : Bool) (op : LOp) : runK P (.ops (⟨d, some (t, want), op⟩ :: l) :: k) Q .normal e H = gK P (e t) want op e t H d l k Q := by
  simp only [runK, aops, gK, opK]
  try (cases e t with
  | v x => cases x <;> rfl
  | _ => rfl)
@[push_cast] theorem rk_cond (x : LX) (a b : LCode) : runK P (.code (.cond x a b) :: k) Q .normal e H = cK P (ev e x) x a b e H k Q := by
  simp only [runK, awp, cK]
  cases ev e x with
  | v x => cases x <;> rfl
  | _ => rfl
@[push_cast] theorem cK_bool (t : Bool) (x : LX) (a b : LCode) : cK P (.v (.bool t)) x a b e H k Q = if t = true then runK P (.code a :: k) Q .normal (markX e x true) H else runK P (.code b :: k) Q .normal (markX e x false) H := rfl
@[push_cast] theorem gK_t (b : Bool) (op : LOp) (t : Nat) : gK P (.v (.bool b)) true op e t H d l k Q = if b = true then opK P op (up e t (bool true)) H d l k Q else runK P (.ops l :: k) Q .normal (ups (up e t (bool false)) d undefA) H := by simp [gK]
@[push_cast] theorem gK_f (b : Bool) (op : LOp) (t : Nat) : gK P (.v (.bool b)) false op e t H d l k Q = if b = true then runK P (.ops l :: k) Q .normal (ups (up e t (bool true)) d undefA) H else opK P op (up e t (bool false)) H d l k Q := by simp [gK]
@[push_cast] theorem gK_u (us : Array Value) (want : Bool) (op : LOp) (t : Nat) : gK P (.v (.tuple us)) want op e t H d l k Q = runK P (.ops l :: k) Q .normal (ups e d undefA) H := rfl

@[push_cast] theorem opK_mv (x : LX) : opK P (.mv x) e H d l k Q = runK P (.ops l :: k) Q .normal (ups e d (ev e x)) H := by simp [opK, aop, ares]
@[push_cast] theorem opK_pick (c a b : LX) : opK P (.pick c a b) e H d l k Q = pickK P (ev e c) (ev e a) (ev e b) e H d l k Q := by
  simp only [opK, aop, pickK]
  cases ev e c with
  | v x => cases x <;> rfl
  | _ => rfl
@[push_cast] theorem pickK_b (t : Bool) (a b : AV) : pickK P (.v (.bool t)) a b e H d l k Q = if t = true then runK P (.ops l :: k) Q .normal (ups e d a) H else runK P (.ops l :: k) Q .normal (ups e d b) H := rfl
@[push_cast] theorem opK_alloc (zs : List AV) : opK P (.alloc zs) e H d l k Q = goK P ⟨c1s zs = true, .ptr H.length 0 0, H ++ [.box zs]⟩ e d l k Q := rfl
@[push_cast] theorem opK_box (imm : Bool) (x : LX) : opK P (.box imm x) e H d l k Q = goK P (rBox imm (ev e x) H) e d l k Q := rfl
@[push_cast] theorem opK_build (zs : List AV) (ps : List (Nat × Nat × LX)) : opK P (.build zs ps) e H d l k Q = goK P (rBuild zs (ps.map fun (o, n, x) => (o, n, ev e x)) H) e d l k Q := rfl
@[push_cast] theorem opK_bsl (imm : Bool) (sz len : Nat) (zs : List AV) (ps : List (Nat × LX)) : opK P (.bsl imm sz len zs ps) e H d l k Q = goK P (rBsl imm sz len zs (ps.map fun (i, x) => (i, ev e x)) H) e d l k Q := rfl
@[push_cast] theorem opK_mkmap : opK P .mkmap e H d l k Q = goK P ⟨True, .om H.length 0, H ++ [.map 0 [] []]⟩ e d l k Q := rfl
@[push_cast] theorem opK_ins (kd : KD) (m x y : LX) : opK P (.ins kd m x y) e H d l k Q = goK P (rIns kd (ev e m) (ev e x) (ev e y) H) e d l k Q := rfl
@[push_cast] theorem opK_load (ag : Bool) (n : Nat) (p : LX) : opK P (.load ag n p) e H d l k Q = goK P (rLoad ag n (ev e p) H) e d l k Q := rfl
@[push_cast] theorem opK_store (n : Nat) (p x : LX) : opK P (.store n p x) e H d l k Q = goK P (rStore n (ev e p) (ev e x) H) e d l k Q := rfl
@[push_cast] theorem opK_nilchk (x : LX) : opK P (.nilchk x) e H d l k Q = goK P (rNil (ev e x) H) e d l k Q := rfl
@[push_cast] theorem opK_bin (kd : KD) (op : BinOp) (x y : LX) : opK P (.bin kd op x y) e H d l k Q = goK P (rBin kd op (ev e x) (ev e y) H) e d l k Q := rfl
@[push_cast] theorem opK_not (x : LX) : opK P (.not x) e H d l k Q = goK P (rNot (ev e x) H) e d l k Q := rfl
@[push_cast] theorem opK_neg (x : LX) : opK P (.neg x) e H d l k Q = goK P (rNeg (ev e x) H) e d l k Q := rfl
@[push_cast] theorem opK_conv (c : Cv) (x : LX) : opK P (.conv c x) e H d l k Q = goK P (rConv c (ev e x) H) e d l k Q := rfl
@[push_cast] theorem opK_mkfn (f : Fn) (a b : List LX) : opK P (.mkfn f a b) e H d l k Q = goK P ⟨True, .fn f (a.map (ev e)) (b.map (ev e)), H⟩ e d l k Q := rfl
@[push_cast] theorem opK_msl (sz bytes : Nat) (zs : List AV) (len cap : LX) : opK P (.msl sz bytes zs len cap) e H d l k Q = goK P (rMsl sz bytes zs (ev e len) (ev e cap) H) e d l k Q := rfl
@[push_cast] theorem opK_slice (lk : LK) (n : Nat) (x : LX) (lo hi : Option LX) : opK P (.slice lk n x lo hi) e H d l k Q = goK P (rSlice lk n (ev e x) (lo.map (ev e)) (hi.map (ev e)) H) e d l k Q := rfl
@[push_cast] theorem opK_faddr (off : Nat) (p : LX) : opK P (.faddr off p) e H d l k Q = goK P (rFaddr off (ev e p) H) e d l k Q := rfl
@[push_cast] theorem opK_fld (ag : Bool) (off n : Nat) (x : LX) : opK P (.fld ag off n x) e H d l k Q = goK P (rFld ag off n (ev e x) H) e d l k Q := rfl
@[push_cast] theorem opK_iaddr (sz : Nat) (x i : LX) : opK P (.iaddr sz x i) e H d l k Q = goK P (rIaddr sz (ev e x) (ev e i) H) e d l k Q := rfl
@[push_cast] theorem opK_idx (x i : LX) : opK P (.idx x i) e H d l k Q = goK P (rIdx (ev e x) (ev e i) H) e d l k Q := rfl
@[push_cast] theorem opK_look (kd : KD) (zero : AV) (ok : Bool) (m x : LX) : opK P (.look kd zero ok m x) e H d l k Q = goK P (rLook kd zero ok (ev e m) (ev e x) H) e d l k Q := rfl
@[push_cast] theorem opK_ext (x : LX) (i : Nat) : opK P (.ext x i) e H d l k Q = goK P (rExt (ev e x) i H) e d l k Q := rfl
@[push_cast] theorem opK_len (lk : LK) (x : LX) : opK P (.len lk x) e H d l k Q = goK P (rLen lk (ev e x) H) e d l k Q := rfl
@[push_cast] theorem opK_append (sz bytes : Nat) (s x : LX) : opK P (.append sz bytes s x) e H d l k Q = goK P (rAppend sz bytes (ev e s) (ev e x) H) e d l k Q := rfl
@[push_cast] theorem opK_copy (sz : Nat) (s x : LX) : opK P (.copy sz s x) e H d l k Q = goK P (rCopy sz (ev e s) (ev e x) H) e d l k Q := rfl
@[push_cast] theorem opK_min (x y : LX) : opK P (.min2 x y) e H d l k Q = goK P (rMin (ev e x) (ev e y) H) e d l k Q := rfl
@[push_cast] theorem opK_max (x y : LX) : opK P (.max2 x y) e H d l k Q = goK P (rMax (ev e x) (ev e y) H) e d l k Q := rfl
@[push_cast] theorem opK_frz (x : LX) : opK P (.frz x) e H d l k Q = goK P (rFrz (ev e x) H) e d l k Q := rfl
@[push_cast] theorem opK_own (sz : Nat) (x : LX) : opK P (.own sz x) e H d l k Q = goK P (rOwn sz (ev e x) H) e d l k Q := rfl
@[push_cast] theorem opK_bad : opK P .bad e H d l k Q = goK P (.no H) e d l k Q := rfl
@[push_cast] theorem opK_isnil (neg : Bool) (x : LX) : opK P (.isnil neg x) e H d l k Q = nilK P neg (ev e x) e H d l k Q := rfl
@[push_cast] theorem opK_call (f : LX) (args : List LX) : opK P (.call f args) e H d l k Q = callK P (ev e f) (args.map (ev e)) H e d l k Q := rfl
@[push_cast] theorem callK_fn (f : FuncId) (a b args : List AV) : callK P (.fn (.func f) a b) args H e d l k Q = callF P f (a ++ args ++ b) H e d l k Q := rfl

/-- A call that computes x. -/
theorem callF_pure {f : FuncId} {args : List AV} {x : AV} (h : ACall P f args H fun y H' => y = x ∧ H' = H) (hk : runK P (.ops l :: k) Q .normal (ups e d x) H) : callF P f args H e d l k Q :=
  h.mono fun y H' ⟨hy, hH⟩ => by subst hy; subst hH; exact hk
theorem callF_mono {f : FuncId} {args : List AV} {R : AV → AHeap → Prop} (h : ACall P f args H R) (hk : ∀ y H', R y H' → runK P (.ops l :: k) Q .normal (ups e d y) H') : callF P f args H e d l k Q :=
  h.mono hk

theorem rk_loop {c : LCode} (I : Env → AHeap → Prop) (μ : Env → AHeap → Nat) (h0 : I e H)
    (h : ∀ e H, I e H → runK P (.code c :: .lp (fun e' H' => I e' H' ∧ μ e' H' < μ e H) :: k) Q .normal e H) : runK P (.code (.loop c) :: k) Q .normal e H := by
  refine ⟨I, μ, h0, fun e H hI => ?_⟩
  have h1 : awp P c e H (runK P (.lp (fun e' H' => I e' H' ∧ μ e' H' < μ e H) :: k) Q) := h e H hI
  have : (runK P (.lp (fun e' H' => I e' H' ∧ μ e' H' < μ e H) :: k) Q) = (fun o e' H' => match o with | .normal => I e' H' ∧ μ e' H' < μ e H | o => runK P k Q o e' H') := by
    funext o e' H'; cases o <;> rfl
  rw [this] at h1
  exact h1

/-! ### The same where an order is drawn -/
def gqK (P : Program) (r : Res) (e : Env) (H : AHeap) (d : Option Nat) (l tl : List LO) (k : List Item) (Q : Out → Env → AHeap → Prop) : Prop :=
  r.ok ∧ r.H = H ∧ runK P (.opq l tl :: k) Q .normal (ups e d r.x) H
def oqK (P : Program) (op : LOp) (e : Env) (H : AHeap) (d : Option Nat) (l tl : List LO) (k : List Item) (Q : Out → Env → AHeap → Prop) : Prop :=
  aopq P op e H fun x => runK P (.opq l tl :: k) Q .normal (ups e d x) H
def callQ (P : Program) (f : AV) (args : List AV) (H : AHeap) (e : Env) (d : Option Nat) (l tl : List LO) (k : List Item) (Q : Out → Env → AHeap → Prop) : Prop :=
  match f with
  | .fn (.func f) a b => ∃ x, APure P f (a ++ args ++ b) x ∧ clL (a ++ args ++ b) = true ∧ runK P (.opq l tl :: k) Q .normal (ups e d x) H
  | _ => False
def callQF (P : Program) (f : FuncId) (args : List AV) (H : AHeap) (e : Env) (d : Option Nat) (l tl : List LO) (k : List Item) (Q : Out → Env → AHeap → Prop) : Prop :=
  ∃ x, APure P f args x ∧ clL args = true ∧ runK P (.opq l tl :: k) Q .normal (ups e d x) H
def gqG (P : Program) (x : AV) (want : Bool) (op : LOp) (e : Env) (t : Nat) (H : AHeap) (d : Option Nat) (l tl : List LO) (k : List Item) (Q : Out → Env → AHeap → Prop) : Prop :=
  match x with
  | .v (.bool b) => if b = true then (if want = true then oqK P op (up e t (bool true)) H d l tl k Q else runK P (.opq l tl :: k) Q .normal (ups (up e t (bool true)) d undefA) H)
      else (if want = true then runK P (.opq l tl :: k) Q .normal (ups (up e t (bool false)) d undefA) H else oqK P op (up e t (bool false)) H d l tl k Q)
  | .v (.tuple _) => runK P (.opq l tl :: k) Q .normal (ups e d undefA) H
  | _ => False
variable {tl : List LO}
@[push_cast] theorem gqK_mk (p : Prop) (x : AV) (H' : AHeap) : gqK P ⟨p, x, H'⟩ e H d l tl k Q = (p ∧ H' = H ∧ runK P (.opq l tl :: k) Q .normal (ups e d x) H) := rfl
@[push_cast] theorem rk_draw (hd tl : List LO) : runK P (.code (.draw hd tl) :: k) Q .normal e H = runK P (.opq hd tl :: k) Q .normal e H := rfl
@[push_cast] theorem rk_opqnil : runK P (.opq [] tl :: k) Q .normal e H = runK P (.ops tl :: k) Q .normal e H := rfl
@[push_cast] theorem rk_oq (op : LOp) : runK P (.opq (⟨d, none, op⟩ :: l) tl :: k) Q .normal e H = oqK P op e H d l tl k Q := rfl
@[push_cast] theorem rk_oqg (t : Nat) (want : Bool) (op : LOp) : runK P (.opq (⟨d, some (t, want), op⟩ :: l) tl :: k) Q .normal e H = gqG P (e t) want op e t H d l tl k Q := by
  simp only [runK, aopsq, gqG, oqK]
  cases e t with
  | v x => cases x <;> rfl
  | _ => rfl
@[push_cast] theorem gqG_t (b : Bool) (op : LOp) (t : Nat) : gqG P (.v (.bool b)) true op e t H d l tl k Q = if b = true then oqK P op (up e t (bool true)) H d l tl k Q else runK P (.opq l tl :: k) Q .normal (ups (up e t (bool false)) d undefA) H := by simp [gqG]
@[push_cast] theorem gqG_f (b : Bool) (op : LOp) (t : Nat) : gqG P (.v (.bool b)) false op e t H d l tl k Q = if b = true then runK P (.opq l tl :: k) Q .normal (ups (up e t (bool true)) d undefA) H else oqK P op (up e t (bool false)) H d l tl k Q := by simp [gqG]
@[push_cast] theorem gqG_u (us : Array Value) (want : Bool) (op : LOp) (t : Nat) : gqG P (.v (.tuple us)) want op e t H d l tl k Q = runK P (.opq l tl :: k) Q .normal (ups e d undefA) H := rfl
@[push_cast] theorem oqK_mv (x : LX) : oqK P (.mv x) e H d l tl k Q = runK P (.opq l tl :: k) Q .normal (ups e d (ev e x)) H := by simp [oqK, aopq, ares]
@[push_cast] theorem oqK_pick (c a b : LX) : oqK P (.pick c a b) e H d l tl k Q = match ev e c with | .v (.bool t) => (if t = true then runK P (.opq l tl :: k) Q .normal (ups e d (ev e a)) H else runK P (.opq l tl :: k) Q .normal (ups e d (ev e b)) H) | _ => False := rfl
@[push_cast] theorem oqK_box (imm : Bool) (x : LX) : oqK P (.box imm x) e H d l tl k Q = gqK P (rBox imm (ev e x) H) e H d l tl k Q := rfl
@[push_cast] theorem oqK_build (zs : List AV) (ps : List (Nat × Nat × LX)) : oqK P (.build zs ps) e H d l tl k Q = gqK P (rBuild zs (ps.map fun (o, n, x) => (o, n, ev e x)) H) e H d l tl k Q := rfl
@[push_cast] theorem oqK_bsl (imm : Bool) (sz len : Nat) (zs : List AV) (ps : List (Nat × LX)) : oqK P (.bsl imm sz len zs ps) e H d l tl k Q = gqK P (rBsl imm sz len zs (ps.map fun (i, x) => (i, ev e x)) H) e H d l tl k Q := rfl
@[push_cast] theorem oqK_load (ag : Bool) (n : Nat) (p : LX) : oqK P (.load ag n p) e H d l tl k Q = gqK P (rLoad ag n (ev e p) H) e H d l tl k Q := rfl
@[push_cast] theorem oqK_nilchk (x : LX) : oqK P (.nilchk x) e H d l tl k Q = gqK P (rNil (ev e x) H) e H d l tl k Q := rfl
@[push_cast] theorem oqK_bin (kd : KD) (op : BinOp) (x y : LX) : oqK P (.bin kd op x y) e H d l tl k Q = gqK P (rBin kd op (ev e x) (ev e y) H) e H d l tl k Q := rfl
@[push_cast] theorem oqK_not (x : LX) : oqK P (.not x) e H d l tl k Q = gqK P (rNot (ev e x) H) e H d l tl k Q := rfl
@[push_cast] theorem oqK_neg (x : LX) : oqK P (.neg x) e H d l tl k Q = gqK P (rNeg (ev e x) H) e H d l tl k Q := rfl
@[push_cast] theorem oqK_conv (c : Cv) (x : LX) : oqK P (.conv c x) e H d l tl k Q = gqK P (rConv c (ev e x) H) e H d l tl k Q := rfl
@[push_cast] theorem oqK_mkfn (f : Fn) (a b : List LX) : oqK P (.mkfn f a b) e H d l tl k Q = gqK P ⟨True, .fn f (a.map (ev e)) (b.map (ev e)), H⟩ e H d l tl k Q := rfl
@[push_cast] theorem oqK_slice (lk : LK) (n : Nat) (x : LX) (lo hi : Option LX) : oqK P (.slice lk n x lo hi) e H d l tl k Q = gqK P (rSlice lk n (ev e x) (lo.map (ev e)) (hi.map (ev e)) H) e H d l tl k Q := rfl
@[push_cast] theorem oqK_faddr (off : Nat) (p : LX) : oqK P (.faddr off p) e H d l tl k Q = gqK P (rFaddr off (ev e p) H) e H d l tl k Q := rfl
@[push_cast] theorem oqK_fld (ag : Bool) (off n : Nat) (x : LX) : oqK P (.fld ag off n x) e H d l tl k Q = gqK P (rFld ag off n (ev e x) H) e H d l tl k Q := rfl
@[push_cast] theorem oqK_iaddr (sz : Nat) (x i : LX) : oqK P (.iaddr sz x i) e H d l tl k Q = gqK P (rIaddr sz (ev e x) (ev e i) H) e H d l tl k Q := rfl
@[push_cast] theorem oqK_idx (x i : LX) : oqK P (.idx x i) e H d l tl k Q = gqK P (rIdx (ev e x) (ev e i) H) e H d l tl k Q := rfl
@[push_cast] theorem oqK_look (kd : KD) (zero : AV) (ok : Bool) (m x : LX) : oqK P (.look kd zero ok m x) e H d l tl k Q = gqK P (rLook kd zero ok (ev e m) (ev e x) H) e H d l tl k Q := rfl
@[push_cast] theorem oqK_ext (x : LX) (i : Nat) : oqK P (.ext x i) e H d l tl k Q = gqK P (rExt (ev e x) i H) e H d l tl k Q := rfl
@[push_cast] theorem oqK_len (lk : LK) (x : LX) : oqK P (.len lk x) e H d l tl k Q = gqK P (rLen lk (ev e x) H) e H d l tl k Q := rfl
@[push_cast] theorem oqK_min (x y : LX) : oqK P (.min2 x y) e H d l tl k Q = gqK P (rMin (ev e x) (ev e y) H) e H d l tl k Q := rfl
@[push_cast] theorem oqK_max (x y : LX) : oqK P (.max2 x y) e H d l tl k Q = gqK P (rMax (ev e x) (ev e y) H) e H d l tl k Q := rfl
@[push_cast] theorem oqK_call (f : LX) (args : List LX) : oqK P (.call f args) e H d l tl k Q = callQ P (ev e f) (args.map (ev e)) H e d l tl k Q := by
  simp only [oqK, aopq, callQ]
  cases ev e f with
  | fn f a b => cases f <;> rfl
  | _ => rfl
@[push_cast] theorem callQ_fn (f : FuncId) (a b args : List AV) : callQ P (.fn (.func f) a b) args H e d l tl k Q = callQF P f (a ++ args ++ b) H e d l tl k Q := rfl
theorem callQF_pure {f : FuncId} {args : List AV} {x : AV} (h : APure P f args x) (hc : clL args = true) (hk : runK P (.opq l tl :: k) Q .normal (ups e d x) H) : callQF P f args H e d l tl k Q := ⟨x, h, hc, hk⟩

@[push_cast] theorem ups_some (t : Nat) (x : AV) : ups e (some t) x = up e t x := rfl
@[push_cast] theorem ups_none (x : AV) : ups e none x = e := rfl
@[push_cast] theorem up_same (t : Nat) (x : AV) : up e t x t = x := by simp [up]
@[push_cast] theorem up_at (t u : Nat) (x : AV) : up e t x u = if u = t then x else e u := rfl
@[push_cast] theorem ev_t (n : Nat) : ev e (.t n) = e n := rfl
@[push_cast] theorem ev_c (x : AV) : ev e (.c x) = x := rfl
@[push_cast] theorem markX_t (n : Nat) (b : Bool) : markX e (.t n) b = up e n (bool b) := rfl
@[push_cast] theorem markX_c (x : AV) (b : Bool) : markX e (.c x) b = e := rfl
@[push_cast] theorem retQ_ret (res : List RV) (R : AV → AHeap → Prop) : retQ res R .ret e H = ((resVs e H res).ok ∧ R (resVs e H res).x H) := rfl
@[push_cast] theorem retQ_normal (res : List RV) (R : AV → AHeap → Prop) : retQ res R .normal e H = ((resVs e H res).ok ∧ R (resVs e H res).x H) := rfl
@[push_cast] theorem resVs_1 (r : RV) : resVs e H [r] = resV e H r := rfl
@[push_cast] theorem resVs_2 (a b : RV) : resVs e H [a, b] = ⟨(resV e H a).ok ∧ (resV e H b).ok, .tup [(resV e H a).x, (resV e H b).x], H⟩ := by simp [resVs]
@[push_cast] theorem resVs_3 (a b c : RV) : resVs e H [a, b, c] = ⟨(resV e H a).ok ∧ (resV e H b).ok ∧ (resV e H c).ok, .tup [(resV e H a).x, (resV e H b).x, (resV e H c).x], H⟩ := by simp [resVs]
@[push_cast] theorem resVs_4 (a b c d : RV) : resVs e H [a, b, c, d] = ⟨(resV e H a).ok ∧ (resV e H b).ok ∧ (resV e H c).ok ∧ (resV e H d).ok, .tup [(resV e H a).x, (resV e H b).x, (resV e H c).x, (resV e H d).x], H⟩ := by simp [resVs]
@[push_cast] theorem resV_tmp (t : Nat) : resV e H (.tmp t) = ⟨True, e t, H⟩ := rfl
@[push_cast] theorem resV_cell (t : Nat) (ag : Bool) (n : Nat) : resV e H (.cell t ag n) = rLoad ag n (e t) H := rfl
@[push_cast] theorem envOf_nil (i : Nat) : envOf [] i = e0 := rfl
@[push_cast] theorem envOf_cons (x : AV) (l : List AV) (i : Nat) : envOf (x :: l) i = up (envOf l (i + 1)) i x := rfl
end

attribute [push_cast] rBox.eq_1 fillA.eq_1 fillA.eq_2 rBuild.eq_1 fillS.eq_1 fillS.eq_2 rBsl.eq_1 rIns.eq_1 rIns.eq_2 rLoadO.eq_1 rLoadO.eq_2 rLoadO.eq_3 isVer.eq_1 isVer.eq_2 isVer.eq_3 isVer.eq_4 isBox.eq_1 isBox.eq_2 isArr.eq_1 isArr.eq_2 rLoad.eq_1 rLoad.eq_2 rLoad.eq_3 rLoad.eq_4 rStoreO.eq_1 rStoreO.eq_2 rStoreO.eq_3 rStore.eq_1 rStore.eq_2 rStore.eq_3 rNil.eq_1 rNil.eq_2 rNil.eq_3 rNil.eq_4 rNil.eq_5 rNil.eq_6 cEq.eq_1 cEq.eq_2 cEq.eq_3 iBin.eq_1 iBin.eq_2 iBin.eq_3 iBin.eq_4 iBin.eq_5 iBin.eq_6 iBin.eq_7 iBin.eq_8 iBin.eq_9 iBin.eq_10 iBin.eq_11 iBin.eq_12 iBin.eq_13 iBin.eq_14 iBin.eq_15 iBin.eq_16 sBin.eq_1 sBin.eq_2 sBin.eq_3 sBin.eq_4 sBin.eq_5 sBin.eq_6 sBin.eq_7 sBin.eq_8 eqRes.eq_1 eqRes.eq_2 eqRes.eq_3 isKD.eq_1 isKD.eq_2 isKD.eq_3 isKD.eq_4 rBin.eq_1 rBin.eq_2 rBin.eq_3 rBin.eq_4 rBin.eq_5 rBin.eq_6 rBin.eq_7 rNot.eq_1 rNot.eq_2 rNeg.eq_1 rNeg.eq_2 rConv.eq_1 rConv.eq_2 rConv.eq_3 rConv.eq_4 rConv.eq_5 rConv.eq_6 rConv.eq_7 rConv.eq_8 rMsl.eq_1 rMsl.eq_2 bnd.eq_1 bnd.eq_2 bnd.eq_3 rSliceN.eq_1 rSliceN.eq_2 rSliceN.eq_3 rSliceN.eq_4 rSliceN.eq_5 lenOf.eq_1 lenOf.eq_2 lenOf.eq_3 lenOf.eq_4 lenOf.eq_5 lenOf.eq_6 lenOf.eq_7 lenOf.eq_8 rSlice.eq_1 lkOk.eq_1 lkOk.eq_2 lkOk.eq_3 lkOk.eq_4 lkOk.eq_5 lkOk.eq_6 lkOk.eq_7 verOk.eq_1 verOk.eq_2 rLen.eq_1 rFaddr.eq_1 rFaddr.eq_2 rFaddr.eq_3 rFaddr.eq_4 rFld.eq_1 rFld.eq_2 rIaddr.eq_1 rIaddr.eq_2 rIaddr.eq_3 rIdx.eq_1 rIdx.eq_2 lookV.eq_1 lookV.eq_2 rLookN.eq_1 rLook.eq_1 rLook.eq_2 rLook.eq_3 rExt.eq_1 rExt.eq_2 rAppendO.eq_1 rAppendO.eq_2 rAppendO.eq_3 rAppendN.eq_1 rAppendN.eq_2 rAppend.eq_1 rAppend.eq_2 rAppend.eq_3 rAppend.eq_4 rCopy.eq_1 rCopy.eq_2 rMin.eq_1 rMin.eq_2 rMax.eq_1 rMax.eq_2 rFrz.eq_1 rFrz.eq_2 rFrz.eq_3 rFrz.eq_4 rFrz.eq_5 rFrz.eq_6 rOwn.eq_1 rOwn.eq_2 cellsOf.eq_1 cellsOf.eq_2 c1.eq_1 c1.eq_2 c1.eq_3 c1.eq_4 c1.eq_5 one.eq_1 one.eq_2 one.eq_3 cellsV.eq_1 splice.eq_1 osRows.eq_1 rowsOf.eq_1 rowsOf.eq_2 rowsOf.eq_3 rowsOf.eq_4 rowsOf.eq_5 rowsOf.eq_6 szOk.eq_1 szOk.eq_2 szOk.eq_3 szOk.eq_4 szOk.eq_5 szOk.eq_6 nilOk.eq_1 nilOk.eq_2 nilOk.eq_3 nilOk.eq_4 slcK.eq_1 slcK.eq_2 slcK.eq_3 slcK.eq_4 slcK.eq_5 kIs.eq_1 kIs.eq_2 kIs.eq_3 kIs.eq_4 AV.cl.eq_1 AV.cl.eq_2 AV.cl.eq_3 AV.cl.eq_4 AV.cl.eq_5 AV.cl.eq_6 AV.cl.eq_7 AV.cl.eq_8 kCmp.eq_1 kCmp.eq_2 kCmp.eq_3 kCmp.eq_4

@[push_cast] theorem verOk_v (H : AHeap) (x : Value) : verOk H (.v x) = True := rfl
@[push_cast] theorem verOk_sl (H : AHeap) (sz : Nat) (xs : List (List AV)) : verOk H (.sl sz xs) = True := rfl
@[push_cast] theorem verOk_mp (H : AHeap) (ks : List Value) (vs : List AV) : verOk H (.mp ks vs) = True := rfl
@[push_cast] theorem verOk_nc (H : AHeap) : verOk H .nc = True := rfl
@[push_cast] theorem bs_mkS (l : List UInt8) : bs (mkS l) = l := by simp [bs, mkS]
theorem mkS_bs (s : ByteArray) : mkS (bs s) = s := by cases s; simp [bs, mkS]
@[push_cast] theorem c1s_nil : c1s [] = true := rfl
@[push_cast] theorem c1s_cons (x : AV) (l : List AV) : c1s (x :: l) = (c1 x && c1s l) := rfl
@[push_cast] theorem clL_nil : clL [] = true := rfl
@[push_cast] theorem clL_cons (x : AV) (l : List AV) : clL (x :: l) = (x.cl && clL l) := by simp [clL]
@[push_cast] theorem wrap64_of (n : Int) (h : -9223372036854775808 ≤ n) (h' : n < 9223372036854775808) : IntKind.i64.wrap n = n := by
  simp [IntKind.wrap, IntKind.bits, IntKind.signed]
  split <;> omega
@[push_cast] theorem wrap8_of (n : Int) (h : 0 ≤ n) (h' : n < 256) : IntKind.u8.wrap n = n := by
  simp [IntKind.wrap, IntKind.bits, IntKind.signed]
  omega
@[push_cast] theorem wrap32_of (n : Int) (h : -2147483648 ≤ n) (h' : n < 2147483648) : IntKind.i32.wrap n = n := by
  simp [IntKind.wrap, IntKind.bits, IntKind.signed]
  split <;> omega
@[push_cast] theorem wrapu64_of (n : Int) (h : 0 ≤ n) (h' : n < 18446744073709551616) : IntKind.u64.wrap n = n := by
  simp [IntKind.wrap, IntKind.bits, IntKind.signed]
  omega

attribute [push_cast] List.map_cons List.map_nil List.cons_append List.nil_append List.append_nil List.length_cons List.length_nil List.take_zero List.take_nil List.take_succ_cons List.drop_zero List.drop_nil List.drop_succ_cons List.headD_cons
  List.getElem?_cons_zero List.getElem?_cons_succ List.set_cons_zero List.set_cons_succ List.getD_cons_zero List.getD_cons_succ List.replicate_succ List.replicate_zero List.length_append List.length_map
  if_true if_false ite_true ite_false true_and and_true Option.map_some Option.map_none Option.getD_some Option.getD_none Option.isSome_some decide_eq_true_eq decide_eq_false_iff_not Bool.not_eq_true' Bool.and_eq_true Bool.or_eq_true beq_iff_eq ne_eq not_true not_false_eq_true
  false_and and_false Bool.false_eq_true Bool.not_true Bool.not_false Bool.and_true Bool.and_false Bool.true_and Bool.false_and Bool.or_true Bool.or_false Bool.true_or Bool.false_or Bool.not_not Bool.not_eq_eq_eq_not ite_not
  List.mem_cons List.mem_nil_iff List.not_mem_nil forall_eq forall_eq_or_imp forall_const or_true true_or or_false false_or implies_true and_self or_self List.length_set Int.toNat_natCast eq_self

@[push_cast] theorem cellsOf_v (x : Value) : cellsOf (.v x) = [(.v x)] := rfl
@[push_cast] theorem cl_v (x : Value) : AV.cl (.v x) = true := by simp [AV.cl]
@[push_cast] theorem cellsOf_sl (a : Nat) (b : List (List AV)) : cellsOf (.sl a b) = [(.sl a b)] := rfl
@[push_cast] theorem c1_sl (a : Nat) (b : List (List AV)) : c1 (.sl a b) = true := rfl
@[push_cast] theorem cl_sl (a : Nat) (b : List (List AV)) : AV.cl (.sl a b) = true := by simp [AV.cl]
@[push_cast] theorem cellsOf_vp (a : List AV) (b : Nat) : cellsOf (.vp a b) = [(.vp a b)] := rfl
@[push_cast] theorem c1_vp (a : List AV) (b : Nat) : c1 (.vp a b) = true := rfl
@[push_cast] theorem cl_vp (a : List AV) (b : Nat) : AV.cl (.vp a b) = true := by simp [AV.cl]
@[push_cast] theorem cellsOf_fn (a : Fn) (b c : List AV) : cellsOf (.fn a b c) = [(.fn a b c)] := rfl
@[push_cast] theorem c1_fn (a : Fn) (b c : List AV) : c1 (.fn a b c) = true := rfl
@[push_cast] theorem cellsOf_mp (a : List Value) (b : List AV) : cellsOf (.mp a b) = [(.mp a b)] := rfl
@[push_cast] theorem c1_mp (a : List Value) (b : List AV) : c1 (.mp a b) = true := rfl
@[push_cast] theorem cl_mp (a : List Value) (b : List AV) : AV.cl (.mp a b) = true := by simp [AV.cl]
@[push_cast] theorem cellsOf_os (a b c d : Nat) : cellsOf (.os a b c d) = [(.os a b c d)] := rfl
@[push_cast] theorem c1_os (a b c d : Nat) : c1 (.os a b c d) = true := rfl
@[push_cast] theorem cellsOf_ptr (a b c : Nat) : cellsOf (.ptr a b c) = [(.ptr a b c)] := rfl
@[push_cast] theorem c1_ptr (a b c : Nat) : c1 (.ptr a b c) = true := rfl
@[push_cast] theorem cellsOf_pe (a b c d : Nat) : cellsOf (.pe a b c d) = [(.pe a b c d)] := rfl
@[push_cast] theorem c1_pe (a b c d : Nat) : c1 (.pe a b c d) = true := rfl
@[push_cast] theorem cellsOf_om (a b : Nat) : cellsOf (.om a b) = [(.om a b)] := rfl
@[push_cast] theorem c1_om (a b : Nat) : c1 (.om a b) = true := rfl
@[push_cast] theorem cellsOf_nc  : cellsOf .nc = [.nc] := rfl
@[push_cast] theorem c1_nc  : c1 .nc = true := rfl
@[push_cast] theorem cl_nc  : AV.cl .nc = true := by simp [AV.cl]
@[push_cast] theorem c1_v (x : Value) : c1 (.v x) = one x := rfl
@[push_cast] theorem one_int (k : IntKind) (n : Int) : one (.int k n) = true := rfl
@[push_cast] theorem one_bool (b : Bool) : one (.bool b) = true := rfl
@[push_cast] theorem one_string (s : ByteArray) : one (.string s) = true := rfl
@[push_cast] theorem one_slice (a : Option Addr) (l c : Nat) : one (.slice a l c) = true := rfl
@[push_cast] theorem one_map (a : Option Nat) : one (.map a) = true := rfl
@[push_cast] theorem one_pointer (a : Option Addr) : one (.pointer a) = true := rfl
@[push_cast] theorem get_len {α : Type} (H : List α) (x : α) (l : List α) : (H ++ x :: l)[H.length]? = some x := by simp
@[push_cast] theorem set_len {α : Type} (H : List α) (x y : α) (l : List α) : (H ++ x :: l).set H.length y = H ++ y :: l := by simp
@[push_cast] theorem get_add {α : Type} (H l : List α) (k : Nat) : (H ++ l)[H.length + k]? = l[k]? := by rw [List.getElem?_append_right (by omega)]; congr 1; omega
@[push_cast] theorem set_add {α : Type} (H l : List α) (k : Nat) (y : α) : (H ++ l).set (H.length + k) y = H ++ l.set k y := by rw [List.set_append_right _ _ (by omega)]; congr 2; omega
attribute [push_cast] List.append_assoc
end Go.Ax
