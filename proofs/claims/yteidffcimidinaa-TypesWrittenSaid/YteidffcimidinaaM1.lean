/- Parts, merged by a program (wip/tools/merge.py): Ax1 Ax2 Ax4 Fp Fl Ft Ax5 Ax6 Ax7. -/
import Derived.WalkKit
import Derived.RangeFuncSeq
import Derived.Test.YteidffcimidinaaChecked
/- Values without addresses, what it means that a value of the model stands for one, and how that lasts. -/
namespace Go.Ax
open Go Go.RowKit

/-- A value as a proof sees it. 'sl', 'vp', 'mp': memory that nobody changes any more (a slice, a pointer to cells, a map). 'os', 'ptr', 'om': a slice, a pointer, a map of object number r. -/
inductive AV where
  | any
  | v (x : Value)
  | agg (cs : List AV)
  | tup (cs : List AV)
  | sl (sz : Nat) (xs : List (List AV))
  | vp (cs : List AV) (off : Nat)
  | fn (f : Fn) (first caps : List AV)
  | mp (ks : List Value) (vs : List AV)
  | os (r ver off len : Nat)
  | ptr (r ver off : Nat)
  | pe (r ver i off : Nat)
  | om (r ver : Nat)
  | nc
  | bnil (t : TypeId)
  deriving Inhabited

/-- Where an object lies: its block and its first cell, how many cells it may use, which version it is, how many cells an element has. -/
structure Loc where
  blk : Option (Nat × Nat) := none
  ext : Nat := 0
  ver : Nat := 0
  sz : Nat := 0

/-- How a range over a function stands: its next round may come; a round is under way; a round has left it (with ret, or for the block of this number). -/
inductive LpSt where
  | ready
  | busy
  | done (o : Option Nat)
  deriving Inhabited
def lpJump : Option Nat → Code
  | none => .ret
  | some id => .exit id
def lpRec (lr : Go.Loop) : LpSt → Go.Loop
  | .ready => lr
  | .busy => { lr with state := .busy }
  | .done o => { lr with state := .done, pending := some (lpJump o) }

/-- The objects that a run owns. 'lp': the record of a range over a function, at block b; a round's slots are e's. 'barr': bytes in a row of cells of a known type. -/
inductive HO where
  | dead
  | box (cs : List AV)
  | arr (ver sz : Nat) (xs : List (List AV))
  | map (ver : Nat) (ks : List Value) (vs : List AV)
  | iter (s : ByteArray) (pos : Nat)
  | lp (b : Nat) (lr : Go.Loop) (e : Nat → AV) (st : LpSt)
  | barr (t : TypeId) (ver : Nat) (l : List UInt8)
  deriving Inhabited

abbrev AHeap := List HO

def OsOk (l : Loc) (off len : Nat) (val : Value) : Prop :=
  ∃ a cap, val = .slice a len cap ∧ len ≤ cap ∧ (cap = 0 ∨ ∃ b o, l.blk = some (b, o) ∧ a = some ⟨b, o + off * l.sz, none⟩ ∧ (off + cap) * l.sz ≤ l.ext)

def PtOk (l : Loc) (off : Nat) (val : Value) : Prop := ∃ b o, l.blk = some (b, o) ∧ val = .pointer (some ⟨b, o + off, none⟩)
def OmOk (l : Loc) (val : Value) : Prop := ∃ b o, l.blk = some (b, o) ∧ val = .map (some b)

/-- The value of one cell. -/
def one : Value → Bool
  | .agg _ | .tuple _ => false
  | _ => true

/-- 'v' stands for 'x' in world w. M: the blocks that may still change. -/
inductive Rep (w : World) (M : Nat → Prop) (ρ : Nat → Loc) : Nat → AV → Value → Prop
  | any (n : Nat) (u : Value) : Rep w M ρ n .any u
  | v (n : Nat) (x : Value) : Rep w M ρ n (.v x) x
  | agg (n : Nat) (cs : List AV) (us : Array Value) : cs.length = us.size → (∀ (i : Nat) (x : AV) (u : Value), cs[i]? = some x → us[i]? = some u → Rep w M ρ n x u) → Rep w M ρ n (.agg cs) (.agg us)
  | tup (n : Nat) (cs : List AV) (us : Array Value) : cs.length = us.size → (∀ (i : Nat) (x : AV) (u : Value), cs[i]? = some x → us[i]? = some u → Rep w M ρ n x u) → Rep w M ρ n (.tup cs) (.tuple us)
  | nc (n : Nat) (a : Option Addr) : Rep w M ρ n .nc (.slice a 0 0)
  | bnil (n : Nat) (t : TypeId) : Rep w M ρ n (.bnil t) (.pointer none)
  | slE (n sz : Nat) (a : Option Addr) (cap : Nat) : Rep w M ρ n (.sl sz []) (.slice a 0 cap)
  | slN (n sz : Nat) (xs : List (List AV)) (b o cap : Nat) (c : Nat → Nat → Value) : ¬ M b → b < w.heap.size → xs.length ≤ cap → (∀ x ∈ xs, x.length = sz) →
      (∀ (i j : Nat) (x : List AV) (y : AV), xs[i]? = some x → x[j]? = some y → w.cell? ⟨b, o + i * sz + j, none⟩ = some (c i j) ∧ one (c i j) = true) →
      (∀ (i j : Nat) (x : List AV) (y : AV), xs[i]? = some x → x[j]? = some y → Rep w M ρ 0 y (c i j)) → Rep w M ρ n (.sl sz xs) (.slice (some ⟨b, o, none⟩) xs.length cap)
  | vp (n : Nat) (cs : List AV) (off b o : Nat) (c : Nat → Value) : ¬ M b → b < w.heap.size → (∀ (j : Nat) (y : AV), cs[j]? = some y → w.cell? ⟨b, o + j, none⟩ = some (c j) ∧ one (c j) = true) →
      (∀ (j : Nat) (y : AV), cs[j]? = some y → Rep w M ρ 0 y (c j)) → Rep w M ρ n (.vp cs off) (.pointer (some ⟨b, o + off, none⟩))
  | fn (n : Nat) (f : Fn) (first caps : List AV) (fs us : Array Value) : first.length = fs.size → caps.length = us.size → (∀ (i : Nat) (x : AV) (u : Value), first[i]? = some x → fs[i]? = some u → Rep w M ρ n x u) →
      (∀ (i : Nat) (x : AV) (u : Value), caps[i]? = some x → us[i]? = some u → Rep w M ρ n x u) → Rep w M ρ n (.fn f first caps) (.func f fs us)
  | mp (n : Nat) (ks : List Value) (vs : List AV) (b : Nat) (es : Array MapEntry) (clock : Nat) : ¬ M b → b < w.heap.size → w.heap[b]? = some (.map es clock) → ks = es.toList.map (·.key) → vs.length = es.size →
      (∀ (i : Nat) (x : AV) (e : MapEntry), vs[i]? = some x → es[i]? = some e → Rep w M ρ 0 x e.val) → Rep w M ρ n (.mp ks vs) (.map (some b))
  | os (n r ver off len : Nat) (u : Value) : r < n → ver ≤ (ρ r).ver → one u = true → (ver = (ρ r).ver → OsOk (ρ r) off len u) → Rep w M ρ n (.os r ver off len) u
  | ptr (n r ver off : Nat) (u : Value) : r < n → ver ≤ (ρ r).ver → one u = true → (ver = (ρ r).ver → PtOk (ρ r) off u) → Rep w M ρ n (.ptr r ver off) u
  | pe (n r ver i off : Nat) (u : Value) : r < n → ver ≤ (ρ r).ver → one u = true → (ver = (ρ r).ver → PtOk (ρ r) (i * (ρ r).sz + off) u) → Rep w M ρ n (.pe r ver i off) u
  | om (n r ver : Nat) (u : Value) : r < n → ver ≤ (ρ r).ver → one u = true → (ver = (ρ r).ver → OmOk (ρ r) u) → Rep w M ρ n (.om r ver) u

/-- The blocks of the first n objects. -/
def Own (ρ : Nat → Loc) (n : Nat) (b : Nat) : Prop := ∃ r o, r < n ∧ (ρ r).blk = some (b, o)

def Mut (X : Nat → Prop) (ρ : Nat → Loc) (n : Nat) (b : Nat) : Prop := X b ∨ Own ρ n b

/-- From one state to a later one: only owned blocks have changed; what is owned now was owned or is new; a place stays, or its version grows. -/
structure Fut (w : World) (ρ : Nat → Loc) (n : Nat) (w' : World) (ρ' : Nat → Loc) (n' : Nat) : Prop where
  os : w'.os = w.os
  tape : w'.tape = w.tape
  output : w'.output = w.output
  size : w.heap.size ≤ w'.heap.size
  keep : ∀ b, b < w.heap.size → ¬ Own ρ n b → w'.heap[b]? = w.heap[b]?
  own : ∀ b, Own ρ' n' b → Own ρ n b ∨ w.heap.size ≤ b
  len : n ≤ n'
  loc : ∀ r, r < n → ρ' r = ρ r ∨ (ρ r).ver < (ρ' r).ver

theorem Fut.refl (w : World) (ρ : Nat → Loc) (n : Nat) : Fut w ρ n w ρ n :=
  ⟨rfl, rfl, rfl, Nat.le_refl _, fun _ _ _ => rfl, fun _ h => .inl h, Nat.le_refl _, fun _ _ => .inl rfl⟩

theorem Fut.trans {w w1 w2 : World} {ρ ρ1 ρ2 : Nat → Loc} {n n1 n2 : Nat} (h : Fut w ρ n w1 ρ1 n1) (k : Fut w1 ρ1 n1 w2 ρ2 n2) : Fut w ρ n w2 ρ2 n2 where
  os := k.os.trans h.os
  tape := k.tape.trans h.tape
  output := k.output.trans h.output
  size := Nat.le_trans h.size k.size
  keep := fun b hb ho => by
    rw [k.keep b (Nat.lt_of_lt_of_le hb h.size), h.keep b hb ho]
    intro h1
    rcases h.own b h1 with h2 | h2
    · exact ho h2
    · omega
  own := fun b hb => by
    rcases k.own b hb with h1 | h1
    · exact h.own b h1
    · exact .inr (Nat.le_trans h.size h1)
  len := Nat.le_trans h.len k.len
  loc := fun r hr => by
    rcases h.loc r hr with h1 | h1 <;> rcases k.loc r (Nat.lt_of_lt_of_le hr h.len) with h2 | h2
    · exact .inl (h2.trans h1)
    · exact .inr (by rw [h1] at h2; exact h2)
    · exact .inr (by rw [h2]; exact h1)
    · exact .inr (Nat.lt_trans h1 h2)

/-- What stood for a value goes on standing for it. -/
theorem Rep.fut {w w' : World} {M M' : Nat → Prop} {ρ ρ' : Nat → Loc} {n0 n1 : Nat} (hf : Fut w ρ n0 w' ρ' n1) (hM : ∀ b, b < w.heap.size → ¬ M b → ¬ M' b) (hO : ∀ b, ¬ M b → ¬ Own ρ n0 b)
    {k : Nat} {x : AV} {u : Value} (h : Rep w M ρ k x u) : k ≤ n0 → Rep w' M' ρ' k x u := by
  have hc : ∀ b o, b < w.heap.size → ¬ M b → w'.cell? ⟨b, o, none⟩ = w.cell? ⟨b, o, none⟩ := fun b o hb hm => World.cell?_of_block (hf.keep b hb (hO b hm))
  have hv : ∀ r ver (P : Loc → Prop), r < n0 → ver ≤ (ρ r).ver → (ver = (ρ r).ver → P (ρ r)) → ver ≤ (ρ' r).ver ∧ (ver = (ρ' r).ver → P (ρ' r)) := by
    intro r ver P hr hle hp
    rcases hf.loc r hr with h1 | h1
    · rw [h1]; exact ⟨hle, hp⟩
    · exact ⟨by omega, fun h => by omega⟩
  induction h with
  | any => intro _; exact .any _ _
  | v => intro _; exact .v _ _
  | agg n cs us hl _ ih => intro hk; exact .agg _ _ _ hl fun i x u hx hu => ih i x u hx hu hk
  | tup n cs us hl _ ih => intro hk; exact .tup _ _ _ hl fun i x u hx hu => ih i x u hx hu hk
  | nc => intro _; exact .nc _ _
  | bnil => intro _; exact .bnil _ _
  | slE => intro _; exact .slE _ _ _ _
  | slN n sz xs b o cap c hm hb hcap hsz hcell _ ih =>
    intro _
    exact .slN _ _ _ _ _ _ c (hM b hb hm) (Nat.lt_of_lt_of_le hb hf.size) hcap hsz (fun i j x y hx hy => ⟨by rw [hc b _ hb hm]; exact (hcell i j x y hx hy).1, (hcell i j x y hx hy).2⟩) (fun i j x y hx hy => ih i j x y hx hy (Nat.zero_le _))
  | vp n cs off b o c hm hb hcell _ ih =>
    intro _
    exact .vp _ _ _ _ _ c (hM b hb hm) (Nat.lt_of_lt_of_le hb hf.size) (fun j y hy => ⟨by rw [hc b _ hb hm]; exact (hcell j y hy).1, (hcell j y hy).2⟩) (fun j y hy => ih j y hy (Nat.zero_le _))
  | fn n f first caps fs us h1 h2 _ _ ih1 ih2 => intro hk; exact .fn _ _ _ _ _ _ h1 h2 (fun i x u hx hu => ih1 i x u hx hu hk) (fun i x u hx hu => ih2 i x u hx hu hk)
  | mp n ks vs b es clock hm hb hh hks hvs _ ih =>
    intro _
    exact .mp _ _ _ _ es clock (hM b hb hm) (Nat.lt_of_lt_of_le hb hf.size) (by rw [hf.keep b hb (hO b hm)]; exact hh) hks hvs (fun i x e hx he => ih i x e hx he (Nat.zero_le _))
  | os n r ver off len u hr hle h1 hp =>
    intro hk
    obtain ⟨a, b⟩ := hv r ver (fun l => OsOk l off len u) (Nat.lt_of_lt_of_le hr hk) hle hp
    exact .os _ _ _ _ _ _ hr a h1 b
  | ptr n r ver off u hr hle h1 hp =>
    intro hk
    obtain ⟨a, b⟩ := hv r ver (fun l => PtOk l off u) (Nat.lt_of_lt_of_le hr hk) hle hp
    exact .ptr _ _ _ _ _ hr a h1 b
  | pe n r ver i off u hr hle h1 hp =>
    intro hk
    obtain ⟨a, b⟩ := hv r ver (fun l => PtOk l (i * l.sz + off) u) (Nat.lt_of_lt_of_le hr hk) hle hp
    exact .pe _ _ _ _ _ _ hr a h1 b
  | om n r ver u hr hle h1 hp =>
    intro hk
    obtain ⟨a, b⟩ := hv r ver (fun l => OmOk l u) (Nat.lt_of_lt_of_le hr hk) hle hp
    exact .om _ _ _ _ hr a h1 b

theorem Rep.mono {w : World} {M : Nat → Prop} {ρ : Nat → Loc} {k k' : Nat} {x : AV} {u : Value} (h : Rep w M ρ k x u) : k ≤ k' → Rep w M ρ k' x u := by
  revert k'
  induction h with
  | any => intro _ _; exact .any _ _
  | v => intro _ _; exact .v _ _
  | agg n cs us hl _ ih => intro k' hk; exact .agg _ _ _ hl fun i x u hx hu => ih i x u hx hu hk
  | tup n cs us hl _ ih => intro k' hk; exact .tup _ _ _ hl fun i x u hx hu => ih i x u hx hu hk
  | nc => intro _ _; exact .nc _ _
  | bnil => intro _ _; exact .bnil _ _
  | slE => intro _ _; exact .slE _ _ _ _
  | slN n sz xs b o cap c hm hb hcap hsz hcell h0 _ => intro _ _; exact .slN _ _ _ _ _ _ c hm hb hcap hsz hcell h0
  | vp n cs off b o c hm hb hcell h0 _ => intro _ _; exact .vp _ _ _ _ _ c hm hb hcell h0
  | fn n f first caps fs us h1 h2 _ _ ih1 ih2 => intro k' hk; exact .fn _ _ _ _ _ _ h1 h2 (fun i x u hx hu => ih1 i x u hx hu hk) (fun i x u hx hu => ih2 i x u hx hu hk)
  | mp n ks vs b es clock hm hb hh hks hvs h0 _ => intro _ _; exact .mp _ _ _ _ es clock hm hb hh hks hvs h0
  | os n r ver off len u hr hle h1 hp => intro k' hk; exact .os _ _ _ _ _ _ (Nat.lt_of_lt_of_le hr hk) hle h1 hp
  | ptr n r ver off u hr hle h1 hp => intro k' hk; exact .ptr _ _ _ _ _ (Nat.lt_of_lt_of_le hr hk) hle h1 hp
  | pe n r ver i off u hr hle h1 hp => intro k' hk; exact .pe _ _ _ _ _ _ (Nat.lt_of_lt_of_le hr hk) hle h1 hp
  | om n r ver u hr hle h1 hp => intro k' hk; exact .om _ _ _ _ (Nat.lt_of_lt_of_le hr hk) hle h1 hp

/-- A value that names no object stands alone: neither the places nor the number of objects matter. -/
theorem Rep.closed {w : World} {M : Nat → Prop} {ρ : Nat → Loc} {x : AV} {u : Value} {k : Nat} (h : Rep w M ρ k x u) : k = 0 → ∀ (ρ' : Nat → Loc) (k' : Nat), Rep w M ρ' k' x u := by
  induction h with
  | any => intro _ _ _; exact .any _ _
  | v => intro _ _ _; exact .v _ _
  | agg n cs us hl _ ih => intro hk ρ' k'; exact .agg _ _ _ hl fun i x u hx hu => ih i x u hx hu hk ρ' k'
  | tup n cs us hl _ ih => intro hk ρ' k'; exact .tup _ _ _ hl fun i x u hx hu => ih i x u hx hu hk ρ' k'
  | nc => intro _ _ _; exact .nc _ _
  | bnil => intro _ _ _; exact .bnil _ _
  | slE => intro _ _ _; exact .slE _ _ _ _
  | slN n sz xs b o cap c hm hb hcap hsz hcell _ ih => intro _ ρ' _; exact .slN _ _ _ _ _ _ c hm hb hcap hsz hcell fun i j x y hx hy => ih i j x y hx hy rfl ρ' 0
  | vp n cs off b o c hm hb hcell _ ih => intro _ ρ' _; exact .vp _ _ _ _ _ c hm hb hcell fun j y hy => ih j y hy rfl ρ' 0
  | fn n f first caps fs us h1 h2 _ _ ih1 ih2 => intro hk ρ' k'; exact .fn _ _ _ _ _ _ h1 h2 (fun i x u hx hu => ih1 i x u hx hu hk ρ' k') (fun i x u hx hu => ih2 i x u hx hu hk ρ' k')
  | mp n ks vs b es clock hm hb hh hks hvs _ ih => intro _ ρ' _; exact .mp _ _ _ _ es clock hm hb hh hks hvs fun i x e hx he => ih i x e hx he rfl ρ' 0
  | os n r ver off len u hr hle h1 hp => intro hk _ _; omega
  | ptr n r ver off u hr hle h1 hp => intro hk _ _; omega
  | pe n r ver i off u hr hle h1 hp => intro hk _ _; omega
  | om n r ver u hr hle h1 hp => intro hk _ _; omega

mutual
/-- Names no object. -/
def AV.cl : AV → Bool
  | .agg cs => clL cs
  | .tup cs => clL cs
  | .fn _ a b => clL a && clL b
  | .os .. => false
  | .ptr .. => false
  | .pe .. => false
  | .om .. => false
  | _ => true
def clL : List AV → Bool
  | [] => true
  | x :: l => x.cl && clL l
end

theorem clL_all {l : List AV} (h : clL l = true) : ∀ {i : Nat} {x : AV}, l[i]? = some x → x.cl = true := by
  induction l with
  | nil => intro i x hx; simp at hx
  | cons y l ih =>
    intro i x hx
    simp only [clL, Bool.and_eq_true] at h
    cases i with
    | zero => simp at hx; subst hx; exact h.1
    | succ i => simp at hx; exact ih h.2 hx

theorem Rep.of_cl {w : World} {M : Nat → Prop} {ρ : Nat → Loc} {x : AV} {u : Value} {k : Nat} (h : Rep w M ρ k x u) : x.cl = true → Rep w M ρ 0 x u := by
  induction h with
  | any => intro _; exact .any _ _
  | v => intro _; exact .v _ _
  | agg n cs us hl _ ih => intro hc; simp only [AV.cl] at hc; exact .agg _ _ _ hl fun i x u hx hu => ih i x u hx hu (clL_all hc hx)
  | tup n cs us hl _ ih => intro hc; simp only [AV.cl] at hc; exact .tup _ _ _ hl fun i x u hx hu => ih i x u hx hu (clL_all hc hx)
  | nc => intro _; exact .nc _ _
  | bnil => intro _; exact .bnil _ _
  | slE => intro _; exact .slE _ _ _ _
  | slN n sz xs b o cap c hm hb hcap hsz hcell h0 _ => intro _; exact .slN _ _ _ _ _ _ c hm hb hcap hsz hcell h0
  | vp n cs off b o c hm hb hcell h0 _ => intro _; exact .vp _ _ _ _ _ c hm hb hcell h0
  | fn n f first caps fs us h1 h2 _ _ ih1 ih2 =>
    intro hc; simp only [AV.cl, Bool.and_eq_true] at hc
    exact .fn _ _ _ _ _ _ h1 h2 (fun i x u hx hu => ih1 i x u hx hu (clL_all hc.1 hx)) (fun i x u hx hu => ih2 i x u hx hu (clL_all hc.2 hx))
  | mp n ks vs b es clock hm hb hh hks hvs h0 _ => intro _; exact .mp _ _ _ _ es clock hm hb hh hks hvs h0
  | os => intro hc; simp [AV.cl] at hc
  | ptr => intro hc; simp [AV.cl] at hc
  | pe => intro hc; simp [AV.cl] at hc
  | om => intro hc; simp [AV.cl] at hc

/-- One value for each. -/
def RepL (w : World) (M : Nat → Prop) (ρ : Nat → Loc) (n : Nat) (xs : List AV) (us : Array Value) : Prop :=
  xs.length = us.size ∧ ∀ (i : Nat) (x : AV) (u : Value), xs[i]? = some x → us[i]? = some u → Rep w M ρ n x u

/-- No cell of the first n is frozen; only what lies behind them may be. -/
def noFr (fr : Nat × Nat) (n : Nat) : Prop := fr.1 = fr.2 ∨ n ≤ fr.1

/-- No cell is frozen; a first cell that says so tells the type of the variable. -/
def boxFr (cs : List AV) (e : TypeId) (fr : Nat × Nat) (n : Nat) : Prop := noFr fr n ∧ ∀ t, cs[0]? = some (.bnil t) → e = t ∧ fr = (0, 0)

/-- Object o lies at l. -/
def ObjOk (w : World) (M : Nat → Prop) (ρ : Nat → Loc) (n : Nat) (l : Loc) : HO → Prop
  | .dead => True
  | .box cs => l.ver = 0 ∧ ∃ b c e fr, l.blk = some (b, 0) ∧ w.heap[b]? = some (.cells c e fr) ∧ cs.length = c.size ∧ boxFr cs e fr c.size ∧
      ∀ (j : Nat) (y : AV) (u : Value), cs[j]? = some y → c[j]? = some u → Rep w M ρ n y u ∧ one u = true
  | .arr ver sz xs => l.ver = ver ∧ l.sz = sz ∧ 0 < sz ∧ (∀ x ∈ xs, x.length = sz) ∧ xs.length * sz ≤ l.ext ∧
      match l.blk with
      | none => xs = []
      | some (b, o) => ∃ c e fr, w.heap[b]? = some (.cells c e fr) ∧ o + l.ext ≤ c.size ∧ noFr fr c.size ∧
          ∀ (i j : Nat) (x : List AV) (y : AV) (u : Value), xs[i]? = some x → x[j]? = some y → c[o + i * sz + j]? = some u → Rep w M ρ 0 y u ∧ one u = true
  | .map ver ks vs => l.ver = ver ∧ ∃ b es clock, l.blk = some (b, 0) ∧ w.heap[b]? = some (.map es clock) ∧ ks = es.toList.map (·.key) ∧ vs.length = es.size ∧
      ∀ (i : Nat) (x : AV) (e : MapEntry), vs[i]? = some x → es[i]? = some e → Rep w M ρ 0 x e.val
  | .iter s pos => l.ver = 0 ∧ ∃ b, l.blk = some (b, 0) ∧ w.heap[b]? = some (.stringIter s pos)
  | .lp b lr e st => l.ver = 0 ∧ l.blk = some (b, 0) ∧ w.heap[b]? = some (.loop (lpRec lr st)) ∧ ∀ (t : Nat) (u : Value), lr.tmps[t]? = some u → Rep w M ρ n (e t) u
  | .barr t ver bl => l.ver = ver ∧ l.sz = 1 ∧ bl.length ≤ l.ext ∧
      match l.blk with
      | none => bl = []
      | some (b, o) => ∃ c fr, w.heap[b]? = some (.cells c t fr) ∧ o + l.ext ≤ c.size ∧ noFr fr c.size ∧ ∀ (i : Nat) (x : UInt8), bl[i]? = some x → c[o + i]? = some (.int .u8 x.toNat)

/-- The package variables that hold an int and that a contract of the library reads: their blocks. -/
def glbs : List Nat := [0]

/-- Each holds some int, and no run owns it. -/
def GOk (w : World) (ρ : Nat → Loc) (n : Nat) : Prop := ∀ g ∈ glbs, ¬ Own ρ n g ∧ ∃ m, w.cell? ⟨g, 0, none⟩ = some (.int .i64 m)

theorem GOk.fut {w w' : World} {ρ ρ' : Nat → Loc} {n n' : Nat} (h : GOk w ρ n) (hf : Fut w ρ n w' ρ' n') : GOk w' ρ' n' := by
  intro g hg
  obtain ⟨h1, m, h2⟩ := h g hg
  have hlt : g < w.heap.size := by
    apply Decidable.byContradiction
    intro hn
    have hnone : w.heap[g]? = none := by simp; omega
    simp [World.cell?, hnone] at h2
  exact ⟨fun ho => (hf.own g ho).elim h1 fun h3 => by omega, m, by rw [World.cell?_of_block (hf.keep g hlt h1)]; exact h2⟩

structure HRel (w : World) (X : Nat → Prop) (ρ : Nat → Loc) (H : AHeap) : Prop where
  objs : ∀ (r : Nat) (o : HO), H[r]? = some o → ObjOk w (Mut X ρ H.length) ρ H.length (ρ r) o
  inj : ∀ (r r' b o b' o' : Nat), r < H.length → r' < H.length → r ≠ r' → (ρ r).blk = some (b, o) → (ρ r').blk = some (b', o') → b ≠ b'
  lt : ∀ (r b o : Nat), r < H.length → (ρ r).blk = some (b, o) → b < w.heap.size ∧ ¬ X b
  xlt : ∀ (b : Nat), X b → b < w.heap.size
  gl : GOk w ρ H.length

/-- It has a body. -/
def Enter (P : Program) (k : FuncId) : Prop := ∃ fn, P.funcs[k]? = some fn ∧ fn.body.isNone = false ∧ (fn.name == "runtime.NumGoroutine") = false

/-- A call with these values, from these objects: it returns, and what it hands back and leaves is as R says. -/
def ACall (P : Program) (k : FuncId) (args : List AV) (H : AHeap) (R : AV → AHeap → Prop) : Prop :=
  Enter P k ∧ ∀ X ρ w vs, HRel w X ρ H → RepL w (Mut X ρ H.length) ρ H.length args vs →
    Calls P k vs w fun e w' => ∃ v x H' ρ', e = .returned v ∧ R x H' ∧ HRel w' X ρ' H' ∧ Rep w' (Mut X ρ' H'.length) ρ' H'.length x v ∧ Fut w ρ H.length w' ρ' H'.length

/-- A call that may end in a panic: what it hands back and leaves is as R says, what it panics with as Z says. -/
def ACallX (P : Program) (k : FuncId) (args : List AV) (H : AHeap) (R : AV → AHeap → Prop) (Z : Value → AHeap → Prop) : Prop :=
  Enter P k ∧ ∀ X ρ w vs, HRel w X ρ H → RepL w (Mut X ρ H.length) ρ H.length args vs →
    Calls P k vs w fun e w' => (∃ v x H' ρ', e = .returned v ∧ R x H' ∧ HRel w' X ρ' H' ∧ Rep w' (Mut X ρ' H'.length) ρ' H'.length x v ∧ Fut w ρ H.length w' ρ' H'.length) ∨
      ∃ z H' ρ', e = .panicked [{ v := z, recovered := false }] ∧ Z z H' ∧ HRel w' X ρ' H' ∧ Fut w ρ H.length w' ρ' H'.length

/-- It computes x out of args, and touches nothing. -/
def APure (P : Program) (k : FuncId) (args : List AV) (x : AV) : Prop := ACall P k args [] fun y H' => y = x ∧ H' = []

theorem ACall.mono {P : Program} {k : FuncId} {args : List AV} {H : AHeap} {R R' : AV → AHeap → Prop} (h : ACall P k args H R) (hR : ∀ x H', R x H' → R' x H') : ACall P k args H R' :=
  ⟨h.1, fun X ρ w vs a b => (h.2 X ρ w vs a b).mono fun _ _ ⟨v, x, H', ρ', e, r, c⟩ => ⟨v, x, H', ρ', e, hR _ _ r, c⟩⟩

theorem ACallX.mono {P : Program} {k : FuncId} {args : List AV} {H : AHeap} {R R' : AV → AHeap → Prop} {Z Z' : Value → AHeap → Prop} (h : ACallX P k args H R Z) (hR : ∀ x H', R x H' → R' x H') (hZ : ∀ z H', Z z H' → Z' z H') : ACallX P k args H R' Z' :=
  ⟨h.1, fun X ρ w vs a b => (h.2 X ρ w vs a b).mono fun _ _ h => h.elim (fun ⟨v, x, H', ρ', e, r, c⟩ => .inl ⟨v, x, H', ρ', e, hR _ _ r, c⟩) fun ⟨z, H', ρ', e, r, c⟩ => .inr ⟨z, H', ρ', e, hZ _ _ r, c⟩⟩
theorem ACall.x {P : Program} {k : FuncId} {args : List AV} {H : AHeap} {R : AV → AHeap → Prop} (h : ACall P k args H R) (Z : Value → AHeap → Prop) : ACallX P k args H R Z :=
  ⟨h.1, fun X ρ w vs a b => (h.2 X ρ w vs a b).mono fun _ _ h => .inl h⟩
theorem ACallX.calm {P : Program} {k : FuncId} {args : List AV} {H : AHeap} {R : AV → AHeap → Prop} (h : ACallX P k args H R fun _ _ => False) : ACall P k args H R :=
  ⟨h.1, fun X ρ w vs a b => (h.2 X ρ w vs a b).mono fun _ _ h => h.elim id fun ⟨_, _, _, _, f, _⟩ => f.elim⟩

/-- A round of the range at block l, with these values, from these objects. -/
def AYield (P : Program) (l : Nat) (args : List AV) (H : AHeap) (R : AV → AHeap → Prop) : Prop :=
  ∀ X ρ w vs, HRel w X ρ H → RepL w (Mut X ρ H.length) ρ H.length args vs →
    YieldAt Fence.wide 0 P l vs w fun e w' => ∃ v x H' ρ', e = .returned v ∧ R x H' ∧ HRel w' X ρ' H' ∧ Rep w' (Mut X ρ' H'.length) ρ' H'.length x v ∧ Fut w ρ H.length w' ρ' H'.length

theorem AYield.mono {P : Program} {l : Nat} {args : List AV} {H : AHeap} {R R' : AV → AHeap → Prop} (h : AYield P l args H R) (hR : ∀ x H', R x H' → R' x H') : AYield P l args H R' :=
  fun X ρ w vs a b => let ⟨fn, tmps, asg, bdy, h1, h2⟩ := h X ρ w vs a b
    ⟨fn, tmps, asg, bdy, h1, h2.mono fun _ _ ⟨v, x, H', ρ', e, r, c⟩ => ⟨v, x, H', ρ', e, hR _ _ r, c⟩⟩

end Go.Ax

/- Code whose types are looked up already, and what it does to values without addresses. -/
namespace Go.Ax
open Go Go.RowKit

abbrev Env := Nat → AV
def up (e : Env) (d : Nat) (x : AV) : Env := fun t => if t = d then x else e t
def e0 : Env := fun _ => .any
def ups (e : Env) : Option Nat → AV → Env
  | some d, x => up e d x
  | none, _ => e
def envOf : List AV → Nat → Env
  | [], _ => e0
  | x :: l, i => up (envOf l (i + 1)) i x

abbrev int (n : Int) : AV := .v (.int .i64 n)
abbrev u8 (n : Int) : AV := .v (.int .u8 n)
abbrev bool (b : Bool) : AV := .v (.bool b)
def mkS (l : List UInt8) : ByteArray := ⟨l.toArray⟩
def bs (s : ByteArray) : List UInt8 := s.data.toList
abbrev str (l : List UInt8) : AV := .v (.string (mkS l))
abbrev undefA : AV := .v (.tuple #[])
abbrev nilS : AV := .v (.slice none 0 0)

inductive LX where
  | t (n : Nat)
  | c (x : AV)
  deriving Inhabited

def ev (e : Env) : LX → AV
  | .t n => e n
  | .c x => x

inductive Cv where
  | toInt (k : IntKind)
  | same
  | strBytes
  | bytesStr
  | runeStr
  | sameB
  deriving Inhabited

/-- The kind of a map's key; of what '==' compares. -/
inductive KD where
  | int
  | str
  | bool
  | fn
  | agg (ks : List KD)
  deriving Inhabited

/-- What 'len' and a slice expression work on. -/
inductive LK where
  | str
  | slc
  | map
  deriving Inhabited

inductive LOp where
  | mv (x : LX)
  | pick (c a b : LX)
  | alloc (zs : List AV)
  | allocb (t : TypeId) (zs : List AV)
  | box (imm : Bool) (x : LX)
  | build (zs : List AV) (ps : List (Nat × Nat × LX))
  | bsl (imm : Bool) (sz len : Nat) (zs : List AV) (ps : List (Nat × LX))
  | mkmap
  | ins (kd : KD) (m k x : LX)
  | load (ag : Bool) (n : Nat) (p : LX)
  | loadb (ag : Bool) (n : Nat) (p : LX)
  | store (n : Nat) (p x : LX)
  | nilchk (x : LX)
  | bin (kd : KD) (op : BinOp) (x y : LX)
  | not (x : LX)
  | neg (x : LX)
  | conv (c : Cv) (x : LX)
  | mkfn (f : Fn) (first caps : List LX)
  | msl (sz bytes : Nat) (zs : List AV) (len cap : LX)
  | slice (lk : LK) (n : Nat) (x : LX) (lo hi : Option LX)
  | slicev (lk : LK) (n : Nat) (x : LX) (lo hi : Option LX)
  | faddr (off : Nat) (p : LX)
  | faddrb (off : Nat) (p : LX)
  | fld (ag : Bool) (off n : Nat) (x : LX)
  | iaddr (sz : Nat) (x i : LX)
  | iaddrv (sz : Nat) (x i : LX)
  | idx (x i : LX)
  | look (kd : KD) (zero : AV) (ok : Bool) (m k : LX)
  | ext (x : LX) (i : Nat)
  | len (lk : LK) (x : LX)
  | append (sz bytes : Nat) (s x : LX)
  | appendb (t : TypeId) (s x : LX)
  | copy (sz : Nat) (s x : LX)
  | min2 (x y : LX)
  | max2 (x y : LX)
  | call (f : LX) (args : List LX)
  | frz (x : LX)
  | own (sz : Nat) (x : LX)
  | frzf (sz off : Nat) (x : LX)
  | isnil (neg : Bool) (x : LX)
  | bad
  deriving Inhabited

structure LO where
  d : Option Nat
  g : Option (Nat × Bool)
  op : LOp
  deriving Inhabited

inductive LCode where
  | skip
  | ops (l : List LO)
  | draw (hd tl : List LO)
  | drawM (hd pre mid post : List LO)
  | seq (a b : LCode)
  | cond (x : LX) (a b : LCode)
  | block (id : Nat) (c : LCode)
  | loop (c : LCode)
  | range (g : LX) (ps : List Nat) (a b : LCode)
  | exit (id : Nat)
  | ret
  | callp (d : Option Nat) (f : LX) (args : List LX)
  | pan (d : Nat) (t : TypeId) (x : LX)
  deriving Inhabited

/-- What an operation comes to: its condition, its value, the objects behind it. -/
structure Res where
  ok : Prop
  x : AV
  H : AHeap

abbrev Res.no (H : AHeap) : Res := ⟨False, .any, H⟩

def cellsOf : AV → List AV
  | .agg cs => cs
  | x => [x]
def c1 : AV → Bool
  | .v x => one x
  | .any => false
  | .agg _ => false
  | .tup _ => false
  | .bnil _ => false
  | _ => true
def isNilP : AV → Bool
  | .v (.pointer none) => true
  | _ => false
def cellsV (ag : Bool) (n : Nat) (cs : List AV) : AV := if ag then .agg (cs.take n) else cs.headD .any
def splice (cs : List AV) (off : Nat) (new : List AV) : List AV := cs.take off ++ new ++ cs.drop (off + new.length)
def c1s (cs : List AV) : Bool := cs.all c1

def rBox (imm : Bool) (x : AV) (H : AHeap) : Res :=
  if imm then ⟨c1s (cellsOf x) = true ∧ clL (cellsOf x) = true, .vp (cellsOf x) 0, H⟩
  else ⟨c1s (cellsOf x) = true, .ptr H.length 0 0, H ++ [.box (cellsOf x)]⟩

def fillA : List AV → List (Nat × Nat × AV) → Prop × List AV
  | cs, [] => (True, cs)
  | cs, (off, n, x) :: ps => let r := fillA (splice cs off (cellsOf x)) ps; (((cellsOf x).length = n ∧ off + n ≤ cs.length ∧ c1s (cellsOf x) = true) ∧ r.1, r.2)

def rBuild (zs : List AV) (ps : List (Nat × Nat × AV)) (H : AHeap) : Res := ⟨(fillA zs ps).1, .agg (fillA zs ps).2, H⟩

def fillS (sz : Nat) : List (List AV) → List (Nat × AV) → Prop × List (List AV)
  | xs, [] => (True, xs)
  | xs, (i, x) :: ps => let r := fillS sz (xs.set i (cellsOf x)) ps; (((cellsOf x).length = sz ∧ i < xs.length ∧ c1s (cellsOf x) = true ∧ clL (cellsOf x) = true) ∧ r.1, r.2)

def rBsl (imm : Bool) (sz len : Nat) (zs : List AV) (ps : List (Nat × AV)) (H : AHeap) : Res :=
  let r := fillS sz (List.replicate len zs) ps
  if imm then ⟨r.1, .sl sz r.2, H⟩
  else ⟨r.1, .os H.length 0 0 len, H ++ [.arr 0 sz r.2]⟩

/-- Keys that are pairs of numbers: arrays of two. -/
def kEq2 : List Value → List Value → Bool
  | [.int _ a, .int _ b], [.int _ c, .int _ d] => a == c && b == d
  | _, _ => false
def kCmp2 : List Value → List Value → Bool
  | [.int k _, .int l _], [.int k' _, .int l' _] => k == k' && l == l'
  | _, _ => false
def kIs2 : List Value → Bool
  | [.int _ _, .int _ _] => true
  | _ => false
/-- A pair of values as one value. -/
def keyV : AV → AV
  | .agg [.v a, .v b] => .v (.agg #[a, b])
  | x => x
/-- Are two keys one? -/
def kEq : Value → Value → Bool
  | .agg a, .agg b => kEq2 a.toList b.toList
  | .int k a, .int k' b => k == k' && a == b
  | .string a, .string b => bs a == bs b
  | .bool a, .bool b => a == b
  | _, _ => false
/-- Can the two be compared at once? -/
def kCmp : Value → Value → Bool
  | .agg a, .agg b => kCmp2 a.toList b.toList
  | .int k _, .int k' _ => k == k'
  | .string _, .string _ => true
  | .bool _, .bool _ => true
  | _, _ => false

def kIs : KD → Value → Bool
  | .agg [.int, .int], .agg a => kIs2 a.toList
  | .int, .int _ _ => true
  | .str, .string _ => true
  | .bool, .bool _ => true
  | _, _ => false

def rIns (kd : KD) (m k x : AV) (H : AHeap) : Res :=
  match m, k with
  | .om r ver, .v k =>
    match H[r]? with
    | some (.map ver' ks vs) => ⟨ver = ver' ∧ (∀ k' ∈ ks, kCmp k k' = true ∧ kEq k k' = false) ∧ kIs kd k = true ∧ x.cl = true, .any, H.set r (.map ver (ks ++ [k]) (vs ++ [x]))⟩
    | _ => .no H
  | _, _ => .no H

def rLoadO (ag : Bool) (n i off : Nat) (H : AHeap) : Option HO → Res
  | some (.box cs) => ⟨off + n ≤ cs.length ∧ (ag = true ∨ n = 1), cellsV ag n (cs.drop off), H⟩
  | some (.arr _ sz xs) => ⟨i < xs.length ∧ off + n ≤ sz ∧ (ag = true ∨ n = 1), cellsV ag n ((xs.getD i []).drop off), H⟩
  | _ => .no H
def isVer (ver : Nat) : Option HO → Prop
  | some (.box _) => ver = 0
  | some (.arr v _ _) => ver = v
  | some (.map v _ _) => ver = v
  | _ => False
def isBox : Option HO → Prop
  | some (.box _) => True
  | _ => False
def isArr : Option HO → Prop
  | some (.arr _ _ _) => True
  | _ => False
def Res.also (p : Prop) (r : Res) : Res := ⟨p ∧ r.ok, r.x, r.H⟩

def rLoad (ag : Bool) (n : Nat) (p : AV) (H : AHeap) : Res :=
  match p with
  | .ptr r ver off => (rLoadO ag n 0 off H H[r]?).also (isBox H[r]? ∧ isVer ver H[r]?)
  | .pe r ver i off => (rLoadO ag n i off H H[r]?).also (isArr H[r]? ∧ isVer ver H[r]?)
  | .vp cs off => ⟨off + n ≤ cs.length ∧ (ag = true ∨ n = 1), cellsV ag n (cs.drop off), H⟩
  | _ => .no H

/-- What a variable of one's own holds. -/
def rLoadB (ag : Bool) (n : Nat) (p : AV) (H : AHeap) : Res :=
  match p with
  | .pe _ _ _ _ => .no H
  | p => rLoad ag n p H

def rStoreO (n i off r : Nat) (x : AV) (H : AHeap) : Option HO → Res
  | some (.box cs) => ⟨off + n ≤ cs.length ∧ (cellsOf x).length = n ∧ c1s (cellsOf x) = true, .any, H.set r (.box (splice cs off (cellsOf x)))⟩
  | some (.arr ver sz xs) => ⟨i < xs.length ∧ off + n ≤ sz ∧ (cellsOf x).length = n ∧ c1s (cellsOf x) = true ∧ clL (cellsOf x) = true, .any, H.set r (.arr ver sz (xs.set i (splice (xs.getD i []) off (cellsOf x))))⟩
  | _ => .no H

def rStore (n : Nat) (p x : AV) (H : AHeap) : Res :=
  match p with
  | .ptr r ver off => (rStoreO n 0 off r x H H[r]?).also (isBox H[r]? ∧ isVer ver H[r]?)
  | .pe r ver i off => (rStoreO n i off r x H H[r]?).also (isArr H[r]? ∧ isVer ver H[r]?)
  | _ => .no H

def rNil (x : AV) (H : AHeap) : Res :=
  match x with
  | .vp _ _ => ⟨True, x, H⟩
  | .mp _ _ => ⟨True, x, H⟩
  | .fn (.func f) a b => ⟨True, .fn (.func f) a b, H⟩
  | .ptr _ ver _ => ⟨isVer ver (match x with | .ptr r _ _ => H[r]? | _ => none), x, H⟩
  | .pe _ ver _ _ => ⟨isVer ver (match x with | .pe r _ _ _ => H[r]? | _ => none), x, H⟩
  | _ => .no H

/-- Cell by cell: are they of these kinds, are they alike. -/
def cEq : List KD → List AV → List AV → Prop × Bool
  | [], [], [] => (True, true)
  | k :: ks, .v a :: l, .v b :: m => let r := cEq ks l m; ((kIs k a = true ∧ kIs k b = true ∧ kCmp a b = true) ∧ r.1, kEq a b && r.2)
  | _, _, _ => (False, false)

def iBin (op : BinOp) (k k' : IntKind) (a b : Int) (H : AHeap) : Res :=
  match op with
  | .add => ⟨k = k', .v (.int k (k.wrap (a + b))), H⟩
  | .sub => ⟨k = k', .v (.int k (k.wrap (a - b))), H⟩
  | .mul => ⟨k = k', .v (.int k (k.wrap (a * b))), H⟩
  | .quo => ⟨k = k' ∧ b ≠ 0, .v (.int k (k.wrap (a.tdiv b))), H⟩
  | .rem => ⟨k = k' ∧ b ≠ 0, .v (.int k (a.tmod b)), H⟩
  | .and => ⟨k = k', .v (.int k (k.wrap (BitVec.ofInt k.bits a &&& BitVec.ofInt k.bits b).toNat)), H⟩
  | .or => ⟨k = k', .v (.int k (k.wrap (BitVec.ofInt k.bits a ||| BitVec.ofInt k.bits b).toNat)), H⟩
  | .xor => ⟨k = k', .v (.int k (k.wrap (BitVec.ofInt k.bits a ^^^ BitVec.ofInt k.bits b).toNat)), H⟩
  | .eql => ⟨k = k', bool (decide (a = b)), H⟩
  | .neq => ⟨k = k', bool (!decide (a = b)), H⟩
  | .lss => ⟨k = k', bool (decide (a < b)), H⟩
  | .leq => ⟨k = k', bool (decide (a ≤ b)), H⟩
  | .gtr => ⟨k = k', bool (decide (b < a)), H⟩
  | .geq => ⟨k = k', bool (decide (b ≤ a)), H⟩
  | .shl => ⟨0 ≤ b, .v (.int k (k.wrap (a * 2 ^ (min b.toNat k.bits)))), H⟩
  | .shr => ⟨0 ≤ b, .v (.int k (a.fdiv (2 ^ (min b.toNat k.bits)))), H⟩
  | _ => .no H

def sBin (op : BinOp) (a b : List UInt8) (H : AHeap) : Res :=
  match op with
  | .add => ⟨((a.length + b.length : Nat) : Int) ≤ 9223372036854775807, str (a ++ b), H⟩
  | .eql => ⟨True, bool (decide (a = b)), H⟩
  | .neq => ⟨True, bool (!decide (a = b)), H⟩
  | .lss => ⟨True, bool (Op.bytesLess a b), H⟩
  | .leq => ⟨True, bool (Op.bytesLess a b || decide (a = b)), H⟩
  | .gtr => ⟨True, bool (!(Op.bytesLess a b || decide (a = b))), H⟩
  | .geq => ⟨True, bool (!Op.bytesLess a b), H⟩
  | _ => .no H

def eqRes (op : BinOp) (p : Prop) (b : Bool) (H : AHeap) : Res :=
  match op with
  | .eql => ⟨p, bool b, H⟩
  | .neq => ⟨p, bool (!b), H⟩
  | _ => .no H

def isKD : KD → KD → Bool
  | .int, .int => true
  | .str, .str => true
  | .bool, .bool => true
  | .fn, .fn => true
  | _, _ => false

def rBin (kd : KD) (op : BinOp) (x y : AV) (H : AHeap) : Res :=
  match x, y with
  | .v (.int k a), .v (.int k' b) => iBin op k k' a b H
  | .v (.string a), .v (.string b) => sBin op (bs a) (bs b) H
  | .v (.bool a), .v (.bool b) => eqRes op (isKD kd .bool = true) (decide (a = b)) H
  | .agg xs, .agg ys => match kd with
    | .agg ks => eqRes op (cEq ks xs ys).1 (cEq ks xs ys).2 H
    | _ => .no H
  | .fn _ _ _, .v .nilFunc => eqRes op (isKD kd .fn = true) false H
  | .v .nilFunc, .v .nilFunc => eqRes op (isKD kd .fn = true) true H
  | _, _ => .no H

def rNot (x : AV) (H : AHeap) : Res :=
  match x with
  | .v (.bool b) => ⟨True, bool (!b), H⟩
  | _ => .no H
def rNeg (x : AV) (H : AHeap) : Res :=
  match x with
  | .v (.int k n) => ⟨True, .v (.int k (k.wrap (0 - n))), H⟩
  | _ => .no H

def byteRow (b : UInt8) : List AV := [u8 b.toNat]
/-- The bytes that rows of one cell are. -/
def rowBytes : List (List AV) → Option (List UInt8)
  | [] => some []
  | [.v (.int .u8 n)] :: l => (rowBytes l).map (UInt8.ofNat n.toNat :: ·)
  | _ => none

def osRows (r ver off len : Nat) (H : AHeap) : Option (List (List AV)) :=
  match H[r]? with
  | some (.arr ver' _ xs) => if ver = ver' ∧ off + len ≤ xs.length then some ((xs.drop off).take len) else none
  | _ => none
/-- The elements of a slice, or of a string's bytes. -/
def rowsOf (H : AHeap) : AV → Option (List (List AV))
  | .sl _ xs => some xs
  | .os r ver off len => osRows r ver off len H
  | .v (.slice none 0 0) => some []
  | .nc => some []
  | .v (.string s) => some ((bs s).map byteRow)
  | _ => none

def szOk (H : AHeap) (sz : Nat) : AV → Prop
  | .sl sz' xs => sz' = sz ∨ xs = []
  | .os r _ _ _ => match H[r]? with | some (.arr _ sz' _) => sz' = sz | _ => False
  | .v (.slice none 0 0) => True
  | .nc => True
  | .v (.string _) => sz = 1
  | _ => False

def rConv (c : Cv) (x : AV) (H : AHeap) : Res :=
  match c, x with
  | .toInt k, .v (.int _ n) => ⟨True, .v (.int k (k.wrap n)), H⟩
  | .same, .v (.string s) => ⟨True, .v (.string s), H⟩
  | .strBytes, .v (.string s) => ⟨((bs s).length : Int) < 9223372036854775808, .sl 1 ((bs s).map byteRow), H⟩
  | .bytesStr, .v (.string _) => .no H
  | .bytesStr, y => ⟨szOk H 1 y ∧ ((rowsOf H y).bind rowBytes).isSome = true, str (((rowsOf H y).bind rowBytes).getD []), H⟩
  | .sameB, .os r ver off len => ⟨0 < len ∧ isArr H[r]? ∧ isVer ver H[r]?, .os r ver off len, H⟩
  | .runeStr, .v (.int _ n) => ⟨True, .v (.string (Utf8.encode n)), H⟩
  | _, _ => .no H

def rMsl (sz bytes : Nat) (zs : List AV) (len cap : AV) (H : AHeap) : Res :=
  match len, cap with
  | .v (.int .i64 n), .v (.int .i64 c) => ⟨0 ≤ n ∧ n ≤ c ∧ c * bytes ≤ 140737488355328 ∧ c ≤ 140737488355328 ∧ zs.length = sz, .os H.length 0 0 n.toNat, H ++ [.arr 0 sz (List.replicate c.toNat zs)]⟩
  | _, _ => .no H

def bnd (d : Int) : Option AV → Option Int
  | none => some d
  | some (.v (.int _ n)) => some n
  | _ => none

def rSliceN (x : AV) (lo hi : Option Int) (H : AHeap) : Res :=
  match x, lo, hi with
  | .v (.string s), some l, some h => ⟨0 ≤ l ∧ l ≤ h ∧ h ≤ (bs s).length, str (((bs s).drop l.toNat).take (h.toNat - l.toNat)), H⟩
  | .sl sz xs, some l, some h => ⟨0 ≤ l ∧ l ≤ h ∧ h ≤ xs.length, .sl sz ((xs.drop l.toNat).take (h.toNat - l.toNat)), H⟩
  | .os r ver off len, some l, some h => ⟨0 ≤ l ∧ l ≤ h ∧ h ≤ len ∧ isArr H[r]? ∧ isVer ver H[r]?, .os r ver (off + l.toNat) (h.toNat - l.toNat), H⟩
  | .v (.slice none 0 0), some l, some h => ⟨l = 0 ∧ h = 0, nilS, H⟩
  | _, _, _ => .no H

def lenOf : AV → Option Nat
  | .v (.string s) => some (bs s).length
  | .sl _ xs => some xs.length
  | .os _ _ _ len => some len
  | .v (.slice none 0 0) => some 0
  | .nc => some 0
  | .mp ks _ => some ks.length
  | .v (.map none) => some 0
  | _ => none

def lkOk : LK → AV → Bool
  | .str, .v (.string _) => true
  | .slc, .sl _ _ => true
  | .slc, .os _ _ _ _ => true
  | .slc, .nc => true
  | .slc, .v (.slice none 0 0) => true
  | .map, .mp _ _ => true
  | .map, .v (.map none) => true
  | _, _ => false

def rSlice (lk : LK) (n : Nat) (x : AV) (lo hi : Option AV) (H : AHeap) : Res := (rSliceN x (bnd 0 lo) (bnd ((lenOf x).getD 0) hi) H).also (lkOk lk x = true ∧ szOk H n x)

/-- The same of a slice that nobody changes. -/
def rSliceV (lk : LK) (n : Nat) (x : AV) (lo hi : Option AV) (H : AHeap) : Res :=
  match x with
  | .sl a b => rSlice lk n (.sl a b) lo hi H
  | .v v => rSlice lk n (.v v) lo hi H
  | _ => .no H

def verOk (H : AHeap) : AV → Prop
  | .os r ver _ _ => isArr H[r]? ∧ isVer ver H[r]?
  | _ => True

def rLen (lk : LK) (x : AV) (H : AHeap) : Res := ⟨lkOk lk x = true ∧ verOk H x, int ((lenOf x).getD 0), H⟩

def rFaddr (off : Nat) (p : AV) (H : AHeap) : Res :=
  match p with
  | .ptr r ver o => ⟨isBox H[r]? ∧ isVer ver H[r]?, .ptr r ver (o + off), H⟩
  | .pe r ver i o => ⟨isArr H[r]? ∧ isVer ver H[r]?, .pe r ver i (o + off), H⟩
  | .vp cs o => ⟨True, .vp cs (o + off), H⟩
  | _ => .no H

def rFaddrB (off : Nat) (p : AV) (H : AHeap) : Res :=
  match p with
  | .pe _ _ _ _ => .no H
  | p => rFaddr off p H

def rFld (ag : Bool) (off n : Nat) (x : AV) (H : AHeap) : Res :=
  match x with
  | .agg cs => ⟨off + n ≤ cs.length ∧ (ag = true ∨ n = 1), cellsV ag n (cs.drop off), H⟩
  | _ => .no H

def rIaddr (sz : Nat) (x i : AV) (H : AHeap) : Res :=
  match x, i with
  | .sl sz' xs, .v (.int _ n) => ⟨sz' = sz ∧ 0 ≤ n ∧ n < xs.length, .vp (xs.getD n.toNat []) 0, H⟩
  | .os r ver off len, .v (.int _ n) => ⟨0 ≤ n ∧ n < len ∧ szOk H sz (.os r ver off len) ∧ isVer ver H[r]?, .pe r ver (off + n.toNat) 0, H⟩
  | _, _ => .no H

/-- The same in a slice that nobody changes. -/
def rIaddrV (sz : Nat) (x i : AV) (H : AHeap) : Res :=
  match x with
  | .sl a b => rIaddr sz (.sl a b) i H
  | _ => .no H

def rIdx (x i : AV) (H : AHeap) : Res :=
  match x, i with
  | .v (.string s), .v (.int _ n) => ⟨0 ≤ n ∧ n < (bs s).length, u8 ((bs s).getD n.toNat 0).toNat, H⟩
  | _, _ => .no H

def mget (k : Value) : List Value → List AV → Option AV
  | k' :: ks, x :: vs => if kEq k k' = true then some x else mget k ks vs
  | _, _ => none
def lookV (zero : AV) (ok : Bool) : Option AV → AV
  | some x => if ok then .tup [x, bool true] else x
  | none => if ok then .tup [zero, bool false] else zero
def rLookN (kd : KD) (zero : AV) (ok : Bool) (k : Value) (ks : List Value) (vs : List AV) (H : AHeap) : Res :=
  ⟨(∀ k' ∈ ks, kCmp k k' = true) ∧ kIs kd k = true, lookV zero ok (mget k ks vs), H⟩
def rLook (kd : KD) (zero : AV) (ok : Bool) (m k : AV) (H : AHeap) : Res :=
  match m, k with
  | .mp ks vs, .v k => rLookN kd zero ok k ks vs H
  | .om r ver, .v k => match H[r]? with
    | some (.map ver' ks vs) => (rLookN kd zero ok k ks vs H).also (ver = ver')
    | _ => .no H
  | _, _ => .no H

def rExt (x : AV) (i : Nat) (H : AHeap) : Res :=
  match x with
  | .tup xs => ⟨i < xs.length, xs.getD i .any, H⟩
  | _ => .no H

def rAppendO (sz bytes : Nat) (r ver len : Nat) (ys : Option (List (List AV))) (H : AHeap) : Option HO → Res
  | some (.arr ver' sz' xs) => match ys with
    | some ys => ⟨ver = ver' ∧ sz' = sz ∧ len ≤ xs.length ∧ (len + ys.length) * bytes ≤ 140737488355328 ∧ len + ys.length ≤ 140737488355328, .os r (ver + 1) 0 (len + ys.length), H.set r (.arr (ver + 1) sz (xs.take len ++ ys))⟩
    | none => .no H
  | _ => .no H
def rAppendN (sz bytes : Nat) (ys : Option (List (List AV))) (H : AHeap) : Res :=
  match ys with
  | some ys => ⟨0 < sz ∧ ys.length * bytes ≤ 140737488355328 ∧ ys.length ≤ 140737488355328, .os H.length 0 0 ys.length, H ++ [.arr 0 sz ys]⟩
  | none => .no H
def rAppend (sz bytes : Nat) (s x : AV) (H : AHeap) : Res :=
  match s with
  | .os r ver 0 len => (rAppendO sz bytes r ver len (rowsOf H x) H H[r]?).also (szOk H sz x)
  | .v (.slice none 0 0) => (rAppendN sz bytes (rowsOf H x) H).also (szOk H sz x)
  | .nc => (rAppendN sz bytes (rowsOf H x) H).also (szOk H sz x)
  | _ => .no H

/-- The bytes of a string appended to bytes of a known type. -/
def rAppendBO (t : TypeId) (r ver len : Nat) (y : List UInt8) (H : AHeap) : Option HO → Res
  | some (.barr t' ver' l) => ⟨ver = ver' ∧ t = t' ∧ len = l.length ∧ len + y.length ≤ 140737488355328, .os r (ver + 1) 0 (len + y.length), H.set r (.barr t (ver + 1) (l ++ y))⟩
  | _ => .no H
def rAppendBZ (t : TypeId) (y : List UInt8) (H : AHeap) : Res := if y = [] then ⟨True, nilS, H⟩ else ⟨y.length ≤ 140737488355328, .os H.length 0 0 y.length, H ++ [.barr t 0 y]⟩
def rAppendBS (t : TypeId) (s : AV) (y : List UInt8) (H : AHeap) : Res :=
  match s with
  | .os r ver 0 len => rAppendBO t r ver len y H H[r]?
  | .v (.slice none 0 0) => rAppendBZ t y H
  | _ => .no H
def rAppendB (t : TypeId) (s x : AV) (H : AHeap) : Res :=
  match x with
  | .v (.string y) => rAppendBS t s (bs y) H
  | _ => .no H

def rCopy (sz : Nat) (s x : AV) (H : AHeap) : Res :=
  match s, rowsOf H x with
  | .os r ver off len, some ys => match H[r]? with
    | some (.arr ver' sz' xs) => ⟨ver = ver' ∧ sz' = sz ∧ szOk H sz x ∧ off + len ≤ xs.length, int (min ys.length len : Nat), H.set r (.arr ver sz (xs.take off ++ ys.take (min ys.length len) ++ xs.drop (off + min ys.length len)))⟩
    | _ => .no H
  | _, _ => .no H

def rMin (x y : AV) (H : AHeap) : Res :=
  match x, y with
  | .v (.int k a), .v (.int _ b) => ⟨True, .v (.int k (if b < a then b else a)), H⟩
  | _, _ => .no H
def rMax (x y : AV) (H : AHeap) : Res :=
  match x, y with
  | .v (.int k a), .v (.int _ b) => ⟨True, .v (.int k (if a < b then b else a)), H⟩
  | _, _ => .no H

/-- An object that nobody changes any more. -/
def rFrz (x : AV) (H : AHeap) : Res :=
  match x with
  | .os r ver off len => match H[r]? with
    | some (.arr ver' sz xs) => ⟨ver = ver' ∧ off + len ≤ xs.length, .sl sz ((xs.drop off).take len), H.set r .dead⟩
    | _ => .no H
  | .om r ver => match H[r]? with
    | some (.map ver' ks vs) => ⟨ver = ver', .mp ks vs, H.set r .dead⟩
    | _ => .no H
  | .ptr r ver off => match H[r]? with
    | some (.box cs) => ⟨ver = 0 ∧ clL cs = true, .vp cs off, H.set r .dead⟩
    | _ => .no H
  | .v (.slice none 0 0) => ⟨True, .sl 0 [], H⟩
  | .sl sz xs => ⟨True, .sl sz xs, H⟩
  | _ => .no H

/-- The same of a slice that a struct holds. -/
def rFrzN (sz : Nat) (y : AV) (H : AHeap) : Res :=
  match y with
  | .v (.slice none 0 0) => ⟨True, .sl sz [], H⟩
  | .os r ver off len => rFrz (.os r ver off len) H
  | .sl sz' xs => ⟨True, .sl sz' xs, H⟩
  | _ => .no H
def rFrzO (cs : List AV) (off : Nat) (r : Res) : Res := ⟨r.ok, .agg (cs.set off r.x), r.H⟩
def rFrzfO (sz off : Nat) (cs : List AV) (y : Option AV) (H : AHeap) : Res :=
  match y with
  | some y => rFrzO cs off (rFrzN sz y H)
  | none => .no H
def rFrzf (sz off : Nat) (x : AV) (H : AHeap) : Res :=
  match x with
  | .agg cs => rFrzfO sz off cs cs[off]? H
  | _ => .no H

def rOwn (sz : Nat) (x : AV) (H : AHeap) : Res :=
  match x with
  | .v (.slice none 0 0) => ⟨0 < sz, .os H.length 0 0 0, H ++ [.arr 0 sz []]⟩
  | _ => .no H

/-- May this slice be nil? -/
def nilOk (x : AV) (b : Bool) : Prop :=
  match x with
  | .v (.slice none 0 0) => b = true
  | .sl _ xs => b = true → xs = []
  | .os _ _ _ len => b = true → len = 0
  | _ => True
def slcK (H : AHeap) : AV → Prop
  | .v (.slice none 0 0) => True
  | .sl _ _ => True
  | .os r ver _ _ => isArr H[r]? ∧ isVer ver H[r]?
  | .nc => True
  | _ => False

def ares (op : LOp) (e : Env) (H : AHeap) : Res :=
  match op with
  | .mv x => ⟨True, ev e x, H⟩
  | .pick _ _ _ => .no H
  | .alloc zs => ⟨c1s zs = true, .ptr H.length 0 0, H ++ [.box zs]⟩
  | .allocb t zs => ⟨isNilP (zs.headD .any) = true ∧ c1s zs = true, .ptr H.length 0 0, H ++ [.box (.bnil t :: zs.drop 1)]⟩
  | .box imm x => rBox imm (ev e x) H
  | .build zs ps => rBuild zs (ps.map fun (o, n, x) => (o, n, ev e x)) H
  | .bsl imm sz len zs ps => rBsl imm sz len zs (ps.map fun (i, x) => (i, ev e x)) H
  | .mkmap => ⟨True, .om H.length 0, H ++ [.map 0 [] []]⟩
  | .ins kd m k x => rIns kd (ev e m) (keyV (ev e k)) (ev e x) H
  | .load ag n p => rLoad ag n (ev e p) H
  | .loadb ag n p => rLoadB ag n (ev e p) H
  | .store n p x => rStore n (ev e p) (ev e x) H
  | .nilchk x => rNil (ev e x) H
  | .bin kd op x y => rBin kd op (ev e x) (ev e y) H
  | .not x => rNot (ev e x) H
  | .neg x => rNeg (ev e x) H
  | .conv c x => rConv c (ev e x) H
  | .mkfn f first caps => ⟨True, .fn f (first.map (ev e)) (caps.map (ev e)), H⟩
  | .msl sz bytes zs len cap => rMsl sz bytes zs (ev e len) (ev e cap) H
  | .slice lk n x lo hi => rSlice lk n (ev e x) (lo.map (ev e)) (hi.map (ev e)) H
  | .slicev lk n x lo hi => rSliceV lk n (ev e x) (lo.map (ev e)) (hi.map (ev e)) H
  | .faddr off p => rFaddr off (ev e p) H
  | .faddrb off p => rFaddrB off (ev e p) H
  | .fld ag off n x => rFld ag off n (ev e x) H
  | .iaddr sz x i => rIaddr sz (ev e x) (ev e i) H
  | .iaddrv sz x i => rIaddrV sz (ev e x) (ev e i) H
  | .idx x i => rIdx (ev e x) (ev e i) H
  | .look kd zero ok m k => rLook kd zero ok (ev e m) (keyV (ev e k)) H
  | .ext x i => rExt (ev e x) i H
  | .len lk x => rLen lk (ev e x) H
  | .append sz bytes s x => rAppend sz bytes (ev e s) (ev e x) H
  | .appendb t s x => rAppendB t (ev e s) (ev e x) H
  | .copy sz s x => rCopy sz (ev e s) (ev e x) H
  | .min2 x y => rMin (ev e x) (ev e y) H
  | .max2 x y => rMax (ev e x) (ev e y) H
  | .call _ _ => .no H
  | .frz x => rFrz (ev e x) H
  | .own sz x => rOwn sz (ev e x) H
  | .frzf sz off x => rFrzf sz off (ev e x) H
  | .isnil _ _ => .no H
  | .bad => .no H

inductive Out where
  | normal
  | exit (id : Nat)
  | ret
  | pan (v : Value)

def acall (P : Program) (f : AV) (args : List AV) (H : AHeap) (K : AV → AHeap → Prop) : Prop :=
  match f with
  | .fn (.func k) first caps => ACall P k (first ++ args ++ caps) H K
  | .v (.func (.yield l) ⟨[]⟩ ⟨[]⟩) => AYield P l args H K
  | _ => False

/-- A call that may end in a panic. -/
def acallx (P : Program) (f : AV) (args : List AV) (H : AHeap) (K : AV → AHeap → Prop) (Z : Value → AHeap → Prop) : Prop :=
  match f with
  | .fn (.func k) first caps => ACallX P k (first ++ args ++ caps) H K Z
  | _ => False

def aop (P : Program) (op : LOp) (e : Env) (H : AHeap) (K : AV → AHeap → Prop) : Prop :=
  match op with
  | .call f args => acall P (ev e f) (args.map (ev e)) H K
  | .pick c a b => match ev e c with
    | .v (.bool t) => if t = true then K (ev e a) H else K (ev e b) H
    | _ => False
  | .isnil neg x => slcK H (ev e x) ∧ ∀ b, nilOk (ev e x) b → K (bool (b ^^ neg)) H
  | op => (ares op e H).ok ∧ K (ares op e H).x (ares op e H).H

def aops (P : Program) : List LO → Env → AHeap → (Env → AHeap → Prop) → Prop
  | [], e, H, K => K e H
  | o :: l, e, H, K =>
    match o.g with
    | none => aop P o.op e H fun x H' => aops P l (ups e o.d x) H' K
    | some (t, want) =>
      match e t with
      | .v (.bool b) => if b = true then (if want = true then aop P o.op (up e t (bool true)) H fun x H' => aops P l (ups (up e t (bool true)) o.d x) H' K else aops P l (ups (up e t (bool true)) o.d undefA) H K)
          else (if want = true then aops P l (ups (up e t (bool false)) o.d undefA) H K else aop P o.op (up e t (bool false)) H fun x H' => aops P l (ups (up e t (bool false)) o.d x) H' K)
      | .v (.tuple _) => aops P l (ups e o.d undefA) H K
      | _ => False

/-- In a region that draws its order: what touches no object. -/
def aopq (P : Program) (op : LOp) (e : Env) (H : AHeap) (K : AV → Prop) : Prop :=
  match op with
  | .call f args => match ev e f with
    | .fn (.func k) first caps => ∃ x, APure P k (first ++ args.map (ev e) ++ caps) x ∧ clL (first ++ args.map (ev e) ++ caps) = true ∧ K x
    | _ => False
  | .pick c a b => match ev e c with
    | .v (.bool t) => if t = true then K (ev e a) else K (ev e b)
    | _ => False
  | .frz _ => False
  | .own _ _ => False
  | .frzf _ _ _ => False
  | .isnil _ _ => False
  | op => (ares op e H).ok ∧ (ares op e H).H = H ∧ K (ares op e H).x

def aopsq (P : Program) : List LO → Env → AHeap → (Env → Prop) → Prop
  | [], e, _, K => K e
  | o :: l, e, H, K =>
    match o.g with
    | none => aopq P o.op e H fun x => aopsq P l (ups e o.d x) H K
    | some (t, want) =>
      match e t with
      | .v (.bool b) => if b = true then (if want = true then aopq P o.op (up e t (bool true)) H fun x => aopsq P l (ups (up e t (bool true)) o.d x) H K else aopsq P l (ups (up e t (bool true)) o.d undefA) H K)
          else (if want = true then aopsq P l (ups (up e t (bool false)) o.d undefA) H K else aopq P o.op (up e t (bool false)) H fun x => aopsq P l (ups (up e t (bool false)) o.d x) H K)
      | .v (.tuple _) => aopsq P l (ups e o.d undefA) H K
      | _ => False

/-- The one value that stands behind it. -/
def valsA : List AV → Option (List Value)
  | [] => some []
  | .v v :: l => (valsA l).map (v :: ·)
  | _ => none
def valA : AV → Option Value
  | .v v => some v
  | .agg cs => (valsA cs).map fun l => .agg l.toArray
  | _ => none

def markX (e : Env) (x : LX) (b : Bool) : Env :=
  match x with
  | .t n => up e n (bool b)
  | .c _ => e

def upL : Env → List Nat → List AV → Env
  | e, p :: ps, x :: xs => upL (up e p x) ps xs
  | e, _, _ => e
/-- How a range over a function goes on behind its call. -/
def lpOut : LpSt → (Out → Prop) → Prop
  | .ready, K => K .normal
  | .busy, _ => False
  | .done none, K => K .ret
  | .done (some id), K => K (.exit id)
/-- What a round comes to. -/
def rndQ (l : Nat) (lr : Go.Loop) (e : Env) (r : Nat) (R : AV → AHeap → Prop) (o : Out) (_ : Env) (H : AHeap) : Prop :=
  H[r]? = some (.lp l lr e .busy) ∧ match o with
    | .normal => R (bool true) (H.set r (.lp l lr e .ready))
    | .exit id => R (bool false) (H.set r (.lp l lr e (.done (some id))))
    | .ret => R (bool false) (H.set r (.lp l lr e (.done none)))
    | .pan _ => False

def awp (P : Program) : LCode → Env → AHeap → (Out → Env → AHeap → Prop) → Prop
  | .skip, e, H, K => K .normal e H
  | .ops l, e, H, K => aops P l e H (K .normal)
  | .draw hd tl, e, H, K => aopsq P hd e H fun e' => aops P tl e' H (K .normal)
  | .drawM hd pre mid post, e, H, K => aopsq P hd e H fun e' => ∀ σ : List LO, σ.Perm mid → aops P (pre ++ σ ++ post) e' H (K .normal)
  | .seq a b, e, H, K => awp P a e H fun o e' H' => match o with | .normal => awp P b e' H' K | o => K o e' H'
  | .cond x a b, e, H, K => match ev e x with
    | .v (.bool t) => if t = true then awp P a (markX e x true) H K else awp P b (markX e x false) H K
    | _ => False
  | .block id c, e, H, K => awp P c e H fun o e' H' => match o with | .exit j => if j = id then K .normal e' H' else K (.exit j) e' H' | o => K o e' H'
  | .loop c, e, H, K => ∃ (I : Env → AHeap → Prop) (μ : Env → AHeap → Nat), I e H ∧ ∀ e H, I e H → awp P c e H fun o e' H' => match o with | .normal => I e' H' ∧ μ e' H' < μ e H | o => K o e' H'
  | .range g ps la lb, e, H, K => match ev e g with
    | .fn (.func k) first caps => ∀ (l : Nat) (lr : Go.Loop),
        (∀ (args : List AV) (H1 : AHeap) (r : Nat) (R : AV → AHeap → Prop), args.length = ps.length → H1[r]? = some (.lp l lr e .ready) →
          (awp P la (upL e ps args) H1 fun o e1 H2 => match o with
            | .normal => H2[r]? = some (.lp l lr e .ready) ∧ awp P lb e1 (H2.set r (.lp l lr e .busy)) (rndQ l lr e r R)
            | _ => False) → AYield P l args H1 R) →
        ACall P k (first ++ [.v (.func (.yield l) #[] #[])] ++ caps) (H ++ [.lp l lr e .ready]) fun _ H' => ∃ st, H'[H.length]? = some (.lp l lr e st) ∧ lpOut st fun o => K o e (H'.set H.length .dead)
    | _ => False
  | .exit id, e, H, K => K (.exit id) e H
  | .ret, e, H, K => K .ret e H
  | .callp d f args, e, H, K => acallx P (ev e f) (args.map (ev e)) H (fun x H' => K .normal (ups e d x) H') fun v H' => K (.pan v) e H'
  | .pan d t x, e, H, K => ∃ v, valA (ev e x) = some v ∧ K (.pan (.iface t v)) (up e d (.v (.iface t v))) H

inductive RV where
  | tmp (t : Nat)
  | cell (t : Nat) (ag : Bool) (n : Nat)

def resV (e : Env) (H : AHeap) : RV → Res
  | .tmp t => ⟨True, e t, H⟩
  | .cell t ag n => rLoad ag n (e t) H
def resVs (e : Env) (H : AHeap) (l : List RV) : Res :=
  match l with
  | [r] => resV e H r
  | l => ⟨∀ r ∈ l, (resV e H r).ok, .tup (l.map fun r => (resV e H r).x), H⟩

structure LFn where
  n : Nat
  res : List RV
  body : LCode

/-- What stands behind the last statement of a function. -/
def retQ (res : List RV) (R : AV → AHeap → Prop) : Out → Env → AHeap → Prop
  | .exit _, _, _ => False
  | .pan _, _, _ => False
  | _, e, H => (resVs e H res).ok ∧ R (resVs e H res).x H

/-- The same of a function that may panic. -/
def retQX (res : List RV) (R : AV → AHeap → Prop) (Z : Value → AHeap → Prop) : Out → Env → AHeap → Prop
  | .exit _, _, _ => False
  | .pan v, _, H => Z v H
  | _, e, H => (resVs e H res).ok ∧ R (resVs e H res).x H

inductive Item where
  | code (c : LCode)
  | ops (l : List LO)
  | opq (l tl : List LO)
  | blk (id : Nat)
  | bgn (l : Nat) (lr : Go.Loop) (e : Env) (r : Nat)
  | lp (R : Env → AHeap → Prop)

def runK (P : Program) : List Item → (Out → Env → AHeap → Prop) → Out → Env → AHeap → Prop
  | [], Q, o, e, H => Q o e H
  | .code c :: k, Q, .normal, e, H => awp P c e H (runK P k Q)
  | .code _ :: k, Q, o, e, H => runK P k Q o e H
  | .ops l :: k, Q, .normal, e, H => aops P l e H (runK P k Q .normal)
  | .ops _ :: k, Q, o, e, H => runK P k Q o e H
  | .opq l tl :: k, Q, .normal, e, H => aopsq P l e H fun e' => aops P tl e' H (runK P k Q .normal)
  | .opq _ _ :: k, Q, o, e, H => runK P k Q o e H
  | .blk id :: k, Q, o, e, H => match o with | .exit j => if j = id then runK P k Q .normal e H else runK P k Q (.exit j) e H | o => runK P k Q o e H
  | .bgn l lr e0 r :: k, Q, .normal, e, H => H[r]? = some (.lp l lr e0 .ready) ∧ runK P k Q .normal e (H.set r (.lp l lr e0 .busy))
  | .bgn _ _ _ _ :: _, _, _, _, _ => False
  | .lp R :: k, Q, o, e, H => match o with | .normal => R e H | o => runK P k Q o e H

end Go.Ax

/- Looking the types of the code up: from the model's code to code without types. -/
namespace Go.Ax
open Go Go.RowKit

inductive HK where
  | imm
  | pre (d : Nat) (op : LOp)
  | tail
  | perm (l : List Nat)
  | many (m : Nat)
  | cut
  deriving Inhabited

/-- A hint of the prover's: region, operation, what. -/
structure Hn where
  reg : Nat
  idx : Nat
  k : HK
  deriving Inhabited

def lx (n : Nat) : Operand → Option LX
  | .tmp t => if t < n then some (.t t) else none
  | .const v => some (.c (.v v))
  | .func f => some (.c (.fn (.func f) [] []))
  | .global _ => none

def lxs (n : Nat) : List Operand → Option (List LX)
  | [] => some []
  | x :: l => match lx n x, lxs n l with
    | some y, some m => some (y :: m)
    | _, _ => none

def lxo (n : Nat) : Option Operand → Option (Option LX)
  | none => some none
  | some x => (lx n x).map some

def tySz (P : Program) (t : TypeId) : Option Nat := (P.info? t).map (·.size)
def tyAg (P : Program) (t : TypeId) : Option Bool :=
  match P.underlying t with
  | some (.struct _) => some true
  | some (.array _ _) => some true
  | some _ => some false
  | none => none
def tyZero (P : Program) (t : TypeId) : Option Value := (P.info? t).bind (·.zero)
def avs (l : List Value) : List AV := l.map .v
def zeroA : Value → AV
  | .agg cs => .agg (avs cs.toList)
  | z => .v z
/-- The kinds of the cells of these fields, behind those of l, without gaps; g: the kinds of a type. -/
def flatFs (P : Program) (g : TypeId → Option (List KD)) : List KD → List Field → Option (List KD)
  | l, [] => some l
  | l, f :: fs => match g f.type, tySz P f.type, tyAg P f.type with
    | some m, some n, some _ => if f.name ≠ "_" ∧ f.offset = l.length ∧ m.length = n then flatFs P g (l ++ m) fs else none
    | _, _, _ => none

/-- The kinds of a type's cells. -/
def flatTo (P : Program) : Nat → TypeId → Option (List KD)
  | 0, _ => none
  | d + 1, t =>
    match P.underlying t with
    | some (.int _) => some [.int]
    | some .string => some [.str]
    | some .bool => some [.bool]
    | some (.struct fs) => if P.stoodInHeld t then none else flatFs P (flatTo P d) [] fs.toList
    | _ => none

def isIntT (P : Program) (t : TypeId) : Bool := match P.underlying t with | some (.int _) => true | _ => false
def tyKD (P : Program) (t : TypeId) : Option KD :=
  match P.underlying t with
  | some (.int _) => some .int
  | some .string => some .str
  | some .bool => some .bool
  | some (.func _ _ _) => some .fn
  | some (.struct _) => if P.eqGuardType P.depth t then none else (flatTo P 8 t).map .agg
  | _ => none

/-- The kind of a map's keys. -/
def keyKD (P : Program) (t : TypeId) : Option KD :=
  match P.underlying t with
  | some (.array n e) => if n = 2 ∧ isIntT P e = true ∧ P.cellsOf e = 1 then some (.agg [.int, .int]) else none
  | some (.struct _) => none
  | _ => tyKD P t

def lowPs (n : Nat) (place : Nat → Option (Nat × Nat)) : List (Nat × Operand) → Option (List (Nat × Nat × LX))
  | [] => some []
  | (i, x) :: l => match place i, lx n x, lowPs n place l with
    | some (off, sz), some y, some m => some ((off, sz, y) :: m)
    | _, _, _ => none
def lowSs (n : Nat) : List (Nat × Operand) → Option (List (Nat × LX))
  | [] => some []
  | (i, x) :: l => match lx n x, lowSs n l with
    | some y, some m => some ((i, y) :: m)
    | _, _ => none

def placesOf (P : Program) (fs : List Field) : Option (List (Nat × Nat)) :=
  match fs with
  | [] => some []
  | f :: l => match tySz P f.type, placesOf P l with
    | some n, some m => some ((f.offset, n) :: m)
    | _, _ => none

def lowBuild (P : Program) (n : Nat) (t : TypeId) (ps : List (Nat × Operand)) : Option LOp :=
  match tyZero P t, P.underlying t with
  | some (.agg z), some (.struct fs) => match placesOf P fs.toList with
    | some pl => (lowPs n (fun i => pl[i]?) ps).map (.build (avs z.toList))
    | none => none
  | some (.agg z), some (.array _ el) => match tySz P el with
    | some sz => (lowPs n (fun i => some (i * sz, sz)) ps).map (.build (avs z.toList))
    | none => none
  | _, _ => none

def lowBsl (P : Program) (n : Nat) (imm : Bool) (t : TypeId) (len : Nat) (ps : List (Nat × Operand)) : Option LOp :=
  match P.underlying t with
  | some (.slice el) => match tySz P el, tyZero P el, lowSs n ps with
    | some sz, some z, some m => if 0 < sz ∧ z.cells.size = sz ∧ len * sz ≤ 16777216 ∧ z.cells.toList.all one then some (.bsl imm sz len (avs z.cells.toList) m) else none
    | _, _, _ => none
  | _ => none

def lowConv (P : Program) (n : Nat) (src dst : TypeId) (x : Operand) : Option LOp :=
  match P.underlying src, P.underlying dst, lx n x with
  | some (.int _), some (.int k), some y => some (.conv (.toInt k) y)
  | some .string, some .string, some y => some (.conv .same y)
  | some (.int _), some .string, some y => some (.conv .runeStr y)
  | some .string, some (.slice e), some y => match P.underlying e with
    | some (.int .u8) => some (.conv .strBytes y)
    | _ => none
  | some (.slice e), some .string, some y => match P.underlying e, tySz P e with
    | some (.int .u8), some 1 => some (.conv .bytesStr y)
    | _, _ => none
  | some (.slice e), some (.slice _), some y => match P.underlying e with
    | some (.int .u8) => if (src == dst) = true then some (.conv .sameB y) else none
    | _ => none
  | _, _, _ => none

def lowCall (P : Program) (n : Nat) (c : Call) : Option LOp :=
  match c.callee with
  | .value f => match lx n f, lxs n c.args.toList with
    | some g, some m => some (.call g m)
    | _, _ => none
  | .builtin .len => match lxs n c.args.toList, c.argTypes.toList with
    | some [x], [t] => match P.underlying t with
      | some .string => some (.len .str x)
      | some (.slice _) => some (.len .slc x)
      | some (.map _ _) => some (.len .map x)
      | _ => none
    | _, _ => none
  | .builtin .append => match lxs n c.args.toList, c.argTypes.toList with
    | some [s, x], [t, u] => match P.underlying t with
      | some (.slice el) => match P.info? el, P.underlying u with
        | some i, some (.slice _) => if 0 < i.size ∧ (i.zero.map (·.cells.size)) = some i.size then some (.append i.size i.bytes s x) else none
        | some i, some .string => if i.size = 1 ∧ (i.zero.map (·.cells.size)) = some 1 then some (.append i.size i.bytes s x) else none
        | _, _ => none
      | _ => none
    | _, _ => none
  | .builtin .copy => match lxs n c.args.toList, c.argTypes.toList with
    | some [s, x], [t, _] => match P.underlying t with
      | some (.slice el) => (tySz P el).bind fun sz => if 0 < sz then some (.copy sz s x) else none
      | _ => none
    | _, _ => none
  | .builtin .min => match lxs n c.args.toList with
    | some [x, y] => some (.min2 x y)
    | _ => none
  | .builtin .max => match lxs n c.args.toList with
    | some [x, y] => some (.max2 x y)
    | _ => none
  | _ => none

/-- append of a string to bytes of a known type -/
def lowCallB (P : Program) (n : Nat) (c : Call) : Option LOp :=
  match c.callee with
  | .builtin .append => match lxs n c.args.toList, c.argTypes.toList with
    | some [s, x], [t, u] => match P.underlying t, P.underlying u with
      | some (.slice el), some .string => match P.info? el with
        | some i => if i.size = 1 ∧ i.bytes = 1 ∧ (i.zero.map (·.cells.size)) = some 1 then some (.appendb el s x) else none
        | none => none
      | _, _ => none
    | _, _ => none
  | _ => none

def isNilC : Operand → Bool
  | .const (.slice none 0 0) => true
  | _ => false
def isEq : BinOp → Option Bool
  | .eql => some false
  | .neq => some true
  | _ => none
def lowBin (P : Program) (n : Nat) (op : BinOp) (t : TypeId) (x y : Operand) : Option LOp :=
  match P.underlying t with
  | some (.slice _) => match isEq op, lx n x with
    | some neg, some x => if isNilC y then some (.isnil neg x) else none
    | _, _ => none
  | _ => match tyKD P t, lx n x, lx n y with
    | some kd, some x, some y => some (.bin kd op x y)
    | _, _, _ => none

def lowOp0 (P : Program) (n : Nat) (imm : Bool) (o : Oper) : Option LOp :=
  match o.op with
  | .move x => (lx n x).map .mv
  | .assign x => (lx n x).map .mv
  | .pick c a b => match lx n c, lx n a, lx n b with
    | some c, some a, some b => some (.pick c a b)
    | _, _, _ => none
  | .alloc t => match tyZero P t with
    | some z => some (if imm then .allocb t (avs z.cells.toList) else .alloc (avs z.cells.toList))
    | none => none
  | .box _ x => (lx n x).map (.box imm)
  | .build t ps => lowBuild P n t ps.toList
  | .buildSlice t len ps => lowBsl P n imm t len ps.toList
  | .makeMap _ none => some .mkmap
  | .insert t m k x | .mapUpdate t m k x => match P.underlying t, lx n m, lx n k, lx n x with
    | some (.map kt _), some m, some k, some x => (keyKD P kt).map fun kd => .ins kd m k x
    | _, _, _, _ => none
  | .load t p => match tyAg P t, tySz P t, lx n p with
    | some ag, some sz, some p => some (if imm then .loadb ag sz p else .load ag sz p)
    | _, _, _ => none
  | .store t p x => match tySz P t, lx n p, lx n x with
    | some sz, some p, some x => some (.store sz p x)
    | _, _, _ => none
  | .nilCheck x => (lx n x).map .nilchk
  | .binOp op t x y _ => lowBin P n op t x y
  | .unOp .not _ x => (lx n x).map .not
  | .unOp .neg _ x => (lx n x).map .neg
  | .convert src dst x => lowConv P n src dst x
  | .makeFunc f first caps => match lxs n first.toList, lxs n caps.toList with
    | some a, some b => some (.mkfn f a b)
    | _, _ => none
  | .makeSlice t l c => match P.underlying t, lx n l, lx n c with
    | some (.slice el), some l, some c => match P.info? el with
      | some i => match i.zero with
        | some z => if 0 < i.size ∧ z.cells.size = i.size ∧ z.cells.toList.all one then some (.msl i.size i.bytes (avs z.cells.toList) l c) else none
        | none => none
      | none => none
    | _, _, _ => none
  | .slice t x lo hi none => match P.underlying t, lx n x, lxo n lo, lxo n hi with
    | some .string, some x, some lo, some hi => some (.slice .str 1 x lo hi)
    | some (.slice el), some x, some lo, some hi => (tySz P el).map fun n => if imm then .slicev .slc n x lo hi else .slice .slc n x lo hi
    | _, _, _, _ => none
  | .fieldAddr s p f => match P.underlying s, lx n p with
    | some (.struct fs), some p => match fs[f]? with
      | some fd => match tySz P fd.type with
        | some 0 => none
        | some _ => some (if imm then .faddrb fd.offset p else .faddr fd.offset p)
        | none => none
      | none => none
    | _, _ => none
  | .field s x f => match P.underlying s, lx n x with
    | some (.struct fs), some x => match fs[f]? with
      | some fd => match tyAg P fd.type, tySz P fd.type with
        | some ag, some sz => some (.fld ag fd.offset sz x)
        | _, _ => none
      | none => none
    | _, _ => none
  | .indexAddr t x i => match P.underlying t, lx n x, lx n i with
    | some (.slice el), some x, some i => (tySz P el).map fun sz => if imm then .iaddrv sz x i else .iaddr sz x i
    | _, _, _ => none
  | .index t x i => match P.underlying t, lx n x, lx n i with
    | some .string, some x, some i => some (.idx x i)
    | _, _, _ => none
  | .lookup t m k ok => match P.underlying t, lx n m, lx n k with
    | some (.map kt el), some m, some k => match keyKD P kt, tyZero P el with
      | some kd, some z => some (.look kd (zeroA z) ok m k)
      | _, _ => none
    | _, _, _ => none
  | .extract x i => (lx n x).map (.ext · i)
  | .call c => if imm then lowCallB P n c else lowCall P n c
  | _ => none

def lowOp (P : Program) (n : Nat) (imm : Bool) (o : Oper) : LOp := (lowOp0 P n imm o).getD .bad

def lowG (ops : Array Oper) (n : Nat) : Option (Nat × Bool) → Option (Option (Nat × Bool))
  | none => some none
  | some (j, want) => match (ops[j]?).bind (·.dst) with
    | some t => if t < n then some (some (t, want)) else none
    | none => none

def hasImm (hs : List Hn) (reg i : Nat) : Bool := hs.any fun h => h.reg == reg && h.idx == i && (match h.k with | .imm => true | _ => false)
def presAt (hs : List Hn) (reg i : Nat) : List LO := hs.filterMap fun h => if h.reg == reg && h.idx == i then (match h.k with | .pre d op => some ⟨some d, none, op⟩ | _ => none) else none
/-- A step of the proof's own: it turns what is known of one slot. -/
def ghost (d : Option Nat) : LOp → Bool
  | .frz (.t t) => d == some t
  | .own _ (.t t) => d == some t
  | .frzf _ _ (.t t) => d == some t
  | _ => false
def ghosts (n : Nat) (l : List LO) : Bool := l.all fun o => o.g.isNone && ghost o.d o.op && (match o.d with | some d => decide (d < n) | none => false)
def tailAt (hs : List Hn) (reg : Nat) (n : Nat) : Nat := ((hs.find? fun h => h.reg == reg && (match h.k with | .tail => true | _ => false)).map (·.idx)).getD n

def dstOk (n : Nat) : Option Nat → Bool
  | some d => decide (d < n)
  | none => true

def lowOne (P : Program) (n : Nat) (imm : Bool) (ops : Array Oper) (o : Oper) : Option LO :=
  match lowG ops n o.guard with
  | some g => if dstOk n o.dst then some ⟨o.dst, g, lowOp P n imm o⟩ else none
  | none => none

def lowOps (P : Program) (n : Nat) (hs : List Hn) (reg : Nat) (ops : Array Oper) : Nat → List Oper → Option (List LO)
  | i, [] => if ghosts n (presAt hs reg i) then some (presAt hs reg i) else none
  | i, o :: l => match lowOne P n (hasImm hs reg i) ops o, lowOps P n hs reg ops (i + 1) l with
    | some lo, some m => if ghosts n (presAt hs reg i) then some (presAt hs reg i ++ lo :: m) else none
    | _, _ => none

def lowHd (P : Program) (n : Nat) (hs : List Hn) (reg : Nat) (ops : Array Oper) : Nat → List Oper → Option (List LO)
  | _, [] => some []
  | i, o :: l => match lowOne P n (hasImm hs reg i) ops o, lowHd P n hs reg ops (i + 1) l with
    | some lo, some m => some (lo :: m)
    | _, _ => none

def LX.rd : LX → List Nat
  | .t n => [n]
  | .c _ => []
def rdL (l : List LX) : List Nat := l.flatMap LX.rd
def rdO : Option LX → List Nat
  | some x => x.rd
  | none => []
def LOp.rd : LOp → List Nat
  | .mv x => x.rd
  | .pick c a b => c.rd ++ a.rd ++ b.rd
  | .alloc _ => []
  | .allocb _ _ => []
  | .box _ x => x.rd
  | .build _ ps => ps.flatMap (·.2.2.rd)
  | .bsl _ _ _ _ ps => ps.flatMap (·.2.rd)
  | .mkmap => []
  | .ins _ m k x => m.rd ++ k.rd ++ x.rd
  | .load _ _ p => p.rd
  | .loadb _ _ p => p.rd
  | .store _ p x => p.rd ++ x.rd
  | .nilchk x => x.rd
  | .bin _ _ x y => x.rd ++ y.rd
  | .not x => x.rd
  | .neg x => x.rd
  | .conv _ x => x.rd
  | .mkfn _ a b => rdL a ++ rdL b
  | .msl _ _ _ l c => l.rd ++ c.rd
  | .slice _ _ x lo hi => x.rd ++ rdO lo ++ rdO hi
  | .slicev _ _ x lo hi => x.rd ++ rdO lo ++ rdO hi
  | .faddr _ p => p.rd
  | .faddrb _ p => p.rd
  | .fld _ _ _ x => x.rd
  | .iaddr _ x i => x.rd ++ i.rd
  | .iaddrv _ x i => x.rd ++ i.rd
  | .idx x i => x.rd ++ i.rd
  | .look _ _ _ m k => m.rd ++ k.rd
  | .ext x _ => x.rd
  | .len _ x => x.rd
  | .append _ _ s x => s.rd ++ x.rd
  | .appendb _ s x => s.rd ++ x.rd
  | .copy _ s x => s.rd ++ x.rd
  | .min2 x y => x.rd ++ y.rd
  | .max2 x y => x.rd ++ y.rd
  | .call f args => f.rd ++ rdL args
  | .frz x => x.rd
  | .own _ x => x.rd
  | .frzf _ _ x => x.rd
  | .isnil _ x => x.rd
  | .bad => []
def LO.rd (o : LO) : List Nat := (match o.g with | some (t, _) => [t] | none => []) ++ o.op.rd

def memO (d : Option Nat) (l : List Nat) : Bool :=
  match d with
  | some t => l.contains t
  | none => false
/-- Do the two get in each other's way? -/
def confl (a b : LO) : Bool := memO a.d b.rd || memO b.d a.rd || (a.d.isSome && a.d == b.d)

/-- Whatever order is drawn: what is named by two of the first h operations is ordered, and the rest comes behind, one by one. -/
def drawOk (ops : Array Oper) (hd : List LO) (h : Nat) : Bool :=
  let b := Region.before ops
  (List.range ops.size).all fun j => (List.range j).all fun i =>
    (b.getD j 0).testBit i || (decide (j < h) && !confl (hd.getD i default) (hd.getD j default))

def edgesOk (ops : Array Oper) : Bool := (List.range ops.size).all fun i => ((ops[i]?).map (·.after.all fun e => !Region.binds .any e || decide (e.on < i))).getD true

/-- Reads memory at most. -/
def quietK : LOp → Bool
  | .mv _ => true
  | .pick _ _ _ => true
  | .box imm _ => imm
  | .build _ _ => true
  | .bsl imm _ _ _ _ => imm
  | .load _ _ _ => true
  | .loadb _ _ _ => true
  | .nilchk _ => true
  | .bin _ _ _ _ => true
  | .not _ => true
  | .neg _ => true
  | .conv _ _ => true
  | .mkfn _ _ _ => true
  | .slice _ _ _ _ _ => true
  | .slicev _ _ _ _ _ => true
  | .faddr _ _ => true
  | .faddrb _ _ => true
  | .fld _ _ _ _ => true
  | .iaddr _ _ _ => true
  | .iaddrv _ _ _ => true
  | .idx _ _ => true
  | .look _ _ _ _ _ => true
  | .ext _ _ => true
  | .len _ _ => true
  | .min2 _ _ => true
  | .max2 _ _ => true
  | .call _ _ => true
  | _ => false
/-- Has nothing to do with memory. -/
def heapless : LOp → Bool
  | .mv _ => true
  | .pick _ _ _ => true
  | .build _ _ => true
  | .bin _ _ _ _ => true
  | .not _ => true
  | .neg _ => true
  | .mkfn _ _ _ => true
  | .fld _ _ _ _ => true
  | .idx _ _ => true
  | .ext _ _ => true
  | .min2 _ _ => true
  | .max2 _ _ => true
  | .call _ _ => true
  | .box imm _ => imm
  | .bsl imm _ _ _ _ => imm
  | .iaddrv _ _ _ => true
  | .slicev _ _ _ _ _ => true
  | _ => false
/-- Makes a new object, and changes none. -/
def fresh : LOp → Bool
  | .alloc _ => true
  | .box imm _ => !imm
  | .bsl imm _ _ _ _ => !imm
  | .mkmap => true
  | .msl _ _ _ _ _ => true
  | _ => false
def tlAt (P : Program) (n : Nat) (hs : List Hn) (reg : Nat) (ops : Array Oper) (j : Nat) : LO :=
  match ops[j]? with
  | some o => (lowOne P n (hasImm hs reg j) ops o).getD default
  | none => default
def isLoadB : LOp → Bool
  | .loadb _ _ _ => true
  | .faddrb _ _ => true
  | _ => false
def isIns : LOp → Bool
  | .ins _ _ _ _ => true
  | _ => false
def isApp : LOp → Bool
  | .append _ _ _ _ => true
  | _ => false
def isMv : LOp → Bool
  | .mv _ => true
  | _ => false
/-- The first, which reads at most, minds nothing of what the second does to memory. -/
def comm (a b : LOp) : Bool := heapless a || fresh b || (isLoadB a && (isIns b || isApp b)) || isMv b
/-- As drawOk, but an operation behind the first h may be drawn ahead of one of them, where the two have nothing to do with each other. -/
def drawOk2 (P : Program) (n : Nat) (hs : List Hn) (reg : Nat) (ops : Array Oper) (hd : List LO) (h : Nat) : Bool :=
  let b := Region.before ops
  (List.range ops.size).all fun j => (List.range j).all fun i =>
    (b.getD j 0).testBit i || (decide (j < h) && !confl (hd.getD i default) (hd.getD j default)) ||
      (decide (i < h) && decide (h ≤ j) && (presAt hs reg j).isEmpty && quietK (hd.getD i default).op && !confl (hd.getD i default) (tlAt P n hs reg ops j) && comm (hd.getD i default).op (tlAt P n hs reg ops j).op)

/-- As drawOk2, with insertions (numbers p1 to p2) that come in any order. -/
def drawOk3 (P : Program) (n : Nat) (hs : List Hn) (reg : Nat) (ops : Array Oper) (hd : List LO) (h p1 p2 : Nat) : Bool :=
  let b := Region.before ops
  ((List.range ops.size).all fun j => (List.range j).all fun i =>
    (b.getD j 0).testBit i || (decide (j < h) && !confl (hd.getD i default) (hd.getD j default)) ||
      (decide (i < h) && decide (h ≤ j) && (presAt hs reg j).isEmpty && quietK (hd.getD i default).op && !confl (hd.getD i default) (tlAt P n hs reg ops j) && comm (hd.getD i default).op (tlAt P n hs reg ops j).op) ||
      (decide (p1 ≤ i) && decide (j < p2))) &&
  (List.range p2).all fun j => decide (j < h) || ((tlAt P n hs reg ops j).g.isNone && (presAt hs reg j).isEmpty &&
    ((ops[j]?).map fun o => (lowOne P n (hasImm hs reg j) ops o).isSome) == some true &&
    (if j < p1 then fresh (tlAt P n hs reg ops j).op else isIns (tlAt P n hs reg ops j).op && (tlAt P n hs reg ops j).d.isNone))

/-- The operations of a drawn region in another order of the prover's. -/
def renOp (π : List Nat) (o : Oper) : Oper := { o with after := o.after.map fun e => { e with on := π.idxOf e.on }, guard := o.guard.map fun jb => (π.idxOf jb.1, jb.2) }
def permOps (π : List Nat) (ops : Array Oper) : Array Oper := (π.map fun i => renOp π (ops.getD i default)).toArray
def permOk (π : List Nat) (n : Nat) : Bool := decide (π.length = n) && (List.range n).all fun k => decide (π.getD k 0 < n) && decide (π.idxOf (π.getD k 0) = k) && decide (π.idxOf k < n) && decide (π.getD (π.idxOf k) 0 = k)
def permOf (hs : List Hn) (reg : Nat) : Option (List Nat) := hs.findSome? fun h => if h.reg == reg then (match h.k with | .perm l => some l | _ => none) else none
def permAt (hs : List Hn) (reg : Nat) (ops : Array Oper) : Array Oper := match permOf hs reg with
  | some π => if permOk π ops.size then permOps π ops else ops
  | none => ops

def manyAt (hs : List Hn) (reg : Nat) : Option (Nat × Nat) := hs.findSome? fun h => if h.reg == reg then (match h.k with | .many m => some (h.idx, h.idx + m) | _ => none) else none
/-- Holds no range over a function. -/
def nr : LCode → Bool
  | .seq a b => nr a && nr b
  | .cond _ a b => nr a && nr b
  | .block _ c => nr c
  | .loop c => nr c
  | .range _ _ _ _ => false
  | _ => true

/-- Is operation i of region reg one that may end in a panic? -/
def hasCut (hs : List Hn) (reg i : Nat) : Bool := hs.any fun h => h.reg == reg && h.idx == i && (match h.k with | .cut => true | _ => false)
def anyCut (hs : List Hn) (reg : Nat) : Bool := hs.any fun h => h.reg == reg && (match h.k with | .cut => true | _ => false)
/-- A call that may end in a panic. -/
def lowCut (n : Nat) (o : Oper) : Option LCode :=
  match o.op, o.guard with
  | .call ⟨.value f, args, _⟩, none => match lx n f, lxs n args.toList with
    | some f, some args => if dstOk n o.dst then some (.callp o.dst f args) else none
    | _, _ => none
  | _, _ => none
def notIface : TypeDesc → Bool
  | .interface _ => false
  | _ => true
/-- A panic: its value is laid into an interface by the operation ahead of it. -/
def lowPan (P : Program) (n : Nat) (o q : Oper) : Option LCode :=
  match o.op, o.guard, o.dst, q.op, q.guard with
  | .makeInterface t x, none, some d, .call ⟨.builtin .panic, args, _⟩, none => match lx n x, args.toList, P.underlying t with
    | some x, [.tmp d'], some u => if d = d' ∧ d < n ∧ notIface u = true then some (.pan d t x) else none
    | _, _, _ => none
  | _, _, _, _, _ => none
/-- Operations one behind the other, some of which may end in a panic. -/
def lowOpsP (P : Program) (n : Nat) (hs : List Hn) (reg : Nat) (ops : Array Oper) : Nat → List Oper → Option LCode
  | i, [] => if ghosts n (presAt hs reg i) then some (.ops (presAt hs reg i)) else none
  | i, o :: l =>
    if ghosts n (presAt hs reg i) then
      if hasCut hs reg i then
        match lowCut n o, lowOpsP P n hs reg ops (i + 1) l with
        | some c, some m => some (.seq (.ops (presAt hs reg i)) (.seq c m))
        | _, _ => match l with
          | q :: _ => (lowPan P n o q).map fun c => .seq (.ops (presAt hs reg i)) c
          | [] => none
      else match lowOne P n (hasImm hs reg i) ops o, lowOpsP P n hs reg ops (i + 1) l with
        | some lo, some m => some (.seq (.ops (presAt hs reg i ++ [lo])) m)
        | _, _ => none
    else none

def lowC (P : Program) (n : Nat) (hs : List Hn) : Code → Option LCode
  | .skip => some .skip
  | .region id ops false => if anyCut hs id then lowOpsP P n hs id ops 0 ops.toList else (lowOps P n hs id ops 0 ops.toList).map .ops
  | .region id ops0 true =>
    let ops := permAt hs id ops0
    let h := tailAt hs id ops.size
    match manyAt hs id with
    | some (p1, p2) =>
      match lowHd P n hs id ops 0 (ops.toList.take h), lowOps P n hs id ops p2 (ops.toList.drop p2) with
      | some hd, some post => if drawOk3 P n hs id ops hd h p1 p2 && edgesOk ops && P.follows .mixedOrders && decide (h ≤ p1) && decide (p1 ≤ p2) && decide (p2 ≤ ops.size) then
          some (.drawM hd ((List.range' h (p1 - h)).map (tlAt P n hs id ops)) ((List.range' p1 (p2 - p1)).map (tlAt P n hs id ops)) post) else none
      | _, _ => none
    | none =>
    match lowHd P n hs id ops 0 (ops.toList.take h), lowOps P n hs id ops h (ops.toList.drop h) with
    | some hd, some tl => if (drawOk ops hd h || drawOk2 P n hs id ops hd h) && edgesOk ops && P.follows .mixedOrders && decide (h ≤ ops.size) then some (.draw hd tl) else none
    | _, _ => none
  | .seq a b => match lowC P n hs a, lowC P n hs b with
    | some a, some b => some (.seq a b)
    | _, _ => none
  | .cond c a b => match lx n c, lowC P n hs a, lowC P n hs b with
    | some c, some a, some b => some (.cond c a b)
    | _, _, _ => none
  | .block id c => (lowC P n hs c).map (.block id)
  | .loop c => (lowC P n hs c).map .loop
  | .rangeFunc g ps a b => match lx n g, lowC P n hs a, lowC P n hs b with
    | some g, some a, some b => if nr a && nr b && ps.toList.all (fun p => decide (p < n)) then some (.range g ps.toList a b) else none
    | _, _, _ => none
  | .exit id => some (.exit id)
  | .ret => some .ret
  | _ => none

def lowRs (P : Program) (n : Nat) : List ResultVar → Option (List RV)
  | [] => some []
  | .tmp t :: l => match lowRs P n l with
    | some m => if t < n then some (.tmp t :: m) else none
    | none => none
  | .cell t ty :: l => match lowRs P n l, tyAg P ty, tySz P ty with
    | some m, some ag, some sz => if t < n then some (.cell t ag sz :: m) else none
    | _, _, _ => none

def lowFn (P : Program) (fn : Func) (hs : List Hn) : Option LFn :=
  match fn.body, lowRs P fn.ntmps fn.results.toList with
  | some c, some rs => match lowC P fn.ntmps hs c with
    | some b => if fn.params.size + fn.nfree ≤ fn.ntmps ∧ (fn.name == "runtime.NumGoroutine") = false then some ⟨fn.ntmps, rs, b⟩ else none
    | none => none
  | _, _ => none

end Go.Ax

/- The functions, lowered. Printed by a program (wip/tools/pl.py). -/
namespace Go.Proofs.Yteidffcimidinaa
open Go Go.Ax
set_option maxRecDepth 100000

/-- assessor_assessorref04.Parse -/
def L10 : LFn := ⟨72, [(.cell 2 true 5), (.tmp 3), (.tmp 4)], (.seq (.ops [⟨(some 2), none, (.alloc [(.v (.int .i64 0)), (.v (.string (mkS []))), (.v (.int .i64 0)), (.v (.int .i64 0)), (.v (.slice none 0 0))])⟩,
      ⟨(some 3), none, (.mv (.c (.v (.slice none 0 0))))⟩,
      ⟨(some 4), none, (.mv (.c (.v (.int .i64 0))))⟩])
    (.seq (.seq (.ops [⟨(some 8), none, (.mv (.t 0))⟩,
      ⟨(some 9), none, (.len .str (.t 8))⟩,
      ⟨(some 10), none, (.bin .int .gtr (.t 9) (.c (.v (.int .i64 4096))))⟩])
    (.cond (.t 10)
    (.seq (.ops [⟨(some 11), none, (.build [(.v (.int .i64 0)), (.v (.string (mkS []))), (.v (.int .i64 0)), (.v (.int .i64 0)), (.v (.slice none 0 0))] [])⟩,
      ⟨none, none, (.store 5 (.t 2) (.t 11))⟩,
      ⟨(some 3), none, (.mv (.c (.v (.slice none 0 0))))⟩,
      ⟨(some 4), none, (.mv (.c (.v (.int .i64 8))))⟩])
    .ret)
    .skip))
    (.seq (.ops [⟨(some 12), none, (.mv (.t 0))⟩,
      ⟨(some 13), none, (.call (.c (.fn (.func 33) [] [])) [(.t 12)])⟩,
      ⟨(some 5), none, (.mv (.t 13))⟩])
    (.seq (.ops [⟨(some 14), none, (.bsl false 5 0 [(.v (.int .i64 0)), (.v (.string (mkS []))), (.v (.int .i64 0)), (.v (.int .i64 0)), (.v (.slice none 0 0))] [])⟩,
      ⟨(some 6), none, (.mv (.t 14))⟩])
    (.seq (.block 0 (.loop (.seq (.seq (.ops [⟨(some 15), none, (.mv (.t 5))⟩,
      ⟨(some 16), none, (.call (.c (.fn (.func 34) [] [])) [(.t 15)])⟩,
      ⟨(some 17), none, (.bin .int .neq (.t 16) (.c (.v (.int .i64 5))))⟩])
    (.cond (.t 17)
    .skip
    (.exit 0)))
    (.block 1 (.block 2 (.seq (.ops [⟨(some 46), none, (.mv (.t 5))⟩,
      ⟨(some 47), none, (.call (.c (.fn (.func 35) [] [])) [(.t 46), (.c (.v (.string (mkS [114, 101, 99, 111, 114, 100]))))])⟩,
      ⟨(some 45), none, (.mv (.t 47))⟩])
    (.cond (.t 45)
    (.ops [⟨(some 48), none, (.mv (.t 6))⟩,
      ⟨(some 49), none, (.mv (.t 5))⟩,
      ⟨(some 50), none, (.call (.c (.fn (.func 36) [] [])) [(.t 49)])⟩,
      ⟨(some 51), none, (.bsl true 5 1 [(.v (.int .i64 0)), (.v (.string (mkS []))), (.v (.int .i64 0)), (.v (.int .i64 0)), (.v (.slice none 0 0))] [(0, (.t 50))])⟩,
      ⟨(some 52), none, (.append 5 64 (.t 48) (.t 51))⟩,
      ⟨(some 6), none, (.mv (.t 52))⟩])
    (.seq (.ops [⟨(some 54), none, (.mv (.t 5))⟩,
      ⟨(some 55), none, (.call (.c (.fn (.func 35) [] [])) [(.t 54), (.c (.v (.string (mkS [112, 114, 111, 99]))))])⟩,
      ⟨(some 53), none, (.mv (.t 55))⟩])
    (.cond (.t 53)
    (.ops [⟨(some 56), none, (.mv (.t 6))⟩,
      ⟨(some 57), none, (.mv (.t 5))⟩,
      ⟨(some 58), none, (.call (.c (.fn (.func 37) [] [])) [(.t 57)])⟩,
      ⟨(some 59), none, (.bsl true 5 1 [(.v (.int .i64 0)), (.v (.string (mkS []))), (.v (.int .i64 0)), (.v (.int .i64 0)), (.v (.slice none 0 0))] [(0, (.t 58))])⟩,
      ⟨(some 60), none, (.append 5 64 (.t 56) (.t 59))⟩,
      ⟨(some 6), none, (.mv (.t 60))⟩])
    (.seq (.ops [⟨(some 18), none, (.mv (.t 5))⟩,
      ⟨(some 19), none, (.nilchk (.t 18))⟩,
      ⟨(some 20), none, (.faddr 2 (.t 19))⟩,
      ⟨(some 21), none, (.load false 1 (.t 20))⟩,
      ⟨(some 7), none, (.mv (.t 21))⟩])
    (.seq (.ops [⟨(some 22), none, (.mv (.t 5))⟩,
      ⟨(some 23), none, (.call (.c (.fn (.func 38) [] [])) [(.t 22), (.c (.v (.int .i64 7))), (.c (.v (.string (mkS []))))])⟩])
    (.seq (.block 3 (.loop (.seq (.seq (.ops [⟨(some 24), none, (.mv (.t 5))⟩,
      ⟨(some 25), none, (.call (.c (.fn (.func 34) [] [])) [(.t 24)])⟩,
      ⟨(some 26), none, (.bin .int .neq (.t 25) (.c (.v (.int .i64 5))))⟩,
      ⟨(some 27), none, (.mv (.t 26))⟩,
      ⟨(some 28), (some (27, true)), (.mv (.t 5))⟩,
      ⟨(some 29), (some (27, true)), (.call (.c (.fn (.func 35) [] [])) [(.t 28), (.c (.v (.string (mkS [114, 101, 99, 111, 114, 100]))))])⟩,
      ⟨(some 30), (some (27, true)), (.not (.t 29))⟩,
      ⟨(some 31), none, (.pick (.t 27) (.t 30) (.c (.v (.bool false))))⟩,
      ⟨(some 32), none, (.mv (.t 31))⟩,
      ⟨(some 33), (some (32, true)), (.mv (.t 5))⟩,
      ⟨(some 34), (some (32, true)), (.call (.c (.fn (.func 35) [] [])) [(.t 33), (.c (.v (.string (mkS [112, 114, 111, 99]))))])⟩,
      ⟨(some 35), (some (32, true)), (.not (.t 34))⟩,
      ⟨(some 36), none, (.pick (.t 32) (.t 35) (.c (.v (.bool false))))⟩])
    (.cond (.t 36)
    .skip
    (.exit 3)))
    (.block 4 (.ops [⟨(some 37), none, (.mv (.t 5))⟩,
      ⟨(some 38), none, (.call (.c (.fn (.func 39) [] [])) [(.t 37)])⟩])))))
    (.ops [⟨(some 39), none, (.mv (.t 6))⟩,
      ⟨(some 40), none, (.mv (.t 5))⟩,
      ⟨(some 41), none, (.mv (.t 7))⟩,
      ⟨(some 42), none, (.call (.c (.fn (.func 40) [] [])) [(.t 40), (.t 41), (.c (.v (.int .i64 1))), (.c (.v (.string (mkS [])))), (.c (.v (.slice none 0 0)))])⟩,
      ⟨(some 43), none, (.bsl true 5 1 [(.v (.int .i64 0)), (.v (.string (mkS []))), (.v (.int .i64 0)), (.v (.int .i64 0)), (.v (.slice none 0 0))] [(0, (.t 42))])⟩,
      ⟨(some 44), none, (.append 5 64 (.t 39) (.t 43))⟩,
      ⟨(some 6), none, (.mv (.t 44))⟩])))))))))))))
    (.seq (.draw [⟨(some 61), none, (.mv (.t 0))⟩,
      ⟨(some 62), none, (.len .str (.t 61))⟩,
      ⟨(some 63), none, (.mv (.t 6))⟩,
      ⟨(some 64), none, (.build [(.v (.int .i64 0)), (.v (.string (mkS []))), (.v (.int .i64 0)), (.v (.int .i64 0)), (.v (.slice none 0 0))] [(0, (1, (.c (.v (.int .i64 2))))), (3, (1, (.t 62))), (4, (1, (.t 63)))])⟩,
      ⟨(some 65), none, (.mv (.t 0))⟩,
      ⟨(some 66), none, (.call (.c (.fn (.func 42) [] [])) [(.t 65)])⟩,
      ⟨(some 67), none, (.mv (.t 5))⟩,
      ⟨(some 68), none, (.nilchk (.t 67))⟩,
      ⟨(some 69), none, (.faddr 4 (.t 68))⟩,
      ⟨(some 70), none, (.load false 1 (.t 69))⟩,
      ⟨(some 71), none, (.call (.c (.fn (.func 41) [] [])) [(.t 66), (.t 70)])⟩] [⟨(some 64), none, (.frzf 5 4 (.t 64))⟩,
      ⟨none, none, (.store 5 (.t 2) (.t 64))⟩,
      ⟨(some 3), none, (.mv (.t 71))⟩,
      ⟨(some 4), none, (.mv (.c (.v (.int .i64 0))))⟩,
      ⟨(some 3), none, (.frz (.t 3))⟩])
    .ret))))))⟩
theorem L10_ok : lowFn Try.prog Try.f10 [⟨15, 11, (.pre 64 (.frzf 5 4 (.t 64)))⟩, ⟨12, 3, .imm⟩, ⟨14, 3, .imm⟩, ⟨10, 4, .imm⟩, ⟨15, 14, (.pre 3 (.frz (.t 3)))⟩, ⟨15, 11, .tail⟩] = some L10 := by kernel_rfl

/-- assessor_assessorref03.Get -/
def L12 : LFn := ⟨38, [(.cell 4 true 5), (.tmp 5)], (.seq (.ops [⟨(some 2), none, (.box false (.t 0))⟩,
      ⟨(some 4), none, (.alloc [(.v (.int .i64 0)), (.v (.string (mkS []))), (.v (.int .i64 0)), (.v (.int .i64 0)), (.v (.slice none 0 0))])⟩,
      ⟨(some 5), none, (.mv (.c (.v (.bool false))))⟩])
    (.seq (.seq (.ops [⟨(some 6), none, (.mv (.c (.v (.int .i64 0))))⟩])
    (.block 0 (.loop (.seq (.seq (.ops [⟨(some 7), none, (.mv (.t 6))⟩,
      ⟨(some 8), none, (.mv (.t 1))⟩,
      ⟨(some 9), none, (.len .slc (.t 8))⟩,
      ⟨(some 10), none, (.bin .int .lss (.t 7) (.t 9))⟩])
    (.cond (.t 10)
    .skip
    (.exit 0)))
    (.seq (.block 1 (.seq (.seq (.draw [⟨(some 13), none, (.mv (.t 1))⟩,
      ⟨(some 14), none, (.mv (.t 6))⟩,
      ⟨(some 15), none, (.iaddr 1 (.t 13) (.t 14))⟩,
      ⟨(some 16), none, (.load false 1 (.t 15))⟩,
      ⟨(some 17), none, (.bin .int .lss (.t 16) (.c (.v (.int .i64 0))))⟩,
      ⟨(some 18), none, (.mv (.t 17))⟩,
      ⟨(some 19), (some (18, false)), (.mv (.t 1))⟩,
      ⟨(some 20), (some (18, false)), (.mv (.t 6))⟩,
      ⟨(some 21), (some (18, false)), (.iaddr 1 (.t 19) (.t 20))⟩,
      ⟨(some 22), (some (18, false)), (.load false 1 (.t 21))⟩,
      ⟨(some 23), (some (18, false)), (.faddr 4 (.t 2))⟩,
      ⟨(some 24), (some (18, false)), (.load false 1 (.t 23))⟩,
      ⟨(some 25), (some (18, false)), (.len .slc (.t 24))⟩,
      ⟨(some 26), (some (18, false)), (.bin .int .geq (.t 22) (.t 25))⟩,
      ⟨(some 27), none, (.pick (.t 18) (.c (.v (.bool true))) (.t 26))⟩] [])
    (.cond (.t 27)
    (.seq (.ops [⟨(some 28), none, (.build [(.v (.int .i64 0)), (.v (.string (mkS []))), (.v (.int .i64 0)), (.v (.int .i64 0)), (.v (.slice none 0 0))] [])⟩,
      ⟨none, none, (.store 5 (.t 4) (.t 28))⟩,
      ⟨(some 5), none, (.mv (.c (.v (.bool false))))⟩])
    .ret)
    .skip))
    (.draw [⟨(some 29), none, (.faddr 4 (.t 2))⟩,
      ⟨(some 30), none, (.load false 1 (.t 29))⟩,
      ⟨(some 31), none, (.mv (.t 1))⟩,
      ⟨(some 32), none, (.mv (.t 6))⟩,
      ⟨(some 33), none, (.iaddr 1 (.t 31) (.t 32))⟩,
      ⟨(some 34), none, (.load false 1 (.t 33))⟩,
      ⟨(some 35), none, (.iaddr 5 (.t 30) (.t 34))⟩,
      ⟨(some 36), none, (.load true 5 (.t 35))⟩] [⟨none, none, (.store 5 (.t 2) (.t 36))⟩])))
    (.ops [⟨(some 11), none, (.mv (.t 6))⟩,
      ⟨(some 12), none, (.bin .int .add (.t 11) (.c (.v (.int .i64 1))))⟩,
      ⟨(some 6), none, (.mv (.t 12))⟩]))))))
    (.seq (.ops [⟨(some 37), none, (.load true 5 (.t 2))⟩,
      ⟨none, none, (.store 5 (.t 4) (.t 37))⟩,
      ⟨(some 5), none, (.mv (.c (.v (.bool true))))⟩])
    .ret)))⟩
theorem L12_ok : lowFn Try.prog Try.f12 [⟨6, 8, .tail⟩] = some L12 := by kernel_rfl

/-- assessor_assessorref04.start -/
def L33 : LFn := ⟨35, [(.tmp 2)], (.seq (.ops [⟨(some 2), none, (.mv (.c (.v (.pointer none))))⟩])
    (.seq (.ops [⟨(some 7), none, (.mv (.t 0))⟩,
      ⟨(some 8), none, (.build [(.v (.string (mkS []))), (.v (.slice none 0 0)), (.v (.int .i64 0)), (.v (.int .i64 0)), (.v (.slice none 0 0))] [(0, (1, (.t 7)))])⟩,
      ⟨(some 3), none, (.alloc [(.v (.string (mkS []))), (.v (.slice none 0 0)), (.v (.int .i64 0)), (.v (.int .i64 0)), (.v (.slice none 0 0))])⟩,
      ⟨none, none, (.store 5 (.t 3) (.t 8))⟩])
    (.seq (.ops [⟨(some 10), none, (.mv (.t 0))⟩,
      ⟨(some 11), none, (.call (.c (.fn (.func 20) [] [])) [(.t 10)])⟩,
      ⟨(some 9), none, (.mv (.t 11))⟩,
      ⟨(some 12), none, (.ext (.t 9) 0)⟩,
      ⟨(some 13), none, (.ext (.t 9) 1)⟩,
      ⟨(some 4), none, (.mv (.t 12))⟩,
      ⟨(some 5), none, (.mv (.t 13))⟩])
    (.seq (.seq (.ops [⟨(some 6), none, (.mv (.c (.v (.int .i64 0))))⟩])
    (.block 0 (.loop (.seq (.seq (.ops [⟨(some 14), none, (.mv (.t 6))⟩,
      ⟨(some 15), none, (.mv (.t 4))⟩,
      ⟨(some 16), none, (.len .slc (.t 15))⟩,
      ⟨(some 17), none, (.bin .int .lss (.t 14) (.t 16))⟩])
    (.cond (.t 17)
    .skip
    (.exit 0)))
    (.seq (.block 1 (.seq (.ops [⟨(some 20), none, (.mv (.t 4))⟩,
      ⟨(some 21), none, (.mv (.t 6))⟩,
      ⟨(some 22), none, (.iaddr 4 (.t 20) (.t 21))⟩,
      ⟨(some 23), none, (.faddr 0 (.t 22))⟩,
      ⟨(some 24), none, (.load false 1 (.t 23))⟩,
      ⟨(some 25), none, (.bin .int .neq (.t 24) (.c (.v (.int .i64 4))))⟩])
    (.cond (.t 25)
    (.draw [⟨(some 26), none, (.faddr 1 (.t 3))⟩,
      ⟨(some 27), none, (.load false 1 (.t 26))⟩,
      ⟨(some 28), none, (.mv (.t 4))⟩,
      ⟨(some 29), none, (.mv (.t 6))⟩,
      ⟨(some 30), none, (.iaddr 4 (.t 28) (.t 29))⟩,
      ⟨(some 31), none, (.load true 4 (.t 30))⟩,
      ⟨(some 32), none, (.bsl true 4 1 [(.v (.int .i64 0)), (.v (.int .i64 0)), (.v (.int .i64 0)), (.v (.int .i64 0))] [(0, (.t 31))])⟩] [⟨(some 33), none, (.append 4 32 (.t 27) (.t 32))⟩,
      ⟨(some 34), none, (.faddr 1 (.t 3))⟩,
      ⟨none, none, (.store 1 (.t 34) (.t 33))⟩])
    .skip)))
    (.ops [⟨(some 18), none, (.mv (.t 6))⟩,
      ⟨(some 19), none, (.bin .int .add (.t 18) (.c (.v (.int .i64 1))))⟩,
      ⟨(some 6), none, (.mv (.t 19))⟩]))))))
    (.seq (.ops [⟨(some 2), none, (.mv (.t 3))⟩])
    .ret)))))⟩
theorem L33_ok : lowFn Try.prog Try.f33 [⟨7, 6, .imm⟩, ⟨7, 7, .tail⟩] = some L33 := by kernel_rfl

/-- assessor_assessorref04.kind -/
def L34 : LFn := ⟨14, [(.tmp 2)], (.seq (.ops [⟨(some 2), none, (.mv (.c (.v (.int .i64 0))))⟩])
    (.seq (.draw [⟨(some 3), none, (.mv (.t 0))⟩,
      ⟨(some 4), none, (.nilchk (.t 3))⟩,
      ⟨(some 5), none, (.faddr 1 (.t 4))⟩,
      ⟨(some 6), none, (.load false 1 (.t 5))⟩,
      ⟨(some 7), none, (.mv (.t 0))⟩,
      ⟨(some 8), none, (.nilchk (.t 7))⟩,
      ⟨(some 9), none, (.faddr 2 (.t 8))⟩,
      ⟨(some 10), none, (.load false 1 (.t 9))⟩,
      ⟨(some 11), none, (.iaddr 4 (.t 6) (.t 10))⟩,
      ⟨(some 12), none, (.faddr 0 (.t 11))⟩,
      ⟨(some 13), none, (.load false 1 (.t 12))⟩,
      ⟨(some 2), none, (.mv (.t 13))⟩] [])
    .ret))⟩
theorem L34_ok : lowFn Try.prog Try.f34 [] = some L34 := by kernel_rfl

/-- assessor_assessorref04.is -/
def L35 : LFn := ⟨14, [(.tmp 4)], (.seq (.ops [⟨(some 4), none, (.mv (.c (.v (.bool false))))⟩])
    (.seq (.ops [⟨(some 5), none, (.mv (.t 0))⟩,
      ⟨(some 6), none, (.call (.c (.fn (.func 34) [] [])) [(.t 5)])⟩,
      ⟨(some 7), none, (.bin .int .neq (.t 6) (.c (.v (.int .i64 5))))⟩,
      ⟨(some 8), none, (.mv (.t 7))⟩,
      ⟨(some 9), (some (8, true)), (.mv (.t 0))⟩,
      ⟨(some 10), (some (8, true)), (.call (.c (.fn (.func 79) [] [])) [(.t 9)])⟩,
      ⟨(some 11), (some (8, true)), (.mv (.t 1))⟩,
      ⟨(some 12), (some (8, true)), (.bin .str .eql (.t 10) (.t 11))⟩,
      ⟨(some 13), none, (.pick (.t 8) (.t 12) (.c (.v (.bool false))))⟩,
      ⟨(some 4), none, (.mv (.t 13))⟩])
    .ret))⟩
theorem L35_ok : lowFn Try.prog Try.f35 [] = some L35 := by kernel_rfl

/-- assessor_assessorref04.procedure -/
def L37 : LFn := ⟨30, [(.cell 2 true 5)], (.seq (.ops [⟨(some 2), none, (.alloc [(.v (.int .i64 0)), (.v (.string (mkS []))), (.v (.int .i64 0)), (.v (.int .i64 0)), (.v (.slice none 0 0))])⟩])
    (.seq (.ops [⟨(some 8), none, (.mv (.t 0))⟩,
      ⟨(some 9), none, (.nilchk (.t 8))⟩,
      ⟨(some 10), none, (.faddr 2 (.t 9))⟩,
      ⟨(some 11), none, (.load false 1 (.t 10))⟩,
      ⟨(some 3), none, (.mv (.t 11))⟩])
    (.seq (.ops [⟨(some 12), none, (.mv (.t 0))⟩,
      ⟨(some 13), none, (.call (.c (.fn (.func 39) [] [])) [(.t 12)])⟩])
    (.seq (.ops [⟨(some 14), none, (.mv (.t 0))⟩,
      ⟨(some 15), none, (.call (.c (.fn (.func 80) [] [])) [(.t 14)])⟩,
      ⟨(some 4), none, (.mv (.t 15))⟩])
    (.seq (.ops [⟨(some 16), none, (.mv (.t 0))⟩,
      ⟨(some 17), none, (.call (.c (.fn (.func 84) [] [])) [(.t 16)])⟩,
      ⟨(some 5), none, (.alloc [(.v (.int .i64 0)), (.v (.string (mkS []))), (.v (.int .i64 0)), (.v (.int .i64 0)), (.v (.slice none 0 0))])⟩,
      ⟨none, none, (.store 5 (.t 5) (.t 17))⟩])
    (.seq (.ops [⟨(some 18), none, (.mv (.t 0))⟩,
      ⟨(some 19), none, (.call (.c (.fn (.func 85) [] [])) [(.t 18)])⟩,
      ⟨(some 6), none, (.alloc [(.v (.int .i64 0)), (.v (.string (mkS []))), (.v (.int .i64 0)), (.v (.int .i64 0)), (.v (.slice none 0 0))])⟩,
      ⟨none, none, (.store 5 (.t 6) (.t 19))⟩])
    (.seq (.ops [⟨(some 20), none, (.mv (.t 0))⟩,
      ⟨(some 21), none, (.call (.c (.fn (.func 86) [] [])) [(.t 20)])⟩,
      ⟨(some 7), none, (.alloc [(.v (.int .i64 0)), (.v (.string (mkS []))), (.v (.int .i64 0)), (.v (.int .i64 0)), (.v (.slice none 0 0))])⟩,
      ⟨none, none, (.store 5 (.t 7) (.t 21))⟩])
    (.seq (.ops [⟨(some 22), none, (.mv (.t 0))⟩,
      ⟨(some 23), none, (.mv (.t 3))⟩,
      ⟨(some 24), none, (.mv (.t 4))⟩,
      ⟨(some 25), none, (.load true 5 (.t 5))⟩,
      ⟨(some 26), none, (.load true 5 (.t 6))⟩,
      ⟨(some 27), none, (.load true 5 (.t 7))⟩,
      ⟨(some 28), none, (.bsl true 5 3 [(.v (.int .i64 0)), (.v (.string (mkS []))), (.v (.int .i64 0)), (.v (.int .i64 0)), (.v (.slice none 0 0))] [(0, (.t 25)), (1, (.t 26)), (2, (.t 27))])⟩,
      ⟨(some 29), none, (.call (.c (.fn (.func 40) [] [])) [(.t 22), (.t 23), (.c (.v (.int .i64 5))), (.t 24), (.t 28)])⟩,
      ⟨none, none, (.store 5 (.t 2) (.t 29))⟩])
    .ret))))))))⟩
theorem L37_ok : lowFn Try.prog Try.f37 [⟨7, 6, .imm⟩] = some L37 := by kernel_rfl

/-- assessor_assessorref04.read -/
def L39 : LFn := ⟨29, [(.tmp 2)], (.seq (.ops [⟨(some 2), none, (.mv (.c (.v (.string (mkS [])))))⟩])
    (.seq (.ops [⟨(some 4), none, (.mv (.t 0))⟩,
      ⟨(some 5), none, (.call (.c (.fn (.func 79) [] [])) [(.t 4)])⟩,
      ⟨(some 3), none, (.mv (.t 5))⟩])
    (.seq (.draw [⟨(some 6), none, (.mv (.t 0))⟩,
      ⟨(some 7), none, (.mv (.t 0))⟩,
      ⟨(some 8), none, (.mv (.t 0))⟩,
      ⟨(some 9), none, (.nilchk (.t 8))⟩,
      ⟨(some 10), none, (.faddr 1 (.t 9))⟩,
      ⟨(some 11), none, (.load false 1 (.t 10))⟩,
      ⟨(some 12), none, (.mv (.t 0))⟩,
      ⟨(some 13), none, (.nilchk (.t 12))⟩,
      ⟨(some 14), none, (.faddr 2 (.t 13))⟩,
      ⟨(some 15), none, (.load false 1 (.t 14))⟩,
      ⟨(some 16), none, (.iaddr 4 (.t 11) (.t 15))⟩,
      ⟨(some 17), none, (.faddr 3 (.t 16))⟩,
      ⟨(some 18), none, (.load false 1 (.t 17))⟩,
      ⟨(some 19), none, (.mv (.t 0))⟩,
      ⟨(some 20), none, (.nilchk (.t 19))⟩,
      ⟨(some 21), none, (.faddr 2 (.t 20))⟩,
      ⟨(some 22), none, (.load false 1 (.t 21))⟩,
      ⟨(some 23), none, (.bin .int .add (.t 22) (.c (.v (.int .i64 1))))⟩,
      ⟨(some 24), none, (.nilchk (.t 6))⟩,
      ⟨(some 25), none, (.faddr 3 (.t 24))⟩] [⟨none, none, (.store 1 (.t 25) (.t 18))⟩,
      ⟨(some 26), none, (.nilchk (.t 7))⟩,
      ⟨(some 27), none, (.faddr 2 (.t 26))⟩,
      ⟨none, none, (.store 1 (.t 27) (.t 23))⟩])
    (.seq (.ops [⟨(some 28), none, (.mv (.t 3))⟩,
      ⟨(some 2), none, (.mv (.t 28))⟩])
    .ret))))⟩
theorem L39_ok : lowFn Try.prog Try.f39 [⟨2, 20, .tail⟩] = some L39 := by kernel_rfl

/-- assessor_assessorref04.node -/
def L40 : LFn := ⟨57, [(.cell 10 true 5)], (.seq (.ops [⟨(some 10), none, (.alloc [(.v (.int .i64 0)), (.v (.string (mkS []))), (.v (.int .i64 0)), (.v (.int .i64 0)), (.v (.slice none 0 0))])⟩])
    (.seq (.draw [⟨(some 12), none, (.mv (.t 2))⟩,
      ⟨(some 13), none, (.mv (.t 3))⟩,
      ⟨(some 14), none, (.mv (.t 0))⟩,
      ⟨(some 15), none, (.nilchk (.t 14))⟩,
      ⟨(some 16), none, (.faddr 3 (.t 15))⟩,
      ⟨(some 17), none, (.load false 1 (.t 16))⟩,
      ⟨(some 18), none, (.mv (.t 0))⟩,
      ⟨(some 19), none, (.nilchk (.t 18))⟩,
      ⟨(some 20), none, (.faddr 3 (.t 19))⟩,
      ⟨(some 21), none, (.load false 1 (.t 20))⟩,
      ⟨(some 22), none, (.mv (.t 4))⟩,
      ⟨(some 23), none, (.build [(.v (.int .i64 0)), (.v (.string (mkS []))), (.v (.int .i64 0)), (.v (.int .i64 0)), (.v (.slice none 0 0))] [(0, (1, (.t 12))), (1, (1, (.t 13))), (2, (1, (.t 17))), (3, (1, (.t 21))), (4, (1, (.t 22)))])⟩] [⟨(some 11), none, (.alloc [(.v (.int .i64 0)), (.v (.string (mkS []))), (.v (.int .i64 0)), (.v (.int .i64 0)), (.v (.slice none 0 0))])⟩,
      ⟨none, none, (.store 5 (.t 11) (.t 23))⟩])
    (.seq (.seq (.ops [⟨(some 24), none, (.mv (.t 1))⟩,
      ⟨(some 25), none, (.mv (.t 0))⟩,
      ⟨(some 26), none, (.nilchk (.t 25))⟩,
      ⟨(some 27), none, (.faddr 2 (.t 26))⟩,
      ⟨(some 28), none, (.load false 1 (.t 27))⟩,
      ⟨(some 29), none, (.bin .int .lss (.t 24) (.t 28))⟩])
    (.cond (.t 29)
    (.ops [⟨(some 30), none, (.mv (.t 0))⟩,
      ⟨(some 31), none, (.nilchk (.t 30))⟩,
      ⟨(some 32), none, (.faddr 1 (.t 31))⟩,
      ⟨(some 33), none, (.load false 1 (.t 32))⟩,
      ⟨(some 34), none, (.mv (.t 1))⟩,
      ⟨(some 35), none, (.iaddr 4 (.t 33) (.t 34))⟩,
      ⟨(some 36), none, (.faddr 2 (.t 35))⟩,
      ⟨(some 37), none, (.load false 1 (.t 36))⟩,
      ⟨(some 38), none, (.faddr 2 (.t 11))⟩,
      ⟨none, none, (.store 1 (.t 38) (.t 37))⟩])
    .skip))
    (.seq (.seq (.draw [⟨(some 39), none, (.mv (.t 4))⟩,
      ⟨(some 40), none, (.len .slc (.t 39))⟩,
      ⟨(some 41), none, (.bin .int .gtr (.t 40) (.c (.v (.int .i64 0))))⟩,
      ⟨(some 42), none, (.mv (.t 41))⟩,
      ⟨(some 43), (some (42, true)), (.mv (.t 4))⟩,
      ⟨(some 44), (some (42, true)), (.iaddr 5 (.t 43) (.c (.v (.int .i64 0))))⟩,
      ⟨(some 45), (some (42, true)), (.faddr 2 (.t 44))⟩,
      ⟨(some 46), (some (42, true)), (.load false 1 (.t 45))⟩,
      ⟨(some 47), (some (42, true)), (.faddr 2 (.t 11))⟩,
      ⟨(some 48), (some (42, true)), (.load false 1 (.t 47))⟩,
      ⟨(some 49), (some (42, true)), (.bin .int .lss (.t 46) (.t 48))⟩,
      ⟨(some 50), none, (.pick (.t 42) (.t 49) (.c (.v (.bool false))))⟩] [])
    (.cond (.t 50)
    (.ops [⟨(some 51), none, (.mv (.t 4))⟩,
      ⟨(some 52), none, (.iaddr 5 (.t 51) (.c (.v (.int .i64 0))))⟩,
      ⟨(some 53), none, (.faddr 2 (.t 52))⟩,
      ⟨(some 54), none, (.load false 1 (.t 53))⟩,
      ⟨(some 55), none, (.faddr 2 (.t 11))⟩,
      ⟨none, none, (.store 1 (.t 55) (.t 54))⟩])
    .skip))
    (.seq (.ops [⟨(some 56), none, (.load true 5 (.t 11))⟩,
      ⟨(some 56), none, (.frzf 5 4 (.t 56))⟩,
      ⟨none, none, (.store 5 (.t 10) (.t 56))⟩])
    .ret)))))⟩
theorem L40_ok : lowFn Try.prog Try.f40 [⟨6, 1, (.pre 56 (.frzf 5 4 (.t 56)))⟩, ⟨1, 12, .tail⟩] = some L40 := by kernel_rfl

/-- assessor_assessorref04.merged -/
def L41 : LFn := ⟨51, [(.tmp 4)], (.seq (.ops [⟨(some 4), none, (.mv (.c (.v (.slice none 0 0))))⟩])
    (.seq (.ops [⟨(some 6), none, (.bsl false 5 0 [(.v (.int .i64 0)), (.v (.int .i64 0)), (.v (.int .i64 0)), (.v (.string (mkS []))), (.v (.slice none 0 0))] [])⟩,
      ⟨(some 5), none, (.mv (.t 6))⟩])
    (.seq (.block 0 (.loop (.seq (.seq (.ops [⟨(some 7), none, (.mv (.t 0))⟩,
      ⟨(some 8), none, (.len .slc (.t 7))⟩,
      ⟨(some 9), none, (.bin .int .gtr (.t 8) (.c (.v (.int .i64 0))))⟩,
      ⟨(some 10), none, (.mv (.t 9))⟩,
      ⟨(some 11), (some (10, false)), (.mv (.t 1))⟩,
      ⟨(some 12), (some (10, false)), (.len .slc (.t 11))⟩,
      ⟨(some 13), (some (10, false)), (.bin .int .gtr (.t 12) (.c (.v (.int .i64 0))))⟩,
      ⟨(some 14), none, (.pick (.t 10) (.c (.v (.bool true))) (.t 13))⟩])
    (.cond (.t 14)
    .skip
    (.exit 0)))
    (.block 1 (.seq (.draw [⟨(some 15), none, (.mv (.t 1))⟩,
      ⟨(some 16), none, (.len .slc (.t 15))⟩,
      ⟨(some 17), none, (.bin .int .eql (.t 16) (.c (.v (.int .i64 0))))⟩,
      ⟨(some 18), none, (.mv (.t 17))⟩,
      ⟨(some 19), (some (18, false)), (.mv (.t 0))⟩,
      ⟨(some 20), (some (18, false)), (.len .slc (.t 19))⟩,
      ⟨(some 21), (some (18, false)), (.bin .int .gtr (.t 20) (.c (.v (.int .i64 0))))⟩,
      ⟨(some 22), (some (18, false)), (.mv (.t 21))⟩,
      ⟨(some 23), (some (22, true)), (.mv (.t 0))⟩,
      ⟨(some 24), (some (22, true)), (.iaddr 5 (.t 23) (.c (.v (.int .i64 0))))⟩,
      ⟨(some 25), (some (22, true)), (.faddr 1 (.t 24))⟩,
      ⟨(some 26), (some (22, true)), (.load false 1 (.t 25))⟩,
      ⟨(some 27), (some (22, true)), (.mv (.t 1))⟩,
      ⟨(some 28), (some (22, true)), (.iaddr 5 (.t 27) (.c (.v (.int .i64 0))))⟩,
      ⟨(some 29), (some (22, true)), (.faddr 1 (.t 28))⟩,
      ⟨(some 30), (some (22, true)), (.load false 1 (.t 29))⟩,
      ⟨(some 31), (some (22, true)), (.bin .int .leq (.t 26) (.t 30))⟩,
      ⟨(some 32), (some (18, false)), (.pick (.t 22) (.t 31) (.c (.v (.bool false))))⟩,
      ⟨(some 33), none, (.pick (.t 18) (.c (.v (.bool true))) (.t 32))⟩] [])
    (.cond (.t 33)
    (.draw [⟨(some 34), none, (.mv (.t 5))⟩,
      ⟨(some 35), none, (.mv (.t 0))⟩,
      ⟨(some 36), none, (.iaddrv 5 (.t 35) (.c (.v (.int .i64 0))))⟩,
      ⟨(some 37), none, (.loadb true 5 (.t 36))⟩,
      ⟨(some 38), none, (.bsl true 5 1 [(.v (.int .i64 0)), (.v (.int .i64 0)), (.v (.int .i64 0)), (.v (.string (mkS []))), (.v (.slice none 0 0))] [(0, (.t 37))])⟩,
      ⟨(some 40), none, (.mv (.t 0))⟩,
      ⟨(some 41), none, (.slicev .slc 5 (.t 40) (some (.c (.v (.int .i64 1)))) none)⟩] [⟨(some 39), none, (.append 5 64 (.t 34) (.t 38))⟩,
      ⟨(some 5), none, (.mv (.t 39))⟩,
      ⟨(some 0), none, (.mv (.t 41))⟩])
    (.draw [⟨(some 42), none, (.mv (.t 5))⟩,
      ⟨(some 43), none, (.mv (.t 1))⟩,
      ⟨(some 44), none, (.iaddrv 5 (.t 43) (.c (.v (.int .i64 0))))⟩,
      ⟨(some 45), none, (.loadb true 5 (.t 44))⟩,
      ⟨(some 46), none, (.bsl true 5 1 [(.v (.int .i64 0)), (.v (.int .i64 0)), (.v (.int .i64 0)), (.v (.string (mkS []))), (.v (.slice none 0 0))] [(0, (.t 45))])⟩,
      ⟨(some 48), none, (.mv (.t 1))⟩,
      ⟨(some 49), none, (.slicev .slc 5 (.t 48) (some (.c (.v (.int .i64 1)))) none)⟩] [⟨(some 47), none, (.append 5 64 (.t 42) (.t 46))⟩,
      ⟨(some 5), none, (.mv (.t 47))⟩,
      ⟨(some 1), none, (.mv (.t 49))⟩])))))))
    (.seq (.ops [⟨(some 50), none, (.mv (.t 5))⟩,
      ⟨(some 4), none, (.mv (.t 50))⟩,
      ⟨(some 4), none, (.frz (.t 4))⟩])
    .ret))))⟩
theorem L41_ok : lowFn Try.prog Try.f41 [⟨4, 2, .imm⟩, ⟨4, 3, .imm⟩, ⟨4, 6, .imm⟩, ⟨5, 2, .imm⟩, ⟨5, 3, .imm⟩, ⟨5, 6, .imm⟩, ⟨4, 0, (.perm [0, 1, 2, 3, 4, 6, 7, 5, 8, 9])⟩, ⟨4, 4, .imm⟩, ⟨5, 0, (.perm [0, 1, 2, 3, 4, 6, 7, 5, 8, 9])⟩, ⟨5, 4, .imm⟩, ⟨6, 2, (.pre 4 (.frz (.t 4)))⟩, ⟨4, 7, .tail⟩, ⟨5, 7, .tail⟩] = some L41 := by kernel_rfl

/-- assessor_assessorref04.lexical -/
def L42 : LFn := ⟨89, [(.tmp 2)], (.seq (.ops [⟨(some 2), none, (.mv (.c (.v (.slice none 0 0))))⟩])
    (.seq (.ops [⟨(some 10), none, (.bsl false 5 0 [(.v (.int .i64 0)), (.v (.int .i64 0)), (.v (.int .i64 0)), (.v (.string (mkS []))), (.v (.slice none 0 0))] [])⟩,
      ⟨(some 3), none, (.mv (.t 10))⟩])
    (.seq (.ops [⟨(some 12), none, (.mv (.t 0))⟩,
      ⟨(some 13), none, (.call (.c (.fn (.func 20) [] [])) [(.t 12)])⟩,
      ⟨(some 11), none, (.mv (.t 13))⟩,
      ⟨(some 14), none, (.ext (.t 11) 0)⟩,
      ⟨(some 15), none, (.ext (.t 11) 1)⟩,
      ⟨(some 4), none, (.mv (.t 14))⟩,
      ⟨(some 5), none, (.mv (.t 15))⟩])
    (.seq (.seq (.ops [⟨(some 6), none, (.mv (.c (.v (.int .i64 0))))⟩])
    (.block 0 (.loop (.seq (.seq (.ops [⟨(some 16), none, (.mv (.t 6))⟩,
      ⟨(some 17), none, (.mv (.t 4))⟩,
      ⟨(some 18), none, (.len .slc (.t 17))⟩,
      ⟨(some 19), none, (.bin .int .lss (.t 16) (.t 18))⟩])
    (.cond (.t 19)
    .skip
    (.exit 0)))
    (.seq (.block 1 (.seq (.ops [⟨(some 7), none, (.mv (.c (.v (.int .i64 0))))⟩])
    (.seq (.ops [⟨(some 23), none, (.mv (.t 0))⟩,
      ⟨(some 24), none, (.mv (.t 4))⟩,
      ⟨(some 25), none, (.mv (.t 6))⟩,
      ⟨(some 26), none, (.iaddr 4 (.t 24) (.t 25))⟩,
      ⟨(some 27), none, (.load true 4 (.t 26))⟩,
      ⟨(some 28), none, (.call (.c (.fn (.func 88) [] [])) [(.t 23), (.t 27)])⟩,
      ⟨(some 29), none, (.call (.c (.fn (.func 87) [] [])) [(.t 28)])⟩,
      ⟨(some 22), none, (.mv (.t 29))⟩,
      ⟨(some 30), none, (.ext (.t 22) 0)⟩,
      ⟨(some 31), none, (.ext (.t 22) 1)⟩,
      ⟨(some 8), none, (.mv (.t 30))⟩,
      ⟨(some 9), none, (.mv (.t 31))⟩])
    (.seq (.block 2 (.seq (.ops [⟨(some 33), none, (.mv (.t 4))⟩,
      ⟨(some 34), none, (.mv (.t 6))⟩,
      ⟨(some 35), none, (.iaddr 4 (.t 33) (.t 34))⟩,
      ⟨(some 36), none, (.faddr 0 (.t 35))⟩,
      ⟨(some 37), none, (.load false 1 (.t 36))⟩,
      ⟨(some 38), none, (.bin .int .eql (.t 37) (.c (.v (.int .i64 4))))⟩,
      ⟨(some 32), none, (.mv (.t 38))⟩])
    (.cond (.t 32)
    (.ops [⟨(some 7), none, (.mv (.c (.v (.int .i64 1))))⟩])
    (.seq (.ops [⟨(some 40), none, (.mv (.t 4))⟩,
      ⟨(some 41), none, (.mv (.t 6))⟩,
      ⟨(some 42), none, (.iaddr 4 (.t 40) (.t 41))⟩,
      ⟨(some 43), none, (.faddr 0 (.t 42))⟩,
      ⟨(some 44), none, (.load false 1 (.t 43))⟩,
      ⟨(some 45), none, (.bin .int .eql (.t 44) (.c (.v (.int .i64 2))))⟩,
      ⟨(some 46), none, (.mv (.t 45))⟩,
      ⟨(some 47), (some (46, true)), (.mv (.t 9))⟩,
      ⟨(some 48), (some (46, true)), (.not (.t 47))⟩,
      ⟨(some 49), none, (.pick (.t 46) (.t 48) (.c (.v (.bool false))))⟩,
      ⟨(some 39), none, (.mv (.t 49))⟩])
    (.cond (.t 39)
    (.ops [⟨(some 7), none, (.mv (.c (.v (.int .i64 2))))⟩])
    (.seq (.draw [⟨(some 51), none, (.mv (.t 4))⟩,
      ⟨(some 52), none, (.mv (.t 6))⟩,
      ⟨(some 53), none, (.iaddr 4 (.t 51) (.t 52))⟩,
      ⟨(some 54), none, (.faddr 0 (.t 53))⟩,
      ⟨(some 55), none, (.load false 1 (.t 54))⟩,
      ⟨(some 56), none, (.bin .int .eql (.t 55) (.c (.v (.int .i64 0))))⟩,
      ⟨(some 57), none, (.mv (.t 56))⟩,
      ⟨(some 58), (some (57, true)), (.mv (.t 4))⟩,
      ⟨(some 59), (some (57, true)), (.mv (.t 6))⟩,
      ⟨(some 60), (some (57, true)), (.iaddr 4 (.t 58) (.t 59))⟩,
      ⟨(some 61), (some (57, true)), (.faddr 3 (.t 60))⟩,
      ⟨(some 62), (some (57, true)), (.load false 1 (.t 61))⟩,
      ⟨(some 63), (some (57, true)), (.mv (.t 4))⟩,
      ⟨(some 64), (some (57, true)), (.mv (.t 6))⟩,
      ⟨(some 65), (some (57, true)), (.iaddr 4 (.t 63) (.t 64))⟩,
      ⟨(some 66), (some (57, true)), (.faddr 2 (.t 65))⟩,
      ⟨(some 67), (some (57, true)), (.load false 1 (.t 66))⟩,
      ⟨(some 68), (some (57, true)), (.bin .int .sub (.t 62) (.t 67))⟩,
      ⟨(some 69), (some (57, true)), (.bin .int .gtr (.t 68) (.c (.v (.int .i64 16))))⟩,
      ⟨(some 70), none, (.pick (.t 57) (.t 69) (.c (.v (.bool false))))⟩,
      ⟨(some 50), none, (.mv (.t 70))⟩] [])
    (.cond (.t 50)
    (.ops [⟨(some 7), none, (.mv (.c (.v (.int .i64 3))))⟩])
    .skip)))))))
    (.seq (.ops [⟨(some 71), none, (.mv (.t 7))⟩,
      ⟨(some 72), none, (.bin .int .gtr (.t 71) (.c (.v (.int .i64 0))))⟩])
    (.cond (.t 72)
    (.draw [⟨(some 73), none, (.mv (.t 3))⟩,
      ⟨(some 74), none, (.mv (.t 7))⟩,
      ⟨(some 75), none, (.mv (.t 4))⟩,
      ⟨(some 76), none, (.mv (.t 6))⟩,
      ⟨(some 77), none, (.iaddr 4 (.t 75) (.t 76))⟩,
      ⟨(some 78), none, (.faddr 2 (.t 77))⟩,
      ⟨(some 79), none, (.load false 1 (.t 78))⟩,
      ⟨(some 80), none, (.mv (.t 4))⟩,
      ⟨(some 81), none, (.mv (.t 6))⟩,
      ⟨(some 82), none, (.iaddr 4 (.t 80) (.t 81))⟩,
      ⟨(some 83), none, (.faddr 3 (.t 82))⟩,
      ⟨(some 84), none, (.load false 1 (.t 83))⟩,
      ⟨(some 85), none, (.build [(.v (.int .i64 0)), (.v (.int .i64 0)), (.v (.int .i64 0)), (.v (.string (mkS []))), (.v (.slice none 0 0))] [(0, (1, (.t 74))), (1, (1, (.t 79))), (2, (1, (.t 84)))])⟩,
      ⟨(some 86), none, (.bsl true 5 1 [(.v (.int .i64 0)), (.v (.int .i64 0)), (.v (.int .i64 0)), (.v (.string (mkS []))), (.v (.slice none 0 0))] [(0, (.t 85))])⟩] [⟨(some 87), none, (.append 5 64 (.t 73) (.t 86))⟩,
      ⟨(some 3), none, (.mv (.t 87))⟩])
    .skip))))))
    (.ops [⟨(some 20), none, (.mv (.t 6))⟩,
      ⟨(some 21), none, (.bin .int .add (.t 20) (.c (.v (.int .i64 1))))⟩,
      ⟨(some 6), none, (.mv (.t 21))⟩]))))))
    (.seq (.ops [⟨(some 88), none, (.mv (.t 3))⟩,
      ⟨(some 2), none, (.mv (.t 88))⟩,
      ⟨(some 2), none, (.frz (.t 2))⟩])
    .ret)))))⟩
theorem L42_ok : lowFn Try.prog Try.f42 [⟨15, 13, .imm⟩, ⟨16, 2, (.pre 2 (.frz (.t 2)))⟩, ⟨15, 14, .tail⟩] = some L42 := by kernel_rfl

/-- assessor_assessorref04.next -/
def L79 : LFn := ⟨18, [(.tmp 2)], (.seq (.ops [⟨(some 2), none, (.mv (.c (.v (.string (mkS [])))))⟩])
    (.seq (.draw [⟨(some 3), none, (.mv (.t 0))⟩,
      ⟨(some 4), none, (.nilchk (.t 3))⟩,
      ⟨(some 5), none, (.faddr 0 (.t 4))⟩,
      ⟨(some 6), none, (.load false 1 (.t 5))⟩,
      ⟨(some 7), none, (.mv (.t 0))⟩,
      ⟨(some 8), none, (.nilchk (.t 7))⟩,
      ⟨(some 9), none, (.faddr 1 (.t 8))⟩,
      ⟨(some 10), none, (.load false 1 (.t 9))⟩,
      ⟨(some 11), none, (.mv (.t 0))⟩,
      ⟨(some 12), none, (.nilchk (.t 11))⟩,
      ⟨(some 13), none, (.faddr 2 (.t 12))⟩,
      ⟨(some 14), none, (.load false 1 (.t 13))⟩,
      ⟨(some 15), none, (.iaddr 4 (.t 10) (.t 14))⟩,
      ⟨(some 16), none, (.load true 4 (.t 15))⟩,
      ⟨(some 17), none, (.call (.c (.fn (.func 88) [] [])) [(.t 6), (.t 16)])⟩,
      ⟨(some 2), none, (.mv (.t 17))⟩] [])
    .ret))⟩
theorem L79_ok : lowFn Try.prog Try.f79 [] = some L79 := by kernel_rfl

/-- assessor_assessorref04.name -/
def L80 : LFn := ⟨10, [(.tmp 2)], (.seq (.ops [⟨(some 2), none, (.mv (.c (.v (.string (mkS [])))))⟩])
    (.seq (.seq (.ops [⟨(some 3), none, (.mv (.t 0))⟩,
      ⟨(some 4), none, (.call (.c (.fn (.func 34) [] [])) [(.t 3)])⟩,
      ⟨(some 5), none, (.bin .int .eql (.t 4) (.c (.v (.int .i64 0))))⟩])
    (.cond (.t 5)
    (.seq (.ops [⟨(some 6), none, (.mv (.t 0))⟩,
      ⟨(some 7), none, (.call (.c (.fn (.func 39) [] [])) [(.t 6)])⟩,
      ⟨(some 2), none, (.mv (.t 7))⟩])
    .ret)
    .skip))
    (.seq (.ops [⟨(some 8), none, (.mv (.t 0))⟩,
      ⟨(some 9), none, (.call (.c (.fn (.func 38) [] [])) [(.t 8), (.c (.v (.int .i64 4))), (.c (.v (.string (mkS [110, 97, 109, 101]))))])⟩])
    (.seq (.ops [⟨(some 2), none, (.mv (.c (.v (.string (mkS [])))))⟩])
    .ret))))⟩
theorem L80_ok : lowFn Try.prog Try.f80 [] = some L80 := by kernel_rfl

/-- assessor_assessorref04.expect -/
def L81 : LFn := ⟨11, [(.tmp 4)], (.seq (.ops [⟨(some 4), none, (.mv (.c (.v (.bool false))))⟩])
    (.seq (.seq (.ops [⟨(some 5), none, (.mv (.t 0))⟩,
      ⟨(some 6), none, (.mv (.t 1))⟩,
      ⟨(some 7), none, (.call (.c (.fn (.func 83) [] [])) [(.t 5), (.t 6)])⟩])
    (.cond (.t 7)
    (.seq (.ops [⟨(some 4), none, (.mv (.c (.v (.bool true))))⟩])
    .ret)
    .skip))
    (.seq (.ops [⟨(some 8), none, (.mv (.t 0))⟩,
      ⟨(some 9), none, (.mv (.t 1))⟩,
      ⟨(some 10), none, (.call (.c (.fn (.func 38) [] [])) [(.t 8), (.c (.v (.int .i64 4))), (.t 9)])⟩])
    (.seq (.ops [⟨(some 4), none, (.mv (.c (.v (.bool false))))⟩])
    .ret))))⟩
theorem L81_ok : lowFn Try.prog Try.f81 [] = some L81 := by kernel_rfl

/-- assessor_assessorref04.accept -/
def L83 : LFn := ⟨10, [(.tmp 4)], (.seq (.ops [⟨(some 4), none, (.mv (.c (.v (.bool false))))⟩])
    (.seq (.seq (.ops [⟨(some 5), none, (.mv (.t 0))⟩,
      ⟨(some 6), none, (.mv (.t 1))⟩,
      ⟨(some 7), none, (.call (.c (.fn (.func 35) [] [])) [(.t 5), (.t 6)])⟩])
    (.cond (.t 7)
    (.seq (.ops [⟨(some 8), none, (.mv (.t 0))⟩,
      ⟨(some 9), none, (.call (.c (.fn (.func 39) [] [])) [(.t 8)])⟩])
    (.seq (.ops [⟨(some 4), none, (.mv (.c (.v (.bool true))))⟩])
    .ret))
    .skip))
    (.seq (.ops [⟨(some 4), none, (.mv (.c (.v (.bool false))))⟩])
    .ret)))⟩
theorem L83_ok : lowFn Try.prog Try.f83 [] = some L83 := by kernel_rfl

/-- assessor_assessorref04.parameters -/
def L84 : LFn := ⟨33, [(.cell 2 true 5)], (.seq (.ops [⟨(some 2), none, (.alloc [(.v (.int .i64 0)), (.v (.string (mkS []))), (.v (.int .i64 0)), (.v (.int .i64 0)), (.v (.slice none 0 0))])⟩])
    (.seq (.ops [⟨(some 5), none, (.mv (.t 0))⟩,
      ⟨(some 6), none, (.nilchk (.t 5))⟩,
      ⟨(some 7), none, (.faddr 2 (.t 6))⟩,
      ⟨(some 8), none, (.load false 1 (.t 7))⟩,
      ⟨(some 3), none, (.mv (.t 8))⟩])
    (.seq (.ops [⟨(some 9), none, (.bsl false 5 0 [(.v (.int .i64 0)), (.v (.string (mkS []))), (.v (.int .i64 0)), (.v (.int .i64 0)), (.v (.slice none 0 0))] [])⟩,
      ⟨(some 4), none, (.mv (.t 9))⟩])
    (.seq (.ops [⟨(some 10), none, (.mv (.t 0))⟩,
      ⟨(some 11), none, (.call (.c (.fn (.func 81) [] [])) [(.t 10), (.c (.v (.string (mkS [40]))))])⟩])
    (.seq (.seq (.ops [⟨(some 12), none, (.mv (.t 0))⟩,
      ⟨(some 13), none, (.call (.c (.fn (.func 35) [] [])) [(.t 12), (.c (.v (.string (mkS [41]))))])⟩,
      ⟨(some 14), none, (.not (.t 13))⟩])
    (.cond (.t 14)
    (.seq (.ops [⟨(some 15), none, (.mv (.t 4))⟩,
      ⟨(some 16), none, (.mv (.t 0))⟩,
      ⟨(some 17), none, (.call (.c (.fn (.func 105) [] [])) [(.t 16)])⟩,
      ⟨(some 18), none, (.bsl true 5 1 [(.v (.int .i64 0)), (.v (.string (mkS []))), (.v (.int .i64 0)), (.v (.int .i64 0)), (.v (.slice none 0 0))] [(0, (.t 17))])⟩,
      ⟨(some 19), none, (.append 5 64 (.t 15) (.t 18))⟩,
      ⟨(some 4), none, (.mv (.t 19))⟩])
    (.block 0 (.loop (.seq (.seq (.ops [⟨(some 20), none, (.mv (.t 0))⟩,
      ⟨(some 21), none, (.call (.c (.fn (.func 83) [] [])) [(.t 20), (.c (.v (.string (mkS [44]))))])⟩])
    (.cond (.t 21)
    .skip
    (.exit 0)))
    (.block 1 (.ops [⟨(some 22), none, (.mv (.t 4))⟩,
      ⟨(some 23), none, (.mv (.t 0))⟩,
      ⟨(some 24), none, (.call (.c (.fn (.func 105) [] [])) [(.t 23)])⟩,
      ⟨(some 25), none, (.bsl true 5 1 [(.v (.int .i64 0)), (.v (.string (mkS []))), (.v (.int .i64 0)), (.v (.int .i64 0)), (.v (.slice none 0 0))] [(0, (.t 24))])⟩,
      ⟨(some 26), none, (.append 5 64 (.t 22) (.t 25))⟩,
      ⟨(some 4), none, (.mv (.t 26))⟩]))))))
    .skip))
    (.seq (.ops [⟨(some 27), none, (.mv (.t 0))⟩,
      ⟨(some 28), none, (.call (.c (.fn (.func 81) [] [])) [(.t 27), (.c (.v (.string (mkS [41]))))])⟩])
    (.seq (.ops [⟨(some 29), none, (.mv (.t 0))⟩,
      ⟨(some 30), none, (.mv (.t 3))⟩,
      ⟨(some 31), none, (.mv (.t 4))⟩,
      ⟨(some 32), none, (.call (.c (.fn (.func 40) [] [])) [(.t 29), (.t 30), (.c (.v (.int .i64 6))), (.c (.v (.string (mkS [])))), (.t 31)])⟩,
      ⟨none, none, (.store 5 (.t 2) (.t 32))⟩])
    .ret)))))))⟩
theorem L84_ok : lowFn Try.prog Try.f84 [⟨5, 3, .imm⟩, ⟨7, 3, .imm⟩] = some L84 := by kernel_rfl

/-- assessor_assessorref04.optional -/
def L85 : LFn := ⟨13, [(.cell 2 true 5)], (.seq (.ops [⟨(some 2), none, (.alloc [(.v (.int .i64 0)), (.v (.string (mkS []))), (.v (.int .i64 0)), (.v (.int .i64 0)), (.v (.slice none 0 0))])⟩])
    (.seq (.seq (.ops [⟨(some 3), none, (.mv (.t 0))⟩,
      ⟨(some 4), none, (.call (.c (.fn (.func 83) [] [])) [(.t 3), (.c (.v (.string (mkS [58]))))])⟩])
    (.cond (.t 4)
    (.seq (.ops [⟨(some 5), none, (.mv (.t 0))⟩,
      ⟨(some 6), none, (.call (.c (.fn (.func 106) [] [])) [(.t 5)])⟩,
      ⟨none, none, (.store 5 (.t 2) (.t 6))⟩])
    .ret)
    .skip))
    (.seq (.ops [⟨(some 7), none, (.mv (.t 0))⟩,
      ⟨(some 8), none, (.mv (.t 0))⟩,
      ⟨(some 9), none, (.nilchk (.t 8))⟩,
      ⟨(some 10), none, (.faddr 2 (.t 9))⟩,
      ⟨(some 11), none, (.load false 1 (.t 10))⟩,
      ⟨(some 12), none, (.call (.c (.fn (.func 40) [] [])) [(.t 7), (.t 11), (.c (.v (.int .i64 0))), (.c (.v (.string (mkS [])))), (.c (.v (.slice none 0 0)))])⟩,
      ⟨none, none, (.store 5 (.t 2) (.t 12))⟩])
    .ret)))⟩
theorem L85_ok : lowFn Try.prog Try.f85 [] = some L85 := by kernel_rfl

/-- assessor_assessorref04.block -/
def L86 : LFn := ⟨30, [(.cell 2 true 5)], (.seq (.ops [⟨(some 2), none, (.alloc [(.v (.int .i64 0)), (.v (.string (mkS []))), (.v (.int .i64 0)), (.v (.int .i64 0)), (.v (.slice none 0 0))])⟩])
    (.seq (.ops [⟨(some 5), none, (.mv (.t 0))⟩,
      ⟨(some 6), none, (.nilchk (.t 5))⟩,
      ⟨(some 7), none, (.faddr 2 (.t 6))⟩,
      ⟨(some 8), none, (.load false 1 (.t 7))⟩,
      ⟨(some 3), none, (.mv (.t 8))⟩])
    (.seq (.ops [⟨(some 9), none, (.bsl false 5 0 [(.v (.int .i64 0)), (.v (.string (mkS []))), (.v (.int .i64 0)), (.v (.int .i64 0)), (.v (.slice none 0 0))] [])⟩,
      ⟨(some 4), none, (.mv (.t 9))⟩])
    (.seq (.seq (.ops [⟨(some 10), none, (.mv (.t 0))⟩,
      ⟨(some 11), none, (.call (.c (.fn (.func 81) [] [])) [(.t 10), (.c (.v (.string (mkS [123]))))])⟩,
      ⟨(some 12), none, (.not (.t 11))⟩])
    (.cond (.t 12)
    (.seq (.ops [⟨(some 13), none, (.mv (.t 0))⟩,
      ⟨(some 14), none, (.mv (.t 3))⟩,
      ⟨(some 15), none, (.call (.c (.fn (.func 40) [] [])) [(.t 13), (.t 14), (.c (.v (.int .i64 11))), (.c (.v (.string (mkS [])))), (.c (.v (.slice none 0 0)))])⟩,
      ⟨none, none, (.store 5 (.t 2) (.t 15))⟩])
    .ret)
    .skip))
    (.seq (.block 0 (.loop (.seq (.seq (.ops [⟨(some 16), none, (.mv (.t 0))⟩,
      ⟨(some 17), none, (.call (.c (.fn (.func 107) [] [])) [(.t 16)])⟩,
      ⟨(some 18), none, (.not (.t 17))⟩])
    (.cond (.t 18)
    .skip
    (.exit 0)))
    (.block 1 (.ops [⟨(some 19), none, (.mv (.t 4))⟩,
      ⟨(some 20), none, (.mv (.t 0))⟩,
      ⟨(some 21), none, (.call (.c (.fn (.func 108) [] [])) [(.t 20)])⟩,
      ⟨(some 22), none, (.bsl true 5 1 [(.v (.int .i64 0)), (.v (.string (mkS []))), (.v (.int .i64 0)), (.v (.int .i64 0)), (.v (.slice none 0 0))] [(0, (.t 21))])⟩,
      ⟨(some 23), none, (.append 5 64 (.t 19) (.t 22))⟩,
      ⟨(some 4), none, (.mv (.t 23))⟩])))))
    (.seq (.ops [⟨(some 24), none, (.mv (.t 0))⟩,
      ⟨(some 25), none, (.call (.c (.fn (.func 81) [] [])) [(.t 24), (.c (.v (.string (mkS [125]))))])⟩])
    (.seq (.ops [⟨(some 26), none, (.mv (.t 0))⟩,
      ⟨(some 27), none, (.mv (.t 3))⟩,
      ⟨(some 28), none, (.mv (.t 4))⟩,
      ⟨(some 29), none, (.call (.c (.fn (.func 40) [] [])) [(.t 26), (.t 27), (.c (.v (.int .i64 11))), (.c (.v (.string (mkS [])))), (.t 28)])⟩,
      ⟨none, none, (.store 5 (.t 2) (.t 29))⟩])
    .ret)))))))⟩
theorem L86_ok : lowFn Try.prog Try.f86 [⟨6, 3, .imm⟩] = some L86 := by kernel_rfl

/-- assessor_assessorref04.Word -/
def L88 : LFn := ⟨11, [(.tmp 4)], (.seq (.ops [⟨(some 3), none, (.box false (.t 1))⟩,
      ⟨(some 4), none, (.mv (.c (.v (.string (mkS [])))))⟩])
    (.seq (.ops [⟨(some 5), none, (.mv (.t 0))⟩,
      ⟨(some 6), none, (.faddr 2 (.t 3))⟩,
      ⟨(some 7), none, (.load false 1 (.t 6))⟩,
      ⟨(some 8), none, (.faddr 3 (.t 3))⟩,
      ⟨(some 9), none, (.load false 1 (.t 8))⟩,
      ⟨(some 10), none, (.slice .str 1 (.t 5) (some (.t 7)) (some (.t 9)))⟩,
      ⟨(some 4), none, (.mv (.t 10))⟩])
    .ret))⟩
theorem L88_ok : lowFn Try.prog Try.f88 [] = some L88 := by kernel_rfl

/-- assessor_assessorref04.parameter -/
def L105 : LFn := ⟨24, [(.cell 2 true 5)], (.seq (.ops [⟨(some 2), none, (.alloc [(.v (.int .i64 0)), (.v (.string (mkS []))), (.v (.int .i64 0)), (.v (.int .i64 0)), (.v (.slice none 0 0))])⟩])
    (.seq (.ops [⟨(some 7), none, (.mv (.t 0))⟩,
      ⟨(some 8), none, (.nilchk (.t 7))⟩,
      ⟨(some 9), none, (.faddr 2 (.t 8))⟩,
      ⟨(some 10), none, (.load false 1 (.t 9))⟩,
      ⟨(some 3), none, (.mv (.t 10))⟩,
      ⟨(some 4), none, (.mv (.c (.v (.int .i64 7))))⟩])
    (.seq (.seq (.ops [⟨(some 11), none, (.mv (.t 0))⟩,
      ⟨(some 12), none, (.call (.c (.fn (.func 83) [] [])) [(.t 11), (.c (.v (.string (mkS [118, 97, 114]))))])⟩])
    (.cond (.t 12)
    (.ops [⟨(some 4), none, (.mv (.c (.v (.int .i64 8))))⟩])
    .skip))
    (.seq (.ops [⟨(some 13), none, (.mv (.t 0))⟩,
      ⟨(some 14), none, (.call (.c (.fn (.func 80) [] [])) [(.t 13)])⟩,
      ⟨(some 5), none, (.mv (.t 14))⟩])
    (.seq (.ops [⟨(some 15), none, (.mv (.t 0))⟩,
      ⟨(some 16), none, (.call (.c (.fn (.func 85) [] [])) [(.t 15)])⟩,
      ⟨(some 6), none, (.alloc [(.v (.int .i64 0)), (.v (.string (mkS []))), (.v (.int .i64 0)), (.v (.int .i64 0)), (.v (.slice none 0 0))])⟩,
      ⟨none, none, (.store 5 (.t 6) (.t 16))⟩])
    (.seq (.ops [⟨(some 17), none, (.mv (.t 0))⟩,
      ⟨(some 18), none, (.mv (.t 3))⟩,
      ⟨(some 19), none, (.mv (.t 4))⟩,
      ⟨(some 20), none, (.mv (.t 5))⟩,
      ⟨(some 21), none, (.load true 5 (.t 6))⟩,
      ⟨(some 22), none, (.bsl true 5 1 [(.v (.int .i64 0)), (.v (.string (mkS []))), (.v (.int .i64 0)), (.v (.int .i64 0)), (.v (.slice none 0 0))] [(0, (.t 21))])⟩,
      ⟨(some 23), none, (.call (.c (.fn (.func 40) [] [])) [(.t 17), (.t 18), (.t 19), (.t 20), (.t 22)])⟩,
      ⟨none, none, (.store 5 (.t 2) (.t 23))⟩])
    .ret))))))⟩
theorem L105_ok : lowFn Try.prog Try.f105 [⟨6, 5, .imm⟩] = some L105 := by kernel_rfl

/-- assessor_assessorref04.typ -/
def L106 : LFn := ⟨52, [(.cell 2 true 5)], (.seq (.ops [⟨(some 2), none, (.alloc [(.v (.int .i64 0)), (.v (.string (mkS []))), (.v (.int .i64 0)), (.v (.int .i64 0)), (.v (.slice none 0 0))])⟩])
    (.seq (.ops [⟨(some 5), none, (.mv (.t 0))⟩,
      ⟨(some 6), none, (.nilchk (.t 5))⟩,
      ⟨(some 7), none, (.faddr 2 (.t 6))⟩,
      ⟨(some 8), none, (.load false 1 (.t 7))⟩,
      ⟨(some 3), none, (.mv (.t 8))⟩])
    (.seq (.block 0 (.seq (.ops [⟨(some 10), none, (.mv (.t 0))⟩,
      ⟨(some 11), none, (.call (.c (.fn (.func 83) [] [])) [(.t 10), (.c (.v (.string (mkS [98, 111, 111, 108]))))])⟩,
      ⟨(some 9), none, (.mv (.t 11))⟩])
    (.cond (.t 9)
    (.seq (.ops [⟨(some 12), none, (.mv (.t 0))⟩,
      ⟨(some 13), none, (.mv (.t 3))⟩,
      ⟨(some 14), none, (.call (.c (.fn (.func 40) [] [])) [(.t 12), (.t 13), (.c (.v (.int .i64 9))), (.c (.v (.string (mkS [98, 111, 111, 108])))), (.c (.v (.slice none 0 0)))])⟩,
      ⟨none, none, (.store 5 (.t 2) (.t 14))⟩])
    .ret)
    (.seq (.ops [⟨(some 16), none, (.mv (.t 0))⟩,
      ⟨(some 17), none, (.call (.c (.fn (.func 83) [] [])) [(.t 16), (.c (.v (.string (mkS [105, 110, 116]))))])⟩,
      ⟨(some 15), none, (.mv (.t 17))⟩])
    (.cond (.t 15)
    (.seq (.seq (.ops [⟨(some 18), none, (.mv (.t 0))⟩,
      ⟨(some 19), none, (.call (.c (.fn (.func 83) [] [])) [(.t 18), (.c (.v (.string (mkS [91]))))])⟩,
      ⟨(some 20), none, (.not (.t 19))⟩])
    (.cond (.t 20)
    (.seq (.ops [⟨(some 21), none, (.mv (.t 0))⟩,
      ⟨(some 22), none, (.mv (.t 3))⟩,
      ⟨(some 23), none, (.call (.c (.fn (.func 40) [] [])) [(.t 21), (.t 22), (.c (.v (.int .i64 9))), (.c (.v (.string (mkS [105, 110, 116])))), (.c (.v (.slice none 0 0)))])⟩,
      ⟨none, none, (.store 5 (.t 2) (.t 23))⟩])
    .ret)
    .skip))
    (.seq (.ops [⟨(some 4), none, (.mv (.c (.v (.string (mkS [])))))⟩])
    (.seq (.seq (.ops [⟨(some 24), none, (.mv (.t 0))⟩,
      ⟨(some 25), none, (.call (.c (.fn (.func 34) [] [])) [(.t 24)])⟩,
      ⟨(some 26), none, (.bin .int .eql (.t 25) (.c (.v (.int .i64 2))))⟩])
    (.cond (.t 26)
    (.ops [⟨(some 27), none, (.mv (.t 0))⟩,
      ⟨(some 28), none, (.call (.c (.fn (.func 39) [] [])) [(.t 27)])⟩,
      ⟨(some 29), none, (.call (.c (.fn (.func 134) [] [])) [(.t 28)])⟩,
      ⟨(some 4), none, (.mv (.t 29))⟩])
    (.ops [⟨(some 30), none, (.mv (.t 0))⟩,
      ⟨(some 31), none, (.call (.c (.fn (.func 38) [] [])) [(.t 30), (.c (.v (.int .i64 4))), (.c (.v (.string (mkS [110, 117, 109, 98, 101, 114]))))])⟩])))
    (.seq (.ops [⟨(some 32), none, (.mv (.t 0))⟩,
      ⟨(some 33), none, (.call (.c (.fn (.func 81) [] [])) [(.t 32), (.c (.v (.string (mkS [93]))))])⟩])
    (.seq (.ops [⟨(some 34), none, (.mv (.t 0))⟩,
      ⟨(some 35), none, (.mv (.t 3))⟩,
      ⟨(some 36), none, (.mv (.t 4))⟩,
      ⟨(some 37), none, (.call (.c (.fn (.func 40) [] [])) [(.t 34), (.t 35), (.c (.v (.int .i64 10))), (.t 36), (.c (.v (.slice none 0 0)))])⟩,
      ⟨none, none, (.store 5 (.t 2) (.t 37))⟩])
    .ret)))))
    (.seq (.ops [⟨(some 39), none, (.mv (.t 0))⟩,
      ⟨(some 40), none, (.call (.c (.fn (.func 34) [] [])) [(.t 39)])⟩,
      ⟨(some 41), none, (.bin .int .eql (.t 40) (.c (.v (.int .i64 0))))⟩,
      ⟨(some 38), none, (.mv (.t 41))⟩])
    (.cond (.t 38)
    (.seq (.ops [⟨(some 42), none, (.mv (.t 0))⟩,
      ⟨(some 43), none, (.mv (.t 3))⟩,
      ⟨(some 44), none, (.mv (.t 0))⟩,
      ⟨(some 45), none, (.call (.c (.fn (.func 39) [] [])) [(.t 44)])⟩,
      ⟨(some 46), none, (.call (.c (.fn (.func 40) [] [])) [(.t 42), (.t 43), (.c (.v (.int .i64 9))), (.t 45), (.c (.v (.slice none 0 0)))])⟩,
      ⟨none, none, (.store 5 (.t 2) (.t 46))⟩])
    .ret)
    .skip)))))))
    (.seq (.ops [⟨(some 47), none, (.mv (.t 0))⟩,
      ⟨(some 48), none, (.call (.c (.fn (.func 38) [] [])) [(.t 47), (.c (.v (.int .i64 4))), (.c (.v (.string (mkS [116, 121, 112, 101]))))])⟩])
    (.seq (.ops [⟨(some 49), none, (.mv (.t 0))⟩,
      ⟨(some 50), none, (.mv (.t 3))⟩,
      ⟨(some 51), none, (.call (.c (.fn (.func 40) [] [])) [(.t 49), (.t 50), (.c (.v (.int .i64 1))), (.c (.v (.string (mkS [])))), (.c (.v (.slice none 0 0)))])⟩,
      ⟨none, none, (.store 5 (.t 2) (.t 51))⟩])
    .ret)))))⟩
theorem L106_ok : lowFn Try.prog Try.f106 [] = some L106 := by kernel_rfl

/-- assessor_assessorref04.stops -/
def L107 : LFn := ⟨18, [(.tmp 2)], (.seq (.ops [⟨(some 2), none, (.mv (.c (.v (.bool false))))⟩])
    (.seq (.ops [⟨(some 3), none, (.mv (.t 0))⟩,
      ⟨(some 4), none, (.call (.c (.fn (.func 34) [] [])) [(.t 3)])⟩,
      ⟨(some 5), none, (.bin .int .eql (.t 4) (.c (.v (.int .i64 5))))⟩,
      ⟨(some 6), none, (.mv (.t 5))⟩,
      ⟨(some 7), (some (6, false)), (.mv (.t 0))⟩,
      ⟨(some 8), (some (6, false)), (.call (.c (.fn (.func 35) [] [])) [(.t 7), (.c (.v (.string (mkS [125]))))])⟩,
      ⟨(some 9), none, (.pick (.t 6) (.c (.v (.bool true))) (.t 8))⟩,
      ⟨(some 10), none, (.mv (.t 9))⟩,
      ⟨(some 11), (some (10, false)), (.mv (.t 0))⟩,
      ⟨(some 12), (some (10, false)), (.call (.c (.fn (.func 35) [] [])) [(.t 11), (.c (.v (.string (mkS [112, 114, 111, 99]))))])⟩,
      ⟨(some 13), none, (.pick (.t 10) (.c (.v (.bool true))) (.t 12))⟩,
      ⟨(some 14), none, (.mv (.t 13))⟩,
      ⟨(some 15), (some (14, false)), (.mv (.t 0))⟩,
      ⟨(some 16), (some (14, false)), (.call (.c (.fn (.func 35) [] [])) [(.t 15), (.c (.v (.string (mkS [114, 101, 99, 111, 114, 100]))))])⟩,
      ⟨(some 17), none, (.pick (.t 14) (.c (.v (.bool true))) (.t 16))⟩,
      ⟨(some 2), none, (.mv (.t 17))⟩])
    .ret))⟩
theorem L107_ok : lowFn Try.prog Try.f107 [] = some L107 := by kernel_rfl

/-- assessor_assessorref04.digits -/
def L134 : LFn := ⟨14, [(.tmp 2)], (.seq (.ops [⟨(some 2), none, (.mv (.c (.v (.string (mkS [])))))⟩])
    (.seq (.block 0 (.loop (.seq (.seq (.ops [⟨(some 3), none, (.mv (.t 0))⟩,
      ⟨(some 4), none, (.len .str (.t 3))⟩,
      ⟨(some 5), none, (.bin .int .gtr (.t 4) (.c (.v (.int .i64 1))))⟩,
      ⟨(some 6), none, (.mv (.t 5))⟩,
      ⟨(some 7), (some (6, true)), (.mv (.t 0))⟩,
      ⟨(some 8), (some (6, true)), (.idx (.t 7) (.c (.v (.int .i64 0))))⟩,
      ⟨(some 9), (some (6, true)), (.bin .int .eql (.t 8) (.c (.v (.int .u8 48))))⟩,
      ⟨(some 10), none, (.pick (.t 6) (.t 9) (.c (.v (.bool false))))⟩])
    (.cond (.t 10)
    .skip
    (.exit 0)))
    (.block 1 (.ops [⟨(some 11), none, (.mv (.t 0))⟩,
      ⟨(some 12), none, (.slice .str 1 (.t 11) (some (.c (.v (.int .i64 1)))) none)⟩,
      ⟨(some 0), none, (.mv (.t 12))⟩])))))
    (.seq (.ops [⟨(some 13), none, (.mv (.t 0))⟩,
      ⟨(some 2), none, (.mv (.t 13))⟩])
    .ret)))⟩
theorem L134_ok : lowFn Try.prog Try.f134 [] = some L134 := by kernel_rfl

end Go.Proofs.Yteidffcimidinaa

/- The functions, lowered. Printed by a program (wip/tools/pl.py). -/
namespace Go.Proofs.Yteidffcimidinaa
open Go Go.Ax
set_option maxRecDepth 100000

/-- assessor_assessorref02.Name -/
def L8 : LFn := ⟨32, [(.tmp 2)], (.seq (.ops [⟨(some 2), none, (.mv (.c (.v (.bool false))))⟩])
    (.seq (.seq (.ops [⟨(some 5), none, (.mv (.t 0))⟩,
      ⟨(some 6), none, (.len .str (.t 5))⟩,
      ⟨(some 7), none, (.bin .int .lss (.t 6) (.c (.v (.int .i64 1))))⟩,
      ⟨(some 8), none, (.mv (.t 7))⟩,
      ⟨(some 9), (some (8, false)), (.mv (.t 0))⟩,
      ⟨(some 10), (some (8, false)), (.len .str (.t 9))⟩,
      ⟨(some 11), (some (8, false)), (.bin .int .gtr (.t 10) (.c (.v (.int .i64 16))))⟩,
      ⟨(some 12), none, (.pick (.t 8) (.c (.v (.bool true))) (.t 11))⟩,
      ⟨(some 13), none, (.mv (.t 12))⟩,
      ⟨(some 14), (some (13, false)), (.mv (.t 0))⟩,
      ⟨(some 15), (some (13, false)), (.idx (.t 14) (.c (.v (.int .i64 0))))⟩,
      ⟨(some 16), (some (13, false)), (.call (.c (.fn (.func 25) [] [])) [(.t 15)])⟩,
      ⟨(some 17), (some (13, false)), (.not (.t 16))⟩,
      ⟨(some 18), none, (.pick (.t 13) (.c (.v (.bool true))) (.t 17))⟩,
      ⟨(some 19), none, (.mv (.t 18))⟩,
      ⟨(some 20), (some (19, false)), (.mv (.t 0))⟩,
      ⟨(some 21), (some (19, false)), (.call (.c (.fn (.func 26) [] [])) [(.t 20)])⟩,
      ⟨(some 22), none, (.pick (.t 19) (.c (.v (.bool true))) (.t 21))⟩])
    (.cond (.t 22)
    (.seq (.ops [⟨(some 2), none, (.mv (.c (.v (.bool false))))⟩])
    .ret)
    .skip))
    (.seq (.ops [⟨(some 24), none, (.mv (.t 0))⟩,
      ⟨(some 25), none, (.call (.c (.fn (.func 27) [] [])) [(.t 24), (.c (.v (.int .i64 0)))])⟩,
      ⟨(some 23), none, (.mv (.t 25))⟩,
      ⟨(some 26), none, (.ext (.t 23) 0)⟩,
      ⟨(some 27), none, (.ext (.t 23) 1)⟩,
      ⟨(some 3), none, (.mv (.t 26))⟩,
      ⟨(some 4), none, (.mv (.t 27))⟩])
    (.seq (.ops [⟨(some 28), none, (.mv (.t 4))⟩,
      ⟨(some 29), none, (.mv (.t 0))⟩,
      ⟨(some 30), none, (.len .str (.t 29))⟩,
      ⟨(some 31), none, (.bin .int .eql (.t 28) (.t 30))⟩,
      ⟨(some 2), none, (.mv (.t 31))⟩])
    .ret))))⟩
theorem L8_ok : lowFn Try.prog Try.f8 [] = some L8 := by kernel_rfl

/-- assessor_assessorref02.Scan -/
def L20 : LFn := ⟨42, [(.tmp 2), (.tmp 3)], (.seq (.ops [⟨(some 2), none, (.mv (.c (.v (.slice none 0 0))))⟩,
      ⟨(some 3), none, (.mv (.c (.v (.int .i64 0))))⟩])
    (.seq (.seq (.ops [⟨(some 9), none, (.mv (.t 0))⟩,
      ⟨(some 10), none, (.len .str (.t 9))⟩,
      ⟨(some 11), none, (.bin .int .gtr (.t 10) (.c (.v (.int .i64 4096))))⟩])
    (.cond (.t 11)
    (.seq (.ops [⟨(some 2), none, (.mv (.c (.v (.slice none 0 0))))⟩,
      ⟨(some 3), none, (.mv (.c (.v (.int .i64 8))))⟩])
    .ret)
    .skip))
    (.seq (.ops [⟨(some 12), none, (.bsl false 4 0 [(.v (.int .i64 0)), (.v (.int .i64 0)), (.v (.int .i64 0)), (.v (.int .i64 0))] [])⟩,
      ⟨(some 4), none, (.mv (.t 12))⟩])
    (.seq (.ops [⟨(some 5), none, (.mv (.c (.v (.int .i64 0))))⟩])
    (.block 0 (.loop (.block 1 (.seq (.ops [⟨(some 13), none, (.mv (.t 0))⟩,
      ⟨(some 14), none, (.mv (.t 5))⟩,
      ⟨(some 15), none, (.call (.c (.fn (.func 56) [] [])) [(.t 13), (.t 14)])⟩,
      ⟨(some 6), none, (.mv (.t 15))⟩])
    (.seq (.seq (.ops [⟨(some 16), none, (.mv (.t 6))⟩,
      ⟨(some 17), none, (.mv (.t 0))⟩,
      ⟨(some 18), none, (.len .str (.t 17))⟩,
      ⟨(some 19), none, (.bin .int .eql (.t 16) (.t 18))⟩])
    (.cond (.t 19)
    (.seq (.ops [⟨(some 20), none, (.mv (.t 4))⟩,
      ⟨(some 21), none, (.mv (.t 5))⟩,
      ⟨(some 22), none, (.mv (.t 6))⟩,
      ⟨(some 23), none, (.mv (.t 6))⟩,
      ⟨(some 24), none, (.build [(.v (.int .i64 0)), (.v (.int .i64 0)), (.v (.int .i64 0)), (.v (.int .i64 0))] [(0, (1, (.c (.v (.int .i64 5))))), (1, (1, (.t 21))), (2, (1, (.t 22))), (3, (1, (.t 23)))])⟩,
      ⟨(some 25), none, (.bsl true 4 1 [(.v (.int .i64 0)), (.v (.int .i64 0)), (.v (.int .i64 0)), (.v (.int .i64 0))] [(0, (.t 24))])⟩,
      ⟨(some 26), none, (.append 4 32 (.t 20) (.t 25))⟩,
      ⟨(some 2), none, (.mv (.t 26))⟩,
      ⟨(some 3), none, (.mv (.c (.v (.int .i64 0))))⟩,
      ⟨(some 2), none, (.frz (.t 2))⟩])
    .ret)
    .skip))
    (.seq (.ops [⟨(some 28), none, (.mv (.t 0))⟩,
      ⟨(some 29), none, (.mv (.t 6))⟩,
      ⟨(some 30), none, (.call (.c (.fn (.func 27) [] [])) [(.t 28), (.t 29)])⟩,
      ⟨(some 27), none, (.mv (.t 30))⟩,
      ⟨(some 31), none, (.ext (.t 27) 0)⟩,
      ⟨(some 32), none, (.ext (.t 27) 1)⟩,
      ⟨(some 7), none, (.mv (.t 31))⟩,
      ⟨(some 8), none, (.mv (.t 32))⟩])
    (.ops [⟨(some 33), none, (.mv (.t 4))⟩,
      ⟨(some 34), none, (.mv (.t 7))⟩,
      ⟨(some 35), none, (.mv (.t 5))⟩,
      ⟨(some 36), none, (.mv (.t 6))⟩,
      ⟨(some 37), none, (.mv (.t 8))⟩,
      ⟨(some 38), none, (.build [(.v (.int .i64 0)), (.v (.int .i64 0)), (.v (.int .i64 0)), (.v (.int .i64 0))] [(0, (1, (.t 34))), (1, (1, (.t 35))), (2, (1, (.t 36))), (3, (1, (.t 37)))])⟩,
      ⟨(some 39), none, (.bsl true 4 1 [(.v (.int .i64 0)), (.v (.int .i64 0)), (.v (.int .i64 0)), (.v (.int .i64 0))] [(0, (.t 38))])⟩,
      ⟨(some 40), none, (.append 4 32 (.t 33) (.t 39))⟩,
      ⟨(some 41), none, (.mv (.t 8))⟩,
      ⟨(some 4), none, (.mv (.t 40))⟩,
      ⟨(some 5), none, (.mv (.t 41))⟩])))))))))))⟩
theorem L20_ok : lowFn Try.prog Try.f20 [⟨7, 5, .imm⟩, ⟨7, 9, (.pre 2 (.frz (.t 2)))⟩, ⟨9, 6, .imm⟩] = some L20 := by kernel_rfl

/-- assessor_assessorref02.letter -/
def L25 : LFn := ⟨9, [(.tmp 2)], (.seq (.ops [⟨(some 2), none, (.mv (.c (.v (.bool false))))⟩])
    (.seq (.ops [⟨(some 3), none, (.mv (.t 0))⟩,
      ⟨(some 4), none, (.bin .int .geq (.t 3) (.c (.v (.int .u8 97))))⟩,
      ⟨(some 5), none, (.mv (.t 4))⟩,
      ⟨(some 6), (some (5, true)), (.mv (.t 0))⟩,
      ⟨(some 7), (some (5, true)), (.bin .int .leq (.t 6) (.c (.v (.int .u8 122))))⟩,
      ⟨(some 8), none, (.pick (.t 5) (.t 7) (.c (.v (.bool false))))⟩,
      ⟨(some 2), none, (.mv (.t 8))⟩])
    .ret))⟩
theorem L25_ok : lowFn Try.prog Try.f25 [] = some L25 := by kernel_rfl

/-- assessor_assessorref02.Keyword -/
def L26 : LFn := ⟨6, [(.tmp 2)], (.seq (.ops [⟨(some 2), none, (.mv (.c (.v (.bool false))))⟩])
    (.seq (.ops [⟨(some 3), none, (.bsl true 1 18 [(.v (.string (mkS [])))] [(0, (.c (.v (.string (mkS [114, 101, 99, 111, 114, 100]))))), (1, (.c (.v (.string (mkS [112, 114, 111, 99]))))), (2, (.c (.v (.string (mkS [118, 97, 114]))))), (3, (.c (.v (.string (mkS [105, 102]))))), (4, (.c (.v (.string (mkS [101, 108, 115, 101]))))), (5, (.c (.v (.string (mkS [119, 104, 105, 108, 101]))))), (6, (.c (.v (.string (mkS [102, 111, 114]))))), (7, (.c (.v (.string (mkS [116, 111]))))), (8, (.c (.v (.string (mkS [114, 101, 116, 117, 114, 110]))))), (9, (.c (.v (.string (mkS [97, 115, 115, 101, 114, 116]))))), (10, (.c (.v (.string (mkS [97, 110, 100]))))), (11, (.c (.v (.string (mkS [111, 114]))))), (12, (.c (.v (.string (mkS [110, 111, 116]))))), (13, (.c (.v (.string (mkS [116, 114, 117, 101]))))), (14, (.c (.v (.string (mkS [102, 97, 108, 115, 101]))))), (15, (.c (.v (.string (mkS [105, 110, 116]))))), (16, (.c (.v (.string (mkS [98, 111, 111, 108]))))), (17, (.c (.v (.string (mkS [108, 101, 110])))))])⟩,
      ⟨(some 4), none, (.mv (.t 0))⟩,
      ⟨(some 5), none, (.call (.c (.fn (.func 70) [] [])) [(.t 3), (.t 4)])⟩,
      ⟨(some 2), none, (.mv (.t 5))⟩])
    .ret))⟩
theorem L26_ok : lowFn Try.prog Try.f26 [⟨1, 0, .imm⟩] = some L26 := by kernel_rfl

/-- assessor_assessorref02.token -/
def L27 : LFn := ⟨98, [(.tmp 4), (.tmp 5)], (.seq (.ops [⟨(some 4), none, (.mv (.c (.v (.int .i64 0))))⟩,
      ⟨(some 5), none, (.mv (.c (.v (.int .i64 0))))⟩])
    (.seq (.ops [⟨(some 7), none, (.mv (.t 1))⟩,
      ⟨(some 6), none, (.mv (.t 7))⟩])
    (.seq (.block 0 (.seq (.ops [⟨(some 9), none, (.mv (.t 0))⟩,
      ⟨(some 10), none, (.mv (.t 1))⟩,
      ⟨(some 11), none, (.idx (.t 9) (.t 10))⟩,
      ⟨(some 12), none, (.call (.c (.fn (.func 25) [] [])) [(.t 11)])⟩,
      ⟨(some 8), none, (.mv (.t 12))⟩])
    (.cond (.t 8)
    (.seq (.block 1 (.loop (.seq (.seq (.ops [⟨(some 13), none, (.mv (.t 6))⟩,
      ⟨(some 14), none, (.mv (.t 0))⟩,
      ⟨(some 15), none, (.len .str (.t 14))⟩,
      ⟨(some 16), none, (.bin .int .lss (.t 13) (.t 15))⟩,
      ⟨(some 17), none, (.mv (.t 16))⟩,
      ⟨(some 18), (some (17, true)), (.mv (.t 0))⟩,
      ⟨(some 19), (some (17, true)), (.mv (.t 6))⟩,
      ⟨(some 20), (some (17, true)), (.idx (.t 18) (.t 19))⟩,
      ⟨(some 21), (some (17, true)), (.call (.c (.fn (.func 25) [] [])) [(.t 20)])⟩,
      ⟨(some 22), (some (17, true)), (.mv (.t 21))⟩,
      ⟨(some 23), (some (22, false)), (.mv (.t 0))⟩,
      ⟨(some 24), (some (22, false)), (.mv (.t 6))⟩,
      ⟨(some 25), (some (22, false)), (.idx (.t 23) (.t 24))⟩,
      ⟨(some 26), (some (22, false)), (.call (.c (.fn (.func 71) [] [])) [(.t 25)])⟩,
      ⟨(some 27), (some (17, true)), (.pick (.t 22) (.c (.v (.bool true))) (.t 26))⟩,
      ⟨(some 28), (some (17, true)), (.mv (.t 27))⟩,
      ⟨(some 29), (some (28, false)), (.mv (.t 0))⟩,
      ⟨(some 30), (some (28, false)), (.mv (.t 6))⟩,
      ⟨(some 31), (some (28, false)), (.idx (.t 29) (.t 30))⟩,
      ⟨(some 32), (some (28, false)), (.bin .int .eql (.t 31) (.c (.v (.int .u8 95))))⟩,
      ⟨(some 33), (some (17, true)), (.pick (.t 28) (.c (.v (.bool true))) (.t 32))⟩,
      ⟨(some 34), none, (.pick (.t 17) (.t 33) (.c (.v (.bool false))))⟩])
    (.cond (.t 34)
    .skip
    (.exit 1)))
    (.block 2 (.ops [⟨(some 35), none, (.mv (.t 6))⟩,
      ⟨(some 36), none, (.bin .int .add (.t 35) (.c (.v (.int .i64 1))))⟩,
      ⟨(some 6), none, (.mv (.t 36))⟩])))))
    (.seq (.seq (.ops [⟨(some 37), none, (.mv (.t 0))⟩,
      ⟨(some 38), none, (.mv (.t 1))⟩,
      ⟨(some 39), none, (.mv (.t 6))⟩,
      ⟨(some 40), none, (.slice .str 1 (.t 37) (some (.t 38)) (some (.t 39)))⟩,
      ⟨(some 41), none, (.call (.c (.fn (.func 26) [] [])) [(.t 40)])⟩])
    (.cond (.t 41)
    (.seq (.ops [⟨(some 42), none, (.mv (.t 6))⟩,
      ⟨(some 4), none, (.mv (.c (.v (.int .i64 1))))⟩,
      ⟨(some 5), none, (.mv (.t 42))⟩])
    .ret)
    .skip))
    (.seq (.ops [⟨(some 43), none, (.mv (.t 6))⟩,
      ⟨(some 4), none, (.mv (.c (.v (.int .i64 0))))⟩,
      ⟨(some 5), none, (.mv (.t 43))⟩])
    .ret)))
    (.seq (.ops [⟨(some 45), none, (.mv (.t 0))⟩,
      ⟨(some 46), none, (.mv (.t 1))⟩,
      ⟨(some 47), none, (.idx (.t 45) (.t 46))⟩,
      ⟨(some 48), none, (.call (.c (.fn (.func 71) [] [])) [(.t 47)])⟩,
      ⟨(some 44), none, (.mv (.t 48))⟩])
    (.cond (.t 44)
    (.seq (.block 3 (.loop (.seq (.seq (.ops [⟨(some 49), none, (.mv (.t 6))⟩,
      ⟨(some 50), none, (.mv (.t 0))⟩,
      ⟨(some 51), none, (.len .str (.t 50))⟩,
      ⟨(some 52), none, (.bin .int .lss (.t 49) (.t 51))⟩,
      ⟨(some 53), none, (.mv (.t 52))⟩,
      ⟨(some 54), (some (53, true)), (.mv (.t 0))⟩,
      ⟨(some 55), (some (53, true)), (.mv (.t 6))⟩,
      ⟨(some 56), (some (53, true)), (.idx (.t 54) (.t 55))⟩,
      ⟨(some 57), (some (53, true)), (.call (.c (.fn (.func 71) [] [])) [(.t 56)])⟩,
      ⟨(some 58), none, (.pick (.t 53) (.t 57) (.c (.v (.bool false))))⟩])
    (.cond (.t 58)
    .skip
    (.exit 3)))
    (.block 4 (.ops [⟨(some 59), none, (.mv (.t 6))⟩,
      ⟨(some 60), none, (.bin .int .add (.t 59) (.c (.v (.int .i64 1))))⟩,
      ⟨(some 6), none, (.mv (.t 60))⟩])))))
    (.seq (.ops [⟨(some 61), none, (.mv (.t 6))⟩,
      ⟨(some 4), none, (.mv (.c (.v (.int .i64 2))))⟩,
      ⟨(some 5), none, (.mv (.t 61))⟩])
    .ret))
    (.seq (.ops [⟨(some 63), none, (.mv (.t 0))⟩,
      ⟨(some 64), none, (.mv (.t 1))⟩,
      ⟨(some 65), none, (.call (.c (.fn (.func 72) [] [])) [(.t 63), (.t 64)])⟩,
      ⟨(some 66), none, (.bin .int .gtr (.t 65) (.c (.v (.int .i64 0))))⟩,
      ⟨(some 62), none, (.mv (.t 66))⟩])
    (.cond (.t 62)
    (.seq (.ops [⟨(some 67), none, (.mv (.t 1))⟩,
      ⟨(some 68), none, (.mv (.t 0))⟩,
      ⟨(some 69), none, (.mv (.t 1))⟩,
      ⟨(some 70), none, (.call (.c (.fn (.func 72) [] [])) [(.t 68), (.t 69)])⟩,
      ⟨(some 71), none, (.bin .int .add (.t 67) (.t 70))⟩,
      ⟨(some 4), none, (.mv (.c (.v (.int .i64 3))))⟩,
      ⟨(some 5), none, (.mv (.t 71))⟩])
    .ret)
    .skip)))))))
    (.seq (.block 5 (.loop (.seq (.seq (.ops [⟨(some 72), none, (.mv (.t 6))⟩,
      ⟨(some 73), none, (.mv (.t 0))⟩,
      ⟨(some 74), none, (.len .str (.t 73))⟩,
      ⟨(some 75), none, (.bin .int .lss (.t 72) (.t 74))⟩,
      ⟨(some 76), none, (.mv (.t 75))⟩,
      ⟨(some 77), (some (76, true)), (.mv (.t 0))⟩,
      ⟨(some 78), (some (76, true)), (.mv (.t 6))⟩,
      ⟨(some 79), (some (76, true)), (.idx (.t 77) (.t 78))⟩,
      ⟨(some 80), (some (76, true)), (.call (.c (.fn (.func 73) [] [])) [(.t 79)])⟩,
      ⟨(some 81), (some (76, true)), (.not (.t 80))⟩,
      ⟨(some 82), none, (.pick (.t 76) (.t 81) (.c (.v (.bool false))))⟩,
      ⟨(some 83), none, (.mv (.t 82))⟩,
      ⟨(some 84), (some (83, true)), (.mv (.t 0))⟩,
      ⟨(some 85), (some (83, true)), (.mv (.t 6))⟩,
      ⟨(some 86), (some (83, true)), (.idx (.t 84) (.t 85))⟩,
      ⟨(some 87), (some (83, true)), (.bin .int .neq (.t 86) (.c (.v (.int .u8 35))))⟩,
      ⟨(some 88), none, (.pick (.t 83) (.t 87) (.c (.v (.bool false))))⟩,
      ⟨(some 89), none, (.mv (.t 88))⟩,
      ⟨(some 90), (some (89, true)), (.mv (.t 0))⟩,
      ⟨(some 91), (some (89, true)), (.mv (.t 6))⟩,
      ⟨(some 92), (some (89, true)), (.call (.c (.fn (.func 74) [] [])) [(.t 90), (.t 91)])⟩,
      ⟨(some 93), (some (89, true)), (.not (.t 92))⟩,
      ⟨(some 94), none, (.pick (.t 89) (.t 93) (.c (.v (.bool false))))⟩])
    (.cond (.t 94)
    .skip
    (.exit 5)))
    (.block 6 (.ops [⟨(some 95), none, (.mv (.t 6))⟩,
      ⟨(some 96), none, (.bin .int .add (.t 95) (.c (.v (.int .i64 1))))⟩,
      ⟨(some 6), none, (.mv (.t 96))⟩])))))
    (.seq (.ops [⟨(some 97), none, (.mv (.t 6))⟩,
      ⟨(some 4), none, (.mv (.c (.v (.int .i64 4))))⟩,
      ⟨(some 5), none, (.mv (.t 97))⟩])
    .ret)))))⟩
theorem L27_ok : lowFn Try.prog Try.f27 [] = some L27 := by kernel_rfl

/-- assessor_lexer.Number -/
def L44 : LFn := ⟨36, [(.tmp 2), (.tmp 3)], (.seq (.ops [⟨(some 2), none, (.mv (.c (.v (.int .i64 0))))⟩,
      ⟨(some 3), none, (.mv (.c (.v (.bool false))))⟩])
    (.seq (.seq (.ops [⟨(some 7), none, (.mv (.t 0))⟩,
      ⟨(some 8), none, (.bin .str .eql (.t 7) (.c (.v (.string (mkS [])))))⟩,
      ⟨(some 9), none, (.mv (.t 8))⟩,
      ⟨(some 10), (some (9, false)), (.mv (.t 0))⟩,
      ⟨(some 11), (some (9, false)), (.len .str (.t 10))⟩,
      ⟨(some 12), (some (9, false)), (.bin .int .gtr (.t 11) (.c (.v (.int .i64 9))))⟩,
      ⟨(some 13), none, (.pick (.t 9) (.c (.v (.bool true))) (.t 12))⟩,
      ⟨(some 14), none, (.mv (.t 13))⟩,
      ⟨(some 15), (some (14, false)), (.mv (.t 0))⟩,
      ⟨(some 16), (some (14, false)), (.call (.c (.fn (.func 89) [] [])) [(.t 15), (.c (.v (.int .i64 0))), (.c (.fn (.func 90) [] []))])⟩,
      ⟨(some 17), (some (14, false)), (.mv (.t 0))⟩,
      ⟨(some 18), (some (14, false)), (.len .str (.t 17))⟩,
      ⟨(some 19), (some (14, false)), (.bin .int .lss (.t 16) (.t 18))⟩,
      ⟨(some 20), none, (.pick (.t 14) (.c (.v (.bool true))) (.t 19))⟩])
    (.cond (.t 20)
    (.seq (.ops [⟨(some 2), none, (.mv (.c (.v (.int .i64 0))))⟩,
      ⟨(some 3), none, (.mv (.c (.v (.bool false))))⟩])
    .ret)
    .skip))
    (.seq (.ops [⟨(some 4), none, (.mv (.c (.v (.int .i64 0))))⟩])
    (.seq (.seq (.ops [⟨(some 21), none, (.mv (.t 0))⟩,
      ⟨(some 22), none, (.conv .strBytes (.t 21))⟩,
      ⟨(some 23), none, (.len .slc (.t 22))⟩,
      ⟨(some 24), none, (.mv (.c (.v (.int .i64 0))))⟩])
    (.block 0 (.loop (.seq (.ops [⟨(some 25), none, (.bin .int .lss (.t 24) (.t 23))⟩])
    (.seq (.cond (.t 25)
    .skip
    (.exit 0))
    (.seq (.block 1 (.seq (.ops [⟨(some 26), none, (.iaddr 1 (.t 22) (.t 24))⟩,
      ⟨(some 27), none, (.load false 1 (.t 26))⟩,
      ⟨(some 6), none, (.mv (.t 27))⟩])
    (.ops [⟨(some 28), none, (.mv (.t 4))⟩,
      ⟨(some 29), none, (.bin .int .mul (.c (.v (.int .i64 10))) (.t 28))⟩,
      ⟨(some 30), none, (.mv (.t 6))⟩,
      ⟨(some 31), none, (.bin .int .sub (.t 30) (.c (.v (.int .u8 48))))⟩,
      ⟨(some 32), none, (.conv (.toInt .i64) (.t 31))⟩,
      ⟨(some 33), none, (.bin .int .add (.t 29) (.t 32))⟩,
      ⟨(some 4), none, (.mv (.t 33))⟩])))
    (.ops [⟨(some 34), none, (.bin .int .add (.t 24) (.c (.v (.int .i64 1))))⟩,
      ⟨(some 24), none, (.mv (.t 34))⟩])))))))
    (.seq (.ops [⟨(some 35), none, (.mv (.t 4))⟩,
      ⟨(some 2), none, (.mv (.t 35))⟩,
      ⟨(some 3), none, (.mv (.c (.v (.bool true))))⟩])
    .ret)))))⟩
theorem L44_ok : lowFn Try.prog Try.f44 [] = some L44 := by kernel_rfl

/-- assessor_assessorref02.skip -/
def L56 : LFn := ⟨40, [(.tmp 4)], (.seq (.ops [⟨(some 4), none, (.mv (.c (.v (.int .i64 0))))⟩])
    (.seq (.block 0 (.loop (.seq (.seq (.ops [⟨(some 5), none, (.mv (.t 1))⟩,
      ⟨(some 6), none, (.mv (.t 0))⟩,
      ⟨(some 7), none, (.len .str (.t 6))⟩,
      ⟨(some 8), none, (.bin .int .lss (.t 5) (.t 7))⟩,
      ⟨(some 9), none, (.mv (.t 8))⟩,
      ⟨(some 10), (some (9, true)), (.mv (.t 0))⟩,
      ⟨(some 11), (some (9, true)), (.mv (.t 1))⟩,
      ⟨(some 12), (some (9, true)), (.idx (.t 10) (.t 11))⟩,
      ⟨(some 13), (some (9, true)), (.call (.c (.fn (.func 73) [] [])) [(.t 12)])⟩,
      ⟨(some 14), (some (9, true)), (.mv (.t 13))⟩,
      ⟨(some 15), (some (14, false)), (.mv (.t 0))⟩,
      ⟨(some 16), (some (14, false)), (.mv (.t 1))⟩,
      ⟨(some 17), (some (14, false)), (.idx (.t 15) (.t 16))⟩,
      ⟨(some 18), (some (14, false)), (.bin .int .eql (.t 17) (.c (.v (.int .u8 35))))⟩,
      ⟨(some 19), (some (9, true)), (.pick (.t 14) (.c (.v (.bool true))) (.t 18))⟩,
      ⟨(some 20), none, (.pick (.t 9) (.t 19) (.c (.v (.bool false))))⟩])
    (.cond (.t 20)
    .skip
    (.exit 0)))
    (.block 1 (.seq (.seq (.ops [⟨(some 21), none, (.mv (.t 0))⟩,
      ⟨(some 22), none, (.mv (.t 1))⟩,
      ⟨(some 23), none, (.idx (.t 21) (.t 22))⟩,
      ⟨(some 24), none, (.bin .int .eql (.t 23) (.c (.v (.int .u8 35))))⟩])
    (.cond (.t 24)
    (.seq (.block 2 (.loop (.seq (.seq (.ops [⟨(some 25), none, (.mv (.t 1))⟩,
      ⟨(some 26), none, (.mv (.t 0))⟩,
      ⟨(some 27), none, (.len .str (.t 26))⟩,
      ⟨(some 28), none, (.bin .int .lss (.t 25) (.t 27))⟩,
      ⟨(some 29), none, (.mv (.t 28))⟩,
      ⟨(some 30), (some (29, true)), (.mv (.t 0))⟩,
      ⟨(some 31), (some (29, true)), (.mv (.t 1))⟩,
      ⟨(some 32), (some (29, true)), (.idx (.t 30) (.t 31))⟩,
      ⟨(some 33), (some (29, true)), (.bin .int .neq (.t 32) (.c (.v (.int .u8 10))))⟩,
      ⟨(some 34), none, (.pick (.t 29) (.t 33) (.c (.v (.bool false))))⟩])
    (.cond (.t 34)
    .skip
    (.exit 2)))
    (.block 3 (.ops [⟨(some 35), none, (.mv (.t 1))⟩,
      ⟨(some 36), none, (.bin .int .add (.t 35) (.c (.v (.int .i64 1))))⟩,
      ⟨(some 1), none, (.mv (.t 36))⟩])))))
    (.exit 1))
    .skip))
    (.ops [⟨(some 37), none, (.mv (.t 1))⟩,
      ⟨(some 38), none, (.bin .int .add (.t 37) (.c (.v (.int .i64 1))))⟩,
      ⟨(some 1), none, (.mv (.t 38))⟩]))))))
    (.seq (.ops [⟨(some 39), none, (.mv (.t 1))⟩,
      ⟨(some 4), none, (.mv (.t 39))⟩])
    .ret)))⟩
theorem L56_ok : lowFn Try.prog Try.f56 [] = some L56 := by kernel_rfl

/-- assessor_assessorref02.Has -/
def L70 : LFn := ⟨18, [(.tmp 4)], (.seq (.ops [⟨(some 4), none, (.mv (.c (.v (.bool false))))⟩])
    (.seq (.seq (.ops [⟨(some 5), none, (.mv (.c (.v (.int .i64 0))))⟩])
    (.block 0 (.loop (.seq (.seq (.ops [⟨(some 6), none, (.mv (.t 5))⟩,
      ⟨(some 7), none, (.mv (.t 0))⟩,
      ⟨(some 8), none, (.len .slc (.t 7))⟩,
      ⟨(some 9), none, (.bin .int .lss (.t 6) (.t 8))⟩])
    (.cond (.t 9)
    .skip
    (.exit 0)))
    (.seq (.block 1 (.seq (.ops [⟨(some 12), none, (.mv (.t 0))⟩,
      ⟨(some 13), none, (.mv (.t 5))⟩,
      ⟨(some 14), none, (.iaddr 1 (.t 12) (.t 13))⟩,
      ⟨(some 15), none, (.load false 1 (.t 14))⟩,
      ⟨(some 16), none, (.mv (.t 1))⟩,
      ⟨(some 17), none, (.bin .str .eql (.t 15) (.t 16))⟩])
    (.cond (.t 17)
    (.seq (.ops [⟨(some 4), none, (.mv (.c (.v (.bool true))))⟩])
    .ret)
    .skip)))
    (.ops [⟨(some 10), none, (.mv (.t 5))⟩,
      ⟨(some 11), none, (.bin .int .add (.t 10) (.c (.v (.int .i64 1))))⟩,
      ⟨(some 5), none, (.mv (.t 11))⟩]))))))
    (.seq (.ops [⟨(some 4), none, (.mv (.c (.v (.bool false))))⟩])
    .ret)))⟩
theorem L70_ok : lowFn Try.prog Try.f70 [] = some L70 := by kernel_rfl

/-- assessor_assessorref02.digit -/
def L71 : LFn := ⟨9, [(.tmp 2)], (.seq (.ops [⟨(some 2), none, (.mv (.c (.v (.bool false))))⟩])
    (.seq (.ops [⟨(some 3), none, (.mv (.t 0))⟩,
      ⟨(some 4), none, (.bin .int .geq (.t 3) (.c (.v (.int .u8 48))))⟩,
      ⟨(some 5), none, (.mv (.t 4))⟩,
      ⟨(some 6), (some (5, true)), (.mv (.t 0))⟩,
      ⟨(some 7), (some (5, true)), (.bin .int .leq (.t 6) (.c (.v (.int .u8 57))))⟩,
      ⟨(some 8), none, (.pick (.t 5) (.t 7) (.c (.v (.bool false))))⟩,
      ⟨(some 2), none, (.mv (.t 8))⟩])
    .ret))⟩
theorem L71_ok : lowFn Try.prog Try.f71 [] = some L71 := by kernel_rfl

/-- assessor_assessorref02.symbol -/
def L72 : LFn := ⟨26, [(.tmp 4)], (.seq (.ops [⟨(some 4), none, (.mv (.c (.v (.int .i64 0))))⟩])
    (.seq (.seq (.ops [⟨(some 5), none, (.mv (.t 1))⟩,
      ⟨(some 6), none, (.bin .int .add (.t 5) (.c (.v (.int .i64 2))))⟩,
      ⟨(some 7), none, (.mv (.t 0))⟩,
      ⟨(some 8), none, (.len .str (.t 7))⟩,
      ⟨(some 9), none, (.bin .int .leq (.t 6) (.t 8))⟩,
      ⟨(some 10), none, (.mv (.t 9))⟩,
      ⟨(some 11), (some (10, true)), (.bsl true 1 4 [(.v (.string (mkS [])))] [(0, (.c (.v (.string (mkS [61, 61]))))), (1, (.c (.v (.string (mkS [33, 61]))))), (2, (.c (.v (.string (mkS [60, 61]))))), (3, (.c (.v (.string (mkS [62, 61])))))])⟩,
      ⟨(some 12), (some (10, true)), (.mv (.t 0))⟩,
      ⟨(some 13), (some (10, true)), (.mv (.t 1))⟩,
      ⟨(some 14), (some (10, true)), (.mv (.t 1))⟩,
      ⟨(some 15), (some (10, true)), (.bin .int .add (.t 14) (.c (.v (.int .i64 2))))⟩,
      ⟨(some 16), (some (10, true)), (.slice .str 1 (.t 12) (some (.t 13)) (some (.t 15)))⟩,
      ⟨(some 17), (some (10, true)), (.call (.c (.fn (.func 70) [] [])) [(.t 11), (.t 16)])⟩,
      ⟨(some 18), none, (.pick (.t 10) (.t 17) (.c (.v (.bool false))))⟩])
    (.cond (.t 18)
    (.seq (.ops [⟨(some 4), none, (.mv (.c (.v (.int .i64 2))))⟩])
    .ret)
    .skip))
    (.seq (.seq (.ops [⟨(some 19), none, (.bsl true 1 18 [(.v (.string (mkS [])))] [(0, (.c (.v (.string (mkS [60]))))), (1, (.c (.v (.string (mkS [62]))))), (2, (.c (.v (.string (mkS [61]))))), (3, (.c (.v (.string (mkS [43]))))), (4, (.c (.v (.string (mkS [45]))))), (5, (.c (.v (.string (mkS [42]))))), (6, (.c (.v (.string (mkS [47]))))), (7, (.c (.v (.string (mkS [37]))))), (8, (.c (.v (.string (mkS [40]))))), (9, (.c (.v (.string (mkS [41]))))), (10, (.c (.v (.string (mkS [123]))))), (11, (.c (.v (.string (mkS [125]))))), (12, (.c (.v (.string (mkS [91]))))), (13, (.c (.v (.string (mkS [93]))))), (14, (.c (.v (.string (mkS [44]))))), (15, (.c (.v (.string (mkS [59]))))), (16, (.c (.v (.string (mkS [58]))))), (17, (.c (.v (.string (mkS [46])))))])⟩,
      ⟨(some 20), none, (.mv (.t 0))⟩,
      ⟨(some 21), none, (.mv (.t 1))⟩,
      ⟨(some 22), none, (.mv (.t 1))⟩,
      ⟨(some 23), none, (.bin .int .add (.t 22) (.c (.v (.int .i64 1))))⟩,
      ⟨(some 24), none, (.slice .str 1 (.t 20) (some (.t 21)) (some (.t 23)))⟩,
      ⟨(some 25), none, (.call (.c (.fn (.func 70) [] [])) [(.t 19), (.t 24)])⟩])
    (.cond (.t 25)
    (.seq (.ops [⟨(some 4), none, (.mv (.c (.v (.int .i64 1))))⟩])
    .ret)
    .skip))
    (.seq (.ops [⟨(some 4), none, (.mv (.c (.v (.int .i64 0))))⟩])
    .ret))))⟩
theorem L72_ok : lowFn Try.prog Try.f72 [⟨1, 6, .imm⟩, ⟨3, 0, .imm⟩] = some L72 := by kernel_rfl

/-- assessor_assessorref02.blank -/
def L73 : LFn := ⟨17, [(.tmp 2)], (.seq (.ops [⟨(some 2), none, (.mv (.c (.v (.bool false))))⟩])
    (.seq (.ops [⟨(some 3), none, (.mv (.t 0))⟩,
      ⟨(some 4), none, (.bin .int .eql (.t 3) (.c (.v (.int .u8 9))))⟩,
      ⟨(some 5), none, (.mv (.t 4))⟩,
      ⟨(some 6), (some (5, false)), (.mv (.t 0))⟩,
      ⟨(some 7), (some (5, false)), (.bin .int .eql (.t 6) (.c (.v (.int .u8 10))))⟩,
      ⟨(some 8), none, (.pick (.t 5) (.c (.v (.bool true))) (.t 7))⟩,
      ⟨(some 9), none, (.mv (.t 8))⟩,
      ⟨(some 10), (some (9, false)), (.mv (.t 0))⟩,
      ⟨(some 11), (some (9, false)), (.bin .int .eql (.t 10) (.c (.v (.int .u8 13))))⟩,
      ⟨(some 12), none, (.pick (.t 9) (.c (.v (.bool true))) (.t 11))⟩,
      ⟨(some 13), none, (.mv (.t 12))⟩,
      ⟨(some 14), (some (13, false)), (.mv (.t 0))⟩,
      ⟨(some 15), (some (13, false)), (.bin .int .eql (.t 14) (.c (.v (.int .u8 32))))⟩,
      ⟨(some 16), none, (.pick (.t 13) (.c (.v (.bool true))) (.t 15))⟩,
      ⟨(some 2), none, (.mv (.t 16))⟩])
    .ret))⟩
theorem L73_ok : lowFn Try.prog Try.f73 [] = some L73 := by kernel_rfl

/-- assessor_assessorref02.begins -/
def L74 : LFn := ⟨21, [(.tmp 4)], (.seq (.ops [⟨(some 4), none, (.mv (.c (.v (.bool false))))⟩])
    (.seq (.ops [⟨(some 5), none, (.mv (.t 0))⟩,
      ⟨(some 6), none, (.mv (.t 1))⟩,
      ⟨(some 7), none, (.idx (.t 5) (.t 6))⟩,
      ⟨(some 8), none, (.call (.c (.fn (.func 25) [] [])) [(.t 7)])⟩,
      ⟨(some 9), none, (.mv (.t 8))⟩,
      ⟨(some 10), (some (9, false)), (.mv (.t 0))⟩,
      ⟨(some 11), (some (9, false)), (.mv (.t 1))⟩,
      ⟨(some 12), (some (9, false)), (.idx (.t 10) (.t 11))⟩,
      ⟨(some 13), (some (9, false)), (.call (.c (.fn (.func 71) [] [])) [(.t 12)])⟩,
      ⟨(some 14), none, (.pick (.t 9) (.c (.v (.bool true))) (.t 13))⟩,
      ⟨(some 15), none, (.mv (.t 14))⟩,
      ⟨(some 16), (some (15, false)), (.mv (.t 0))⟩,
      ⟨(some 17), (some (15, false)), (.mv (.t 1))⟩,
      ⟨(some 18), (some (15, false)), (.call (.c (.fn (.func 72) [] [])) [(.t 16), (.t 17)])⟩,
      ⟨(some 19), (some (15, false)), (.bin .int .gtr (.t 18) (.c (.v (.int .i64 0))))⟩,
      ⟨(some 20), none, (.pick (.t 15) (.c (.v (.bool true))) (.t 19))⟩,
      ⟨(some 4), none, (.mv (.t 20))⟩])
    .ret))⟩
theorem L74_ok : lowFn Try.prog Try.f74 [] = some L74 := by kernel_rfl

/-- assessor_assessorref02.Number -/
def L87 : LFn := ⟨34, [(.tmp 2), (.tmp 3)], (.seq (.ops [⟨(some 2), none, (.mv (.c (.v (.int .i64 0))))⟩,
      ⟨(some 3), none, (.mv (.c (.v (.bool false))))⟩])
    (.seq (.seq (.ops [⟨(some 6), none, (.mv (.t 0))⟩,
      ⟨(some 7), none, (.len .str (.t 6))⟩,
      ⟨(some 8), none, (.bin .int .lss (.t 7) (.c (.v (.int .i64 1))))⟩,
      ⟨(some 9), none, (.mv (.t 8))⟩,
      ⟨(some 10), (some (9, false)), (.mv (.t 0))⟩,
      ⟨(some 11), (some (9, false)), (.len .str (.t 10))⟩,
      ⟨(some 12), (some (9, false)), (.bin .int .gtr (.t 11) (.c (.v (.int .i64 9))))⟩,
      ⟨(some 13), none, (.pick (.t 9) (.c (.v (.bool true))) (.t 12))⟩])
    (.cond (.t 13)
    (.seq (.ops [⟨(some 2), none, (.mv (.c (.v (.int .i64 0))))⟩,
      ⟨(some 3), none, (.mv (.c (.v (.bool false))))⟩])
    .ret)
    .skip))
    (.seq (.ops [⟨(some 4), none, (.mv (.c (.v (.int .i64 0))))⟩])
    (.seq (.seq (.ops [⟨(some 5), none, (.mv (.c (.v (.int .i64 0))))⟩])
    (.block 0 (.loop (.seq (.seq (.ops [⟨(some 14), none, (.mv (.t 5))⟩,
      ⟨(some 15), none, (.mv (.t 0))⟩,
      ⟨(some 16), none, (.len .str (.t 15))⟩,
      ⟨(some 17), none, (.bin .int .lss (.t 14) (.t 16))⟩])
    (.cond (.t 17)
    .skip
    (.exit 0)))
    (.seq (.block 1 (.seq (.seq (.ops [⟨(some 20), none, (.mv (.t 0))⟩,
      ⟨(some 21), none, (.mv (.t 5))⟩,
      ⟨(some 22), none, (.idx (.t 20) (.t 21))⟩,
      ⟨(some 23), none, (.call (.c (.fn (.func 71) [] [])) [(.t 22)])⟩,
      ⟨(some 24), none, (.not (.t 23))⟩])
    (.cond (.t 24)
    (.seq (.ops [⟨(some 2), none, (.mv (.c (.v (.int .i64 0))))⟩,
      ⟨(some 3), none, (.mv (.c (.v (.bool false))))⟩])
    .ret)
    .skip))
    (.ops [⟨(some 25), none, (.mv (.t 4))⟩,
      ⟨(some 26), none, (.bin .int .mul (.c (.v (.int .i64 10))) (.t 25))⟩,
      ⟨(some 27), none, (.mv (.t 0))⟩,
      ⟨(some 28), none, (.mv (.t 5))⟩,
      ⟨(some 29), none, (.idx (.t 27) (.t 28))⟩,
      ⟨(some 30), none, (.bin .int .sub (.t 29) (.c (.v (.int .u8 48))))⟩,
      ⟨(some 31), none, (.conv (.toInt .i64) (.t 30))⟩,
      ⟨(some 32), none, (.bin .int .add (.t 26) (.t 31))⟩,
      ⟨(some 4), none, (.mv (.t 32))⟩])))
    (.ops [⟨(some 18), none, (.mv (.t 5))⟩,
      ⟨(some 19), none, (.bin .int .add (.t 18) (.c (.v (.int .i64 1))))⟩,
      ⟨(some 5), none, (.mv (.t 19))⟩]))))))
    (.seq (.ops [⟨(some 33), none, (.mv (.t 4))⟩,
      ⟨(some 2), none, (.mv (.t 33))⟩,
      ⟨(some 3), none, (.mv (.c (.v (.bool true))))⟩])
    .ret)))))⟩
theorem L87_ok : lowFn Try.prog Try.f87 [] = some L87 := by kernel_rfl

/-- assessor_lexer.run -/
def L89 : LFn := ⟨21, [(.tmp 6)], (.seq (.ops [⟨(some 6), none, (.mv (.c (.v (.int .i64 0))))⟩])
    (.seq (.block 0 (.loop (.seq (.seq (.ops [⟨(some 7), none, (.mv (.t 1))⟩,
      ⟨(some 8), none, (.mv (.t 0))⟩,
      ⟨(some 9), none, (.len .str (.t 8))⟩,
      ⟨(some 10), none, (.bin .int .lss (.t 7) (.t 9))⟩,
      ⟨(some 11), none, (.mv (.t 10))⟩,
      ⟨(some 12), (some (11, true)), (.mv (.t 2))⟩,
      ⟨(some 13), (some (11, true)), (.mv (.t 0))⟩,
      ⟨(some 14), (some (11, true)), (.mv (.t 1))⟩,
      ⟨(some 15), (some (11, true)), (.idx (.t 13) (.t 14))⟩,
      ⟨(some 16), (some (11, true)), (.call (.t 12) [(.t 15)])⟩,
      ⟨(some 17), none, (.pick (.t 11) (.t 16) (.c (.v (.bool false))))⟩])
    (.cond (.t 17)
    .skip
    (.exit 0)))
    (.block 1 (.ops [⟨(some 18), none, (.mv (.t 1))⟩,
      ⟨(some 19), none, (.bin .int .add (.t 18) (.c (.v (.int .i64 1))))⟩,
      ⟨(some 1), none, (.mv (.t 19))⟩])))))
    (.seq (.ops [⟨(some 20), none, (.mv (.t 1))⟩,
      ⟨(some 6), none, (.mv (.t 20))⟩])
    .ret)))⟩
theorem L89_ok : lowFn Try.prog Try.f89 [] = some L89 := by kernel_rfl

/-- assessor_lexer.digit -/
def L90 : LFn := ⟨9, [(.tmp 2)], (.seq (.ops [⟨(some 2), none, (.mv (.c (.v (.bool false))))⟩])
    (.seq (.ops [⟨(some 3), none, (.mv (.t 0))⟩,
      ⟨(some 4), none, (.bin .int .geq (.t 3) (.c (.v (.int .u8 48))))⟩,
      ⟨(some 5), none, (.mv (.t 4))⟩,
      ⟨(some 6), (some (5, true)), (.mv (.t 0))⟩,
      ⟨(some 7), (some (5, true)), (.bin .int .leq (.t 6) (.c (.v (.int .u8 57))))⟩,
      ⟨(some 8), none, (.pick (.t 5) (.t 7) (.c (.v (.bool false))))⟩,
      ⟨(some 2), none, (.mv (.t 8))⟩])
    .ret))⟩
theorem L90_ok : lowFn Try.prog Try.f90 [] = some L90 := by kernel_rfl

/-- assessor_lexer.skip -/
def L97 : LFn := ⟨26, [(.tmp 4)], (.seq (.ops [⟨(some 4), none, (.mv (.c (.v (.int .i64 0))))⟩])
    (.seq (.block 0 (.loop (.seq (.seq (.ops [⟨(some 5), none, (.mv (.t 1))⟩,
      ⟨(some 6), none, (.mv (.t 0))⟩,
      ⟨(some 7), none, (.len .str (.t 6))⟩,
      ⟨(some 8), none, (.bin .int .lss (.t 5) (.t 7))⟩])
    (.cond (.t 8)
    .skip
    (.exit 0)))
    (.block 1 (.block 2 (.seq (.ops [⟨(some 11), none, (.mv (.t 0))⟩,
      ⟨(some 12), none, (.mv (.t 1))⟩,
      ⟨(some 13), none, (.idx (.t 11) (.t 12))⟩,
      ⟨(some 14), none, (.call (.c (.fn (.func 124) [] [])) [(.t 13)])⟩,
      ⟨(some 10), none, (.mv (.t 14))⟩])
    (.cond (.t 10)
    (.ops [⟨(some 15), none, (.mv (.t 1))⟩,
      ⟨(some 16), none, (.bin .int .add (.t 15) (.c (.v (.int .i64 1))))⟩,
      ⟨(some 1), none, (.mv (.t 16))⟩])
    (.seq (.ops [⟨(some 18), none, (.mv (.t 0))⟩,
      ⟨(some 19), none, (.mv (.t 1))⟩,
      ⟨(some 20), none, (.idx (.t 18) (.t 19))⟩,
      ⟨(some 21), none, (.bin .int .eql (.t 20) (.c (.v (.int .u8 35))))⟩,
      ⟨(some 17), none, (.mv (.t 21))⟩])
    (.cond (.t 17)
    (.ops [⟨(some 22), none, (.mv (.t 0))⟩,
      ⟨(some 23), none, (.mv (.t 1))⟩,
      ⟨(some 24), none, (.call (.c (.fn (.func 89) [] [])) [(.t 22), (.t 23), (.c (.fn (.func 125) [] []))])⟩,
      ⟨(some 1), none, (.mv (.t 24))⟩])
    (.seq (.ops [⟨(some 9), none, (.mv (.t 1))⟩,
      ⟨(some 4), none, (.mv (.t 9))⟩])
    .ret))))))))))
    (.seq (.ops [⟨(some 25), none, (.mv (.t 1))⟩,
      ⟨(some 4), none, (.mv (.t 25))⟩])
    .ret)))⟩
theorem L97_ok : lowFn Try.prog Try.f97 [] = some L97 := by kernel_rfl

/-- assessor_lexer.fit -/
def L99 : LFn := ⟨41, [(.tmp 4)], (.seq (.ops [⟨(some 4), none, (.mv (.c (.v (.bool false))))⟩])
    (.seq (.seq (.ops [⟨(some 7), none, (.mv (.t 1))⟩,
      ⟨(some 8), none, (.len .slc (.t 7))⟩,
      ⟨(some 9), none, (.mv (.c (.v (.int .i64 0))))⟩])
    (.block 0 (.loop (.seq (.ops [⟨(some 10), none, (.bin .int .lss (.t 9) (.t 8))⟩])
    (.seq (.cond (.t 10)
    .skip
    (.exit 0))
    (.seq (.block 1 (.seq (.ops [⟨(some 11), none, (.iaddr 4 (.t 7) (.t 9))⟩,
      ⟨(some 12), none, (.load true 4 (.t 11))⟩,
      ⟨(some 6), none, (.alloc [(.v (.int .i64 0)), (.v (.int .i64 0)), (.v (.int .i64 0)), (.v (.int .i64 0))])⟩,
      ⟨none, none, (.store 4 (.t 6) (.t 12))⟩])
    (.seq (.ops [⟨(some 13), none, (.faddr 1 (.t 6))⟩,
      ⟨(some 14), none, (.load false 1 (.t 13))⟩,
      ⟨(some 15), none, (.bin .int .lss (.t 14) (.c (.v (.int .i64 0))))⟩,
      ⟨(some 16), none, (.mv (.t 15))⟩,
      ⟨(some 17), (some (16, false)), (.faddr 2 (.t 6))⟩,
      ⟨(some 18), (some (16, false)), (.load false 1 (.t 17))⟩,
      ⟨(some 19), (some (16, false)), (.faddr 1 (.t 6))⟩,
      ⟨(some 20), (some (16, false)), (.load false 1 (.t 19))⟩,
      ⟨(some 21), (some (16, false)), (.bin .int .lss (.t 18) (.t 20))⟩,
      ⟨(some 22), none, (.pick (.t 16) (.c (.v (.bool true))) (.t 21))⟩,
      ⟨(some 23), none, (.mv (.t 22))⟩,
      ⟨(some 24), (some (23, false)), (.faddr 3 (.t 6))⟩,
      ⟨(some 25), (some (23, false)), (.load false 1 (.t 24))⟩,
      ⟨(some 26), (some (23, false)), (.faddr 2 (.t 6))⟩,
      ⟨(some 27), (some (23, false)), (.load false 1 (.t 26))⟩,
      ⟨(some 28), (some (23, false)), (.bin .int .lss (.t 25) (.t 27))⟩,
      ⟨(some 29), none, (.pick (.t 23) (.c (.v (.bool true))) (.t 28))⟩,
      ⟨(some 30), none, (.mv (.t 29))⟩,
      ⟨(some 31), (some (30, false)), (.faddr 3 (.t 6))⟩,
      ⟨(some 32), (some (30, false)), (.load false 1 (.t 31))⟩,
      ⟨(some 33), (some (30, false)), (.mv (.t 0))⟩,
      ⟨(some 34), (some (30, false)), (.len .str (.t 33))⟩,
      ⟨(some 35), (some (30, false)), (.bin .int .gtr (.t 32) (.t 34))⟩,
      ⟨(some 36), none, (.pick (.t 30) (.c (.v (.bool true))) (.t 35))⟩])
    (.cond (.t 36)
    (.seq (.ops [⟨(some 4), none, (.mv (.c (.v (.bool false))))⟩])
    .ret)
    .skip))))
    (.ops [⟨(some 37), none, (.bin .int .add (.t 9) (.c (.v (.int .i64 1))))⟩,
      ⟨(some 9), none, (.mv (.t 37))⟩])))))))
    (.seq (.ops [⟨(some 38), none, (.mv (.t 1))⟩,
      ⟨(some 39), none, (.len .slc (.t 38))⟩,
      ⟨(some 40), none, (.bin .int .leq (.t 39) (.c (.v (.int .i64 4097))))⟩,
      ⟨(some 4), none, (.mv (.t 40))⟩])
    .ret)))⟩
theorem L99_ok : lowFn Try.prog Try.f99 [] = some L99 := by kernel_rfl

/-- assessor_lexer.white -/
def L124 : LFn := ⟨17, [(.tmp 2)], (.seq (.ops [⟨(some 2), none, (.mv (.c (.v (.bool false))))⟩])
    (.seq (.ops [⟨(some 3), none, (.mv (.t 0))⟩,
      ⟨(some 4), none, (.bin .int .eql (.t 3) (.c (.v (.int .u8 9))))⟩,
      ⟨(some 5), none, (.mv (.t 4))⟩,
      ⟨(some 6), (some (5, false)), (.mv (.t 0))⟩,
      ⟨(some 7), (some (5, false)), (.bin .int .eql (.t 6) (.c (.v (.int .u8 10))))⟩,
      ⟨(some 8), none, (.pick (.t 5) (.c (.v (.bool true))) (.t 7))⟩,
      ⟨(some 9), none, (.mv (.t 8))⟩,
      ⟨(some 10), (some (9, false)), (.mv (.t 0))⟩,
      ⟨(some 11), (some (9, false)), (.bin .int .eql (.t 10) (.c (.v (.int .u8 13))))⟩,
      ⟨(some 12), none, (.pick (.t 9) (.c (.v (.bool true))) (.t 11))⟩,
      ⟨(some 13), none, (.mv (.t 12))⟩,
      ⟨(some 14), (some (13, false)), (.mv (.t 0))⟩,
      ⟨(some 15), (some (13, false)), (.bin .int .eql (.t 14) (.c (.v (.int .u8 32))))⟩,
      ⟨(some 16), none, (.pick (.t 13) (.c (.v (.bool true))) (.t 15))⟩,
      ⟨(some 2), none, (.mv (.t 16))⟩])
    .ret))⟩
theorem L124_ok : lowFn Try.prog Try.f124 [] = some L124 := by kernel_rfl

/-- assessor_lexer.skip$1 -/
def L125 : LFn := ⟨5, [(.tmp 2)], (.seq (.ops [⟨(some 2), none, (.mv (.c (.v (.bool false))))⟩])
    (.seq (.ops [⟨(some 3), none, (.mv (.t 0))⟩,
      ⟨(some 4), none, (.bin .int .neq (.t 3) (.c (.v (.int .u8 10))))⟩,
      ⟨(some 2), none, (.mv (.t 4))⟩])
    .ret))⟩
theorem L125_ok : lowFn Try.prog Try.f125 [] = some L125 := by kernel_rfl

end Go.Proofs.Yteidffcimidinaa

/- The functions, lowered. Printed by a program (wip/tools/pl.py). -/
namespace Go.Proofs.Yteidffcimidinaa
open Go Go.Ax
set_option maxRecDepth 100000

/-- assessor_assessorlaw08.TypesWritten -/
def L3 : LFn := ⟨75, [(.tmp 4)], (.seq (.ops [⟨(some 2), none, (.box false (.t 0))⟩,
      ⟨(some 4), none, (.mv (.c (.v (.bool false))))⟩])
    (.seq (.seq (.ops [⟨(some 12), none, (.mv (.t 1))⟩,
      ⟨(some 13), none, (.call (.c (.fn (.func 6) [] [])) [(.t 12)])⟩,
      ⟨(some 14), none, (.not (.t 13))⟩,
      ⟨(some 15), none, (.mv (.t 14))⟩,
      ⟨(some 16), (some (15, false)), (.load true 3 (.t 2))⟩,
      ⟨(some 17), (some (15, false)), (.mv (.t 1))⟩,
      ⟨(some 18), (some (15, false)), (.call (.c (.fn (.func 7) [] [])) [(.t 16), (.t 17)])⟩,
      ⟨(some 19), (some (15, false)), (.not (.t 18))⟩,
      ⟨(some 20), none, (.pick (.t 15) (.c (.v (.bool true))) (.t 19))⟩,
      ⟨(some 21), none, (.mv (.t 20))⟩,
      ⟨(some 22), (some (21, false)), (.faddr 0 (.t 2))⟩,
      ⟨(some 23), (some (21, false)), (.load false 1 (.t 22))⟩,
      ⟨(some 24), (some (21, false)), (.bin .int .eql (.t 23) (.c (.v (.int .i64 4))))⟩,
      ⟨(some 25), (some (21, false)), (.mv (.t 24))⟩,
      ⟨(some 26), (some (25, true)), (.faddr 2 (.t 2))⟩,
      ⟨(some 27), (some (25, true)), (.load false 1 (.t 26))⟩,
      ⟨(some 28), (some (25, true)), (.call (.c (.fn (.func 8) [] [])) [(.t 27)])⟩,
      ⟨(some 29), (some (25, true)), (.not (.t 28))⟩,
      ⟨(some 30), (some (21, false)), (.pick (.t 25) (.t 29) (.c (.v (.bool false))))⟩,
      ⟨(some 31), none, (.pick (.t 21) (.c (.v (.bool true))) (.t 30))⟩])
    (.cond (.t 31)
    (.seq (.ops [⟨(some 32), none, (.call (.c (.fn (.func 9) [] [])) [])⟩,
      ⟨(some 4), none, (.mv (.t 32))⟩])
    .ret)
    .skip))
    (.seq (.ops [⟨(some 34), none, (.load true 3 (.t 2))⟩,
      ⟨(some 35), none, (.call (.c (.fn (.func 11) [] [])) [(.t 34)])⟩,
      ⟨(some 36), none, (.bin .str .add (.c (.v (.string (mkS [112, 114, 111, 99, 32, 102, 40, 120, 58, 32])))) (.t 35))⟩,
      ⟨(some 37), none, (.bin .str .add (.t 36) (.c (.v (.string (mkS [41, 32, 123, 32, 125])))))⟩,
      ⟨(some 38), none, (.call (.c (.fn (.func 10) [] [])) [(.t 37)])⟩,
      ⟨(some 33), none, (.mv (.t 38))⟩,
      ⟨(some 39), none, (.ext (.t 33) 0)⟩,
      ⟨(some 40), none, (.ext (.t 33) 1)⟩,
      ⟨(some 41), none, (.ext (.t 33) 2)⟩,
      ⟨(some 5), none, (.alloc [(.v (.int .i64 0)), (.v (.string (mkS []))), (.v (.int .i64 0)), (.v (.int .i64 0)), (.v (.slice none 0 0))])⟩,
      ⟨none, none, (.store 5 (.t 5) (.t 39))⟩,
      ⟨(some 6), none, (.mv (.t 40))⟩,
      ⟨(some 7), none, (.mv (.t 41))⟩])
    (.seq (.ops [⟨(some 43), none, (.load true 5 (.t 5))⟩,
      ⟨(some 44), none, (.bsl true 1 4 [(.v (.int .i64 0))] [(0, (.c (.v (.int .i64 0)))), (1, (.c (.v (.int .i64 0)))), (2, (.c (.v (.int .i64 0)))), (3, (.c (.v (.int .i64 0))))])⟩,
      ⟨(some 45), none, (.call (.c (.fn (.func 12) [] [])) [(.t 43), (.t 44)])⟩,
      ⟨(some 42), none, (.mv (.t 45))⟩,
      ⟨(some 46), none, (.ext (.t 42) 0)⟩,
      ⟨(some 47), none, (.ext (.t 42) 1)⟩,
      ⟨(some 8), none, (.alloc [(.v (.int .i64 0)), (.v (.string (mkS []))), (.v (.int .i64 0)), (.v (.int .i64 0)), (.v (.slice none 0 0))])⟩,
      ⟨none, none, (.store 5 (.t 8) (.t 46))⟩,
      ⟨(some 9), none, (.mv (.t 47))⟩])
    (.seq (.ops [⟨(some 49), none, (.load true 5 (.t 8))⟩,
      ⟨(some 50), none, (.mv (.t 1))⟩,
      ⟨(some 51), none, (.call (.c (.fn (.func 13) [] [])) [(.t 49), (.t 50)])⟩,
      ⟨(some 48), none, (.mv (.t 51))⟩,
      ⟨(some 52), none, (.ext (.t 48) 0)⟩,
      ⟨(some 53), none, (.ext (.t 48) 1)⟩,
      ⟨(some 10), none, (.alloc [(.v (.int .i64 0)), (.v (.int .i64 0)), (.v (.string (mkS [])))])⟩,
      ⟨none, none, (.store 3 (.t 10) (.t 52))⟩,
      ⟨(some 11), none, (.mv (.t 53))⟩])
    (.seq (.ops [⟨(some 54), none, (.mv (.t 7))⟩,
      ⟨(some 55), none, (.bin .int .eql (.t 54) (.c (.v (.int .i64 0))))⟩,
      ⟨(some 56), none, (.mv (.t 55))⟩,
      ⟨(some 57), (some (56, true)), (.mv (.t 6))⟩,
      ⟨(some 58), (some (56, true)), (.len .slc (.t 57))⟩,
      ⟨(some 59), (some (56, true)), (.bin .int .eql (.t 58) (.c (.v (.int .i64 0))))⟩,
      ⟨(some 60), none, (.pick (.t 56) (.t 59) (.c (.v (.bool false))))⟩,
      ⟨(some 61), none, (.mv (.t 60))⟩,
      ⟨(some 62), (some (61, true)), (.mv (.t 9))⟩,
      ⟨(some 63), none, (.pick (.t 61) (.t 62) (.c (.v (.bool false))))⟩,
      ⟨(some 64), none, (.mv (.t 63))⟩,
      ⟨(some 65), (some (64, true)), (.mv (.t 11))⟩,
      ⟨(some 66), none, (.pick (.t 64) (.t 65) (.c (.v (.bool false))))⟩,
      ⟨(some 67), none, (.mv (.t 66))⟩,
      ⟨(some 68), (some (67, true)), (.load true 3 (.t 10))⟩,
      ⟨(some 69), (some (67, true)), (.load true 3 (.t 2))⟩,
      ⟨(some 70), (some (67, true)), (.bin (.agg [.int, .int, .str]) .eql (.t 68) (.t 69))⟩,
      ⟨(some 71), none, (.pick (.t 67) (.t 70) (.c (.v (.bool false))))⟩,
      ⟨(some 72), none, (.mv (.t 71))⟩,
      ⟨(some 73), (some (72, true)), (.call (.c (.fn (.func 9) [] [])) [])⟩,
      ⟨(some 74), none, (.pick (.t 72) (.t 73) (.c (.v (.bool false))))⟩,
      ⟨(some 4), none, (.mv (.t 74))⟩])
    .ret))))))⟩
theorem L3_ok : lowFn Try.prog Try.f3 [⟨4, 1, .imm⟩] = some L3 := by kernel_rfl

/-- assessor_assessorref08.Few -/
def L6 : LFn := ⟨20, [(.tmp 2)], (.seq (.ops [⟨(some 2), none, (.mv (.c (.v (.bool false))))⟩])
    (.seq (.seq (.ops [⟨(some 3), none, (.mv (.c (.v (.int .i64 0))))⟩])
    (.block 0 (.loop (.seq (.seq (.ops [⟨(some 4), none, (.mv (.t 3))⟩,
      ⟨(some 5), none, (.mv (.t 0))⟩,
      ⟨(some 6), none, (.len .slc (.t 5))⟩,
      ⟨(some 7), none, (.bin .int .lss (.t 4) (.t 6))⟩])
    (.cond (.t 7)
    .skip
    (.exit 0)))
    (.seq (.block 1 (.seq (.ops [⟨(some 10), none, (.mv (.t 0))⟩,
      ⟨(some 11), none, (.mv (.t 3))⟩,
      ⟨(some 12), none, (.iaddr 2 (.t 10) (.t 11))⟩,
      ⟨(some 13), none, (.faddr 1 (.t 12))⟩,
      ⟨(some 14), none, (.load false 1 (.t 13))⟩,
      ⟨(some 15), none, (.len .slc (.t 14))⟩,
      ⟨(some 16), none, (.bin .int .gtr (.t 15) (.c (.v (.int .i64 20))))⟩])
    (.cond (.t 16)
    (.seq (.ops [⟨(some 2), none, (.mv (.c (.v (.bool false))))⟩])
    .ret)
    .skip)))
    (.ops [⟨(some 8), none, (.mv (.t 3))⟩,
      ⟨(some 9), none, (.bin .int .add (.t 8) (.c (.v (.int .i64 1))))⟩,
      ⟨(some 3), none, (.mv (.t 9))⟩]))))))
    (.seq (.ops [⟨(some 17), none, (.mv (.t 0))⟩,
      ⟨(some 18), none, (.len .slc (.t 17))⟩,
      ⟨(some 19), none, (.bin .int .leq (.t 18) (.c (.v (.int .i64 20))))⟩,
      ⟨(some 2), none, (.mv (.t 19))⟩])
    .ret)))⟩
theorem L6_ok : lowFn Try.prog Try.f6 [] = some L6 := by kernel_rfl

/-- assessor_types.Valid -/
def L7 : LFn := ⟨22, [(.tmp 4)], (.seq (.ops [⟨(some 2), none, (.box false (.t 0))⟩,
      ⟨(some 4), none, (.mv (.c (.v (.bool false))))⟩])
    (.seq (.draw [⟨(some 8), none, (.call (.c (.fn (.func 24) [] [])) [])⟩,
      ⟨(some 9), none, (.faddr 0 (.t 2))⟩,
      ⟨(some 10), none, (.load false 1 (.t 9))⟩,
      ⟨(some 11), none, (.look .int (.agg [(.v .nilFunc), (.v .nilFunc)]) true (.t 8) (.t 10))⟩,
      ⟨(some 7), none, (.mv (.t 11))⟩,
      ⟨(some 12), none, (.ext (.t 7) 0)⟩,
      ⟨(some 13), none, (.ext (.t 7) 1)⟩] [⟨(some 5), none, (.alloc [(.v .nilFunc), (.v .nilFunc)])⟩,
      ⟨none, none, (.store 2 (.t 5) (.t 12))⟩,
      ⟨(some 6), none, (.mv (.t 13))⟩])
    (.seq (.ops [⟨(some 14), none, (.mv (.t 6))⟩,
      ⟨(some 15), none, (.mv (.t 14))⟩,
      ⟨(some 16), (some (15, true)), (.faddr 0 (.t 5))⟩,
      ⟨(some 17), (some (15, true)), (.load false 1 (.t 16))⟩,
      ⟨(some 18), (some (15, true)), (.load true 3 (.t 2))⟩,
      ⟨(some 19), (some (15, true)), (.mv (.t 1))⟩,
      ⟨(some 20), (some (15, true)), (.call (.t 17) [(.t 18), (.t 19)])⟩,
      ⟨(some 21), none, (.pick (.t 15) (.t 20) (.c (.v (.bool false))))⟩,
      ⟨(some 4), none, (.mv (.t 21))⟩])
    .ret)))⟩
theorem L7_ok : lowFn Try.prog Try.f7 [⟨1, 7, .tail⟩] = some L7 := by kernel_rfl

/-- assessor_assessorlaw08.awake -/
def L9 : LFn := ⟨96, [(.tmp 0)], (.seq (.ops [⟨(some 0), none, (.mv (.c (.v (.bool false))))⟩])
    (.seq (.ops [⟨(some 11), none, (.build [(.v (.int .i64 0)), (.v (.int .i64 0)), (.v (.string (mkS [])))] [(0, (1, (.c (.v (.int .i64 1)))))])⟩,
      ⟨(some 12), none, (.build [(.v (.int .i64 0)), (.v (.int .i64 0)), (.v (.string (mkS [])))] [(0, (1, (.c (.v (.int .i64 2)))))])⟩,
      ⟨(some 1), none, (.alloc [(.v (.int .i64 0)), (.v (.int .i64 0)), (.v (.string (mkS [])))])⟩,
      ⟨(some 2), none, (.alloc [(.v (.int .i64 0)), (.v (.int .i64 0)), (.v (.string (mkS [])))])⟩,
      ⟨none, none, (.store 3 (.t 1) (.t 11))⟩,
      ⟨none, none, (.store 3 (.t 2) (.t 12))⟩])
    (.seq (.ops [⟨(some 13), none, (.build [(.v (.int .i64 0)), (.v (.int .i64 0)), (.v (.string (mkS [])))] [(0, (1, (.c (.v (.int .i64 3))))), (1, (1, (.c (.v (.int .i64 2)))))])⟩,
      ⟨(some 14), none, (.build [(.v (.int .i64 0)), (.v (.int .i64 0)), (.v (.string (mkS [])))] [(0, (1, (.c (.v (.int .i64 4))))), (2, (1, (.c (.v (.string (mkS [112, 111, 105, 110, 116]))))))])⟩,
      ⟨(some 3), none, (.alloc [(.v (.int .i64 0)), (.v (.int .i64 0)), (.v (.string (mkS [])))])⟩,
      ⟨(some 4), none, (.alloc [(.v (.int .i64 0)), (.v (.int .i64 0)), (.v (.string (mkS [])))])⟩,
      ⟨none, none, (.store 3 (.t 3) (.t 13))⟩,
      ⟨none, none, (.store 3 (.t 4) (.t 14))⟩])
    (.seq (.draw [⟨(some 16), none, (.call (.c (.fn (.func 29) [] [])) [])⟩,
      ⟨(some 17), none, (.load true 3 (.t 2))⟩,
      ⟨(some 18), none, (.build [(.v (.string (mkS []))), (.v (.int .i64 0)), (.v (.int .i64 0)), (.v (.string (mkS []))), (.v (.int .i64 0)), (.v (.int .i64 0)), (.v (.bool false)), (.v (.bool false))] [(0, (1, (.c (.v (.string (mkS [120])))))), (1, (3, (.t 17)))])⟩,
      ⟨(some 19), none, (.load true 3 (.t 3))⟩,
      ⟨(some 20), none, (.build [(.v (.string (mkS []))), (.v (.int .i64 0)), (.v (.int .i64 0)), (.v (.string (mkS []))), (.v (.int .i64 0)), (.v (.int .i64 0)), (.v (.bool false)), (.v (.bool false))] [(0, (1, (.c (.v (.string (mkS [97])))))), (1, (3, (.t 19)))])⟩,
      ⟨(some 21), none, (.load true 3 (.t 4))⟩,
      ⟨(some 22), none, (.build [(.v (.string (mkS []))), (.v (.int .i64 0)), (.v (.int .i64 0)), (.v (.string (mkS []))), (.v (.int .i64 0)), (.v (.int .i64 0)), (.v (.bool false)), (.v (.bool false))] [(0, (1, (.c (.v (.string (mkS [112])))))), (1, (3, (.t 21)))])⟩,
      ⟨(some 23), none, (.bsl true 8 3 [(.v (.string (mkS []))), (.v (.int .i64 0)), (.v (.int .i64 0)), (.v (.string (mkS []))), (.v (.int .i64 0)), (.v (.int .i64 0)), (.v (.bool false)), (.v (.bool false))] [(0, (.t 18)), (1, (.t 20)), (2, (.t 22))])⟩,
      ⟨(some 24), none, (.call (.c (.fn (.func 28) [] [])) [(.t 16), (.t 23)])⟩,
      ⟨(some 15), none, (.mv (.t 24))⟩,
      ⟨(some 25), none, (.ext (.t 15) 0)⟩,
      ⟨(some 26), none, (.ext (.t 15) 1)⟩,
      ⟨(some 5), none, (.mv (.t 25))⟩,
      ⟨(some 6), none, (.mv (.t 26))⟩] [])
    (.seq (.ops [⟨(some 28), none, (.call (.c (.fn (.func 29) [] [])) [])⟩,
      ⟨(some 29), none, (.call (.c (.fn (.func 30) [] [])) [(.t 28), (.c (.v (.string (mkS [112, 98]))))])⟩,
      ⟨(some 27), none, (.mv (.t 29))⟩,
      ⟨(some 30), none, (.ext (.t 27) 0)⟩,
      ⟨(some 31), none, (.ext (.t 27) 1)⟩,
      ⟨(some 32), none, (.ext (.t 27) 2)⟩,
      ⟨(some 33), none, (.ext (.t 27) 3)⟩,
      ⟨(some 9), none, (.alloc [(.v (.int .i64 0)), (.v (.int .i64 0)), (.v (.string (mkS [])))])⟩,
      ⟨(some 7), none, (.mv (.t 30))⟩,
      ⟨(some 8), none, (.mv (.t 31))⟩,
      ⟨none, none, (.store 3 (.t 9) (.t 32))⟩,
      ⟨(some 10), none, (.mv (.t 33))⟩])
    (.seq (.draw [⟨(some 34), none, (.call (.c (.fn (.func 29) [] [])) [])⟩,
      ⟨(some 35), none, (.load true 3 (.t 3))⟩,
      ⟨(some 36), none, (.load true 3 (.t 4))⟩,
      ⟨(some 37), none, (.bsl true 3 2 [(.v (.int .i64 0)), (.v (.int .i64 0)), (.v (.string (mkS [])))] [(0, (.t 35)), (1, (.t 36))])⟩,
      ⟨(some 38), none, (.call (.c (.fn (.func 32) [] [])) [(.t 34), (.t 37)])⟩,
      ⟨(some 39), none, (.load true 3 (.t 1))⟩,
      ⟨(some 40), none, (.load true 3 (.t 1))⟩,
      ⟨(some 41), none, (.load true 3 (.t 1))⟩,
      ⟨(some 42), none, (.load true 3 (.t 2))⟩,
      ⟨(some 43), none, (.bsl true 3 4 [(.v (.int .i64 0)), (.v (.int .i64 0)), (.v (.string (mkS [])))] [(0, (.t 39)), (1, (.t 40)), (2, (.t 41)), (3, (.t 42))])⟩,
      ⟨(some 44), none, (.call (.c (.fn (.func 31) [] [])) [(.t 38), (.t 43)])⟩,
      ⟨(some 45), none, (.mv (.t 44))⟩,
      ⟨(some 46), (some (45, true)), (.mv (.t 5))⟩,
      ⟨(some 47), (some (45, true)), (.len .slc (.t 46))⟩,
      ⟨(some 48), (some (45, true)), (.bin .int .eql (.t 47) (.c (.v (.int .i64 3))))⟩,
      ⟨(some 49), none, (.pick (.t 45) (.t 48) (.c (.v (.bool false))))⟩,
      ⟨(some 50), none, (.mv (.t 49))⟩,
      ⟨(some 51), (some (50, true)), (.mv (.t 5))⟩,
      ⟨(some 52), (some (50, true)), (.iaddr 8 (.t 51) (.c (.v (.int .i64 0))))⟩,
      ⟨(some 53), (some (50, true)), (.faddr 4 (.t 52))⟩,
      ⟨(some 54), (some (50, true)), (.load false 1 (.t 53))⟩,
      ⟨(some 55), (some (50, true)), (.bin .int .eql (.t 54) (.c (.v (.int .i64 0))))⟩,
      ⟨(some 56), none, (.pick (.t 50) (.t 55) (.c (.v (.bool false))))⟩,
      ⟨(some 57), none, (.mv (.t 56))⟩,
      ⟨(some 58), (some (57, true)), (.mv (.t 5))⟩,
      ⟨(some 59), (some (57, true)), (.iaddr 8 (.t 58) (.c (.v (.int .i64 1))))⟩,
      ⟨(some 60), (some (57, true)), (.faddr 4 (.t 59))⟩,
      ⟨(some 61), (some (57, true)), (.load false 1 (.t 60))⟩,
      ⟨(some 62), (some (57, true)), (.bin .int .eql (.t 61) (.c (.v (.int .i64 1))))⟩,
      ⟨(some 63), none, (.pick (.t 57) (.t 62) (.c (.v (.bool false))))⟩,
      ⟨(some 64), none, (.mv (.t 63))⟩,
      ⟨(some 65), (some (64, true)), (.mv (.t 5))⟩,
      ⟨(some 66), (some (64, true)), (.iaddr 8 (.t 65) (.c (.v (.int .i64 2))))⟩,
      ⟨(some 67), (some (64, true)), (.faddr 4 (.t 66))⟩,
      ⟨(some 68), (some (64, true)), (.load false 1 (.t 67))⟩,
      ⟨(some 69), (some (64, true)), (.bin .int .eql (.t 68) (.c (.v (.int .i64 3))))⟩,
      ⟨(some 70), none, (.pick (.t 64) (.t 69) (.c (.v (.bool false))))⟩,
      ⟨(some 71), none, (.mv (.t 70))⟩,
      ⟨(some 72), (some (71, true)), (.mv (.t 6))⟩,
      ⟨(some 73), (some (71, true)), (.bin .int .eql (.t 72) (.c (.v (.int .i64 5))))⟩,
      ⟨(some 74), none, (.pick (.t 71) (.t 73) (.c (.v (.bool false))))⟩,
      ⟨(some 75), none, (.mv (.t 74))⟩,
      ⟨(some 76), (some (75, true)), (.mv (.t 7))⟩,
      ⟨(some 77), (some (75, true)), (.bin .str .eql (.t 76) (.c (.v (.string (mkS [112, 111, 105, 110, 116])))))⟩,
      ⟨(some 78), none, (.pick (.t 75) (.t 77) (.c (.v (.bool false))))⟩,
      ⟨(some 79), none, (.mv (.t 78))⟩,
      ⟨(some 80), (some (79, true)), (.mv (.t 8))⟩,
      ⟨(some 81), (some (79, true)), (.bin .int .eql (.t 80) (.c (.v (.int .i64 1))))⟩,
      ⟨(some 82), none, (.pick (.t 79) (.t 81) (.c (.v (.bool false))))⟩,
      ⟨(some 83), none, (.mv (.t 82))⟩,
      ⟨(some 84), (some (83, true)), (.load true 3 (.t 9))⟩,
      ⟨(some 85), (some (83, true)), (.load true 3 (.t 2))⟩,
      ⟨(some 86), (some (83, true)), (.bin (.agg [.int, .int, .str]) .eql (.t 84) (.t 85))⟩,
      ⟨(some 87), none, (.pick (.t 83) (.t 86) (.c (.v (.bool false))))⟩,
      ⟨(some 88), none, (.mv (.t 87))⟩,
      ⟨(some 89), (some (88, true)), (.mv (.t 10))⟩,
      ⟨(some 90), none, (.pick (.t 88) (.t 89) (.c (.v (.bool false))))⟩,
      ⟨(some 91), none, (.mv (.t 90))⟩,
      ⟨(some 92), (some (91, true)), (.load true 3 (.t 3))⟩,
      ⟨(some 93), (some (91, true)), (.call (.c (.fn (.func 11) [] [])) [(.t 92)])⟩,
      ⟨(some 94), (some (91, true)), (.bin .str .eql (.t 93) (.c (.v (.string (mkS [105, 110, 116, 91, 50, 93])))))⟩,
      ⟨(some 95), none, (.pick (.t 91) (.t 94) (.c (.v (.bool false))))⟩,
      ⟨(some 0), none, (.mv (.t 95))⟩] [])
    .ret))))))⟩
theorem L9_ok : lowFn Try.prog Try.f9 [⟨3, 7, .imm⟩, ⟨5, 3, .imm⟩, ⟨5, 9, .imm⟩] = some L9 := by kernel_rfl

/-- assessor_types.Format -/
def L11 : LFn := ⟨27, [(.tmp 2)], (.seq (.ops [⟨(some 1), none, (.box false (.t 0))⟩,
      ⟨(some 2), none, (.mv (.c (.v (.string (mkS [])))))⟩])
    (.seq (.seq (.ops [⟨(some 3), none, (.faddr 0 (.t 1))⟩,
      ⟨(some 4), none, (.load false 1 (.t 3))⟩])
    (.block 0 (.seq (.ops [⟨(some 6), none, (.bin .int .eql (.t 4) (.c (.v (.int .i64 1))))⟩,
      ⟨(some 5), none, (.mv (.t 6))⟩])
    (.cond (.t 5)
    (.seq (.ops [⟨(some 2), none, (.mv (.c (.v (.string (mkS [105, 110, 116])))))⟩])
    .ret)
    (.seq (.ops [⟨(some 8), none, (.bin .int .eql (.t 4) (.c (.v (.int .i64 2))))⟩,
      ⟨(some 7), none, (.mv (.t 8))⟩])
    (.cond (.t 7)
    (.seq (.ops [⟨(some 2), none, (.mv (.c (.v (.string (mkS [98, 111, 111, 108])))))⟩])
    .ret)
    (.seq (.ops [⟨(some 10), none, (.bin .int .eql (.t 4) (.c (.v (.int .i64 3))))⟩,
      ⟨(some 9), none, (.mv (.t 10))⟩])
    (.cond (.t 9)
    (.seq (.ops [⟨(some 11), none, (.faddr 1 (.t 1))⟩,
      ⟨(some 12), none, (.load false 1 (.t 11))⟩,
      ⟨(some 13), none, (.bin .int .geq (.t 12) (.c (.v (.int .i64 0))))⟩])
    (.cond (.t 13)
    (.seq (.ops [⟨(some 14), none, (.faddr 1 (.t 1))⟩,
      ⟨(some 15), none, (.load false 1 (.t 14))⟩,
      ⟨(some 16), none, (.call (.c (.fn (.func 43) [] [])) [(.t 15)])⟩,
      ⟨(some 17), none, (.bin .str .add (.c (.v (.string (mkS [105, 110, 116, 91])))) (.t 16))⟩,
      ⟨(some 18), none, (.bin .str .add (.t 17) (.c (.v (.string (mkS [93])))))⟩,
      ⟨(some 2), none, (.mv (.t 18))⟩])
    .ret)
    .skip))
    (.seq (.ops [⟨(some 20), none, (.bin .int .eql (.t 4) (.c (.v (.int .i64 4))))⟩,
      ⟨(some 19), none, (.mv (.t 20))⟩])
    (.cond (.t 19)
    (.seq (.ops [⟨(some 21), none, (.faddr 2 (.t 1))⟩,
      ⟨(some 22), none, (.load false 1 (.t 21))⟩,
      ⟨(some 2), none, (.mv (.t 22))⟩])
    .ret)
    (.seq (.ops [⟨(some 24), none, (.bin .int .eql (.t 4) (.c (.v (.int .i64 5))))⟩,
      ⟨(some 23), none, (.mv (.t 24))⟩])
    (.cond (.t 23)
    (.seq (.ops [⟨(some 2), none, (.mv (.c (.v (.string (mkS [97, 114, 114, 97, 121])))))⟩])
    .ret)
    (.seq (.ops [⟨(some 26), none, (.bin .int .eql (.t 4) (.c (.v (.int .i64 6))))⟩,
      ⟨(some 25), none, (.mv (.t 26))⟩])
    (.cond (.t 25)
    (.seq (.ops [⟨(some 2), none, (.mv (.c (.v (.string (mkS [105, 110, 116, 32, 111, 114, 32, 98, 111, 111, 108])))))⟩])
    .ret)
    .skip))))))))))))))
    (.seq (.ops [⟨(some 2), none, (.mv (.c (.v (.string (mkS [])))))⟩])
    .ret)))⟩
theorem L11_ok : lowFn Try.prog Try.f11 [] = some L11 := by kernel_rfl

/-- assessor_types.Written -/
def L13 : LFn := ⟨48, [(.cell 4 true 3), (.tmp 5)], (.seq (.ops [⟨(some 2), none, (.box false (.t 0))⟩,
      ⟨(some 4), none, (.alloc [(.v (.int .i64 0)), (.v (.int .i64 0)), (.v (.string (mkS [])))])⟩,
      ⟨(some 5), none, (.mv (.c (.v (.bool false))))⟩])
    (.seq (.ops [⟨(some 6), none, (.alloc [(.v (.int .i64 0)), (.v (.int .i64 0)), (.v (.string (mkS [])))])⟩])
    (.seq (.block 0 (.seq (.ops [⟨(some 13), none, (.faddr 0 (.t 2))⟩,
      ⟨(some 14), none, (.load false 1 (.t 13))⟩,
      ⟨(some 15), none, (.bin .int .eql (.t 14) (.c (.v (.int .i64 10))))⟩,
      ⟨(some 12), none, (.mv (.t 15))⟩])
    (.cond (.t 12)
    (.seq (.ops [⟨(some 17), none, (.faddr 1 (.t 2))⟩,
      ⟨(some 18), none, (.load false 1 (.t 17))⟩,
      ⟨(some 19), none, (.call (.c (.fn (.func 44) [] [])) [(.t 18)])⟩,
      ⟨(some 16), none, (.mv (.t 19))⟩,
      ⟨(some 20), none, (.ext (.t 16) 0)⟩,
      ⟨(some 21), none, (.ext (.t 16) 1)⟩,
      ⟨(some 7), none, (.mv (.t 20))⟩,
      ⟨(some 8), none, (.mv (.t 21))⟩])
    (.seq (.seq (.ops [⟨(some 22), none, (.mv (.t 8))⟩,
      ⟨(some 23), none, (.not (.t 22))⟩])
    (.cond (.t 23)
    (.seq (.ops [⟨(some 24), none, (.build [(.v (.int .i64 0)), (.v (.int .i64 0)), (.v (.string (mkS [])))] [])⟩,
      ⟨none, none, (.store 3 (.t 4) (.t 24))⟩,
      ⟨(some 5), none, (.mv (.c (.v (.bool false))))⟩])
    .ret)
    .skip))
    (.ops [⟨(some 25), none, (.mv (.t 7))⟩,
      ⟨(some 26), none, (.build [(.v (.int .i64 0)), (.v (.int .i64 0)), (.v (.string (mkS [])))] [(0, (1, (.c (.v (.int .i64 3))))), (1, (1, (.t 25)))])⟩,
      ⟨none, none, (.store 3 (.t 6) (.t 26))⟩])))
    (.seq (.ops [⟨(some 28), none, (.faddr 0 (.t 2))⟩,
      ⟨(some 29), none, (.load false 1 (.t 28))⟩,
      ⟨(some 30), none, (.bin .int .neq (.t 29) (.c (.v (.int .i64 9))))⟩,
      ⟨(some 27), none, (.mv (.t 30))⟩])
    (.cond (.t 27)
    (.seq (.ops [⟨(some 31), none, (.build [(.v (.int .i64 0)), (.v (.int .i64 0)), (.v (.string (mkS [])))] [])⟩,
      ⟨none, none, (.store 3 (.t 4) (.t 31))⟩,
      ⟨(some 5), none, (.mv (.c (.v (.bool false))))⟩])
    .ret)
    (.seq (.ops [⟨(some 33), none, (.faddr 1 (.t 2))⟩,
      ⟨(some 34), none, (.load false 1 (.t 33))⟩,
      ⟨(some 35), none, (.bin .str .eql (.t 34) (.c (.v (.string (mkS [105, 110, 116])))))⟩,
      ⟨(some 32), none, (.mv (.t 35))⟩])
    (.cond (.t 32)
    (.ops [⟨(some 36), none, (.faddr 0 (.t 6))⟩,
      ⟨none, none, (.store 1 (.t 36) (.c (.v (.int .i64 1))))⟩])
    (.seq (.ops [⟨(some 38), none, (.faddr 1 (.t 2))⟩,
      ⟨(some 39), none, (.load false 1 (.t 38))⟩,
      ⟨(some 40), none, (.bin .str .eql (.t 39) (.c (.v (.string (mkS [98, 111, 111, 108])))))⟩,
      ⟨(some 37), none, (.mv (.t 40))⟩])
    (.cond (.t 37)
    (.ops [⟨(some 41), none, (.faddr 0 (.t 6))⟩,
      ⟨none, none, (.store 1 (.t 41) (.c (.v (.int .i64 2))))⟩])
    (.ops [⟨(some 9), none, (.faddr 1 (.t 2))⟩,
      ⟨(some 10), none, (.load false 1 (.t 9))⟩,
      ⟨(some 11), none, (.build [(.v (.int .i64 0)), (.v (.int .i64 0)), (.v (.string (mkS [])))] [(0, (1, (.c (.v (.int .i64 4))))), (2, (1, (.t 10)))])⟩,
      ⟨none, none, (.store 3 (.t 6) (.t 11))⟩]))))))))))
    (.seq (.seq (.ops [⟨(some 42), none, (.load true 3 (.t 6))⟩,
      ⟨(some 43), none, (.mv (.t 1))⟩,
      ⟨(some 44), none, (.call (.c (.fn (.func 7) [] [])) [(.t 42), (.t 43)])⟩,
      ⟨(some 45), none, (.not (.t 44))⟩])
    (.cond (.t 45)
    (.seq (.ops [⟨(some 46), none, (.build [(.v (.int .i64 0)), (.v (.int .i64 0)), (.v (.string (mkS [])))] [])⟩,
      ⟨none, none, (.store 3 (.t 4) (.t 46))⟩,
      ⟨(some 5), none, (.mv (.c (.v (.bool false))))⟩])
    .ret)
    .skip))
    (.seq (.ops [⟨(some 47), none, (.load true 3 (.t 6))⟩,
      ⟨none, none, (.store 3 (.t 4) (.t 47))⟩,
      ⟨(some 5), none, (.mv (.c (.v (.bool true))))⟩])
    .ret)))))⟩
theorem L13_ok : lowFn Try.prog Try.f13 [] = some L13 := by kernel_rfl

/-- assessor_types.shapes -/
def L24 : LFn := ⟨13, [(.tmp 0)], (.seq (.ops [⟨(some 0), none, (.mv (.c (.v (.map none))))⟩])
    (.seq (.ops [⟨(some 1), none, (.mv (.c (.fn (.func 61) [] [])))⟩])
    (.seq (.ops [⟨(some 2), none, (.mv (.c (.fn (.func 62) [] [])))⟩])
    (.seq (.ops [⟨(some 3), none, .mkmap⟩,
      ⟨(some 4), none, (.mv (.t 1))⟩,
      ⟨(some 5), none, (.mv (.t 2))⟩,
      ⟨(some 6), none, (.build [(.v .nilFunc), (.v .nilFunc)] [(0, (1, (.t 4))), (1, (1, (.t 5)))])⟩,
      ⟨none, none, (.ins .int (.t 3) (.c (.v (.int .i64 1))) (.t 6))⟩,
      ⟨(some 7), none, (.mv (.t 1))⟩,
      ⟨(some 8), none, (.mv (.t 2))⟩,
      ⟨(some 9), none, (.build [(.v .nilFunc), (.v .nilFunc)] [(0, (1, (.t 7))), (1, (1, (.t 8)))])⟩,
      ⟨none, none, (.ins .int (.t 3) (.c (.v (.int .i64 2))) (.t 9))⟩,
      ⟨(some 10), none, (.build [(.v .nilFunc), (.v .nilFunc)] [(0, (1, (.c (.fn (.func 63) [] [])))), (1, (1, (.c (.fn (.func 64) [] []))))])⟩,
      ⟨none, none, (.ins .int (.t 3) (.c (.v (.int .i64 3))) (.t 10))⟩,
      ⟨(some 11), none, (.build [(.v .nilFunc), (.v .nilFunc)] [(0, (1, (.c (.fn (.func 66) [] [])))), (1, (1, (.c (.fn (.func 68) [] []))))])⟩,
      ⟨none, none, (.ins .int (.t 3) (.c (.v (.int .i64 4))) (.t 11))⟩,
      ⟨(some 12), none, (.mv (.t 3))⟩,
      ⟨(some 0), none, (.mv (.t 12))⟩,
      ⟨(some 0), none, (.frz (.t 0))⟩])
    .ret))))⟩
theorem L24_ok : lowFn Try.prog Try.f24 [⟨3, 15, (.pre 0 (.frz (.t 0)))⟩] = some L24 := by kernel_rfl

/-- assessor_types.Layout -/
def L28 : LFn := ⟨38, [(.tmp 4), (.tmp 5)], (.seq (.ops [⟨(some 4), none, (.mv (.c (.v (.slice none 0 0))))⟩,
      ⟨(some 5), none, (.mv (.c (.v (.int .i64 0))))⟩])
    (.seq (.ops [⟨(some 10), none, (.mv (.t 1))⟩,
      ⟨(some 11), none, (.call (.c (.fn (.func 75) [] [])) [(.t 10)])⟩,
      ⟨(some 6), none, (.mv (.t 11))⟩,
      ⟨(some 7), none, (.mv (.c (.v (.int .i64 0))))⟩])
    (.seq (.seq (.ops [⟨(some 12), none, (.mv (.t 1))⟩,
      ⟨(some 13), none, (.len .slc (.t 12))⟩,
      ⟨(some 14), none, (.mv (.c (.v (.int .i64 0))))⟩])
    (.block 0 (.loop (.seq (.ops [⟨(some 15), none, (.bin .int .lss (.t 14) (.t 13))⟩])
    (.seq (.cond (.t 15)
    .skip
    (.exit 0))
    (.seq (.block 1 (.seq (.ops [⟨(some 16), none, (.mv (.t 14))⟩,
      ⟨(some 17), none, (.iaddr 8 (.t 12) (.t 14))⟩,
      ⟨(some 18), none, (.load true 8 (.t 17))⟩,
      ⟨(some 9), none, (.alloc [(.v (.string (mkS []))), (.v (.int .i64 0)), (.v (.int .i64 0)), (.v (.string (mkS []))), (.v (.int .i64 0)), (.v (.int .i64 0)), (.v (.bool false)), (.v (.bool false))])⟩,
      ⟨(some 8), none, (.mv (.t 16))⟩,
      ⟨none, none, (.store 8 (.t 9) (.t 18))⟩])
    (.seq (.seq (.ops [⟨(some 19), none, (.faddr 1 (.t 9))⟩,
      ⟨(some 20), none, (.load true 3 (.t 19))⟩,
      ⟨(some 21), none, (.mv (.t 0))⟩,
      ⟨(some 22), none, (.call (.c (.fn (.func 7) [] [])) [(.t 20), (.t 21)])⟩,
      ⟨(some 23), none, (.not (.t 22))⟩])
    (.cond (.t 23)
    (.seq (.ops [⟨(some 4), none, (.mv (.c (.v (.slice none 0 0))))⟩,
      ⟨(some 5), none, (.mv (.c (.v (.int .i64 0))))⟩])
    .ret)
    .skip))
    (.seq (.ops [⟨(some 24), none, (.mv (.t 6))⟩,
      ⟨(some 25), none, (.mv (.t 8))⟩,
      ⟨(some 26), none, (.mv (.t 7))⟩,
      ⟨(some 27), none, (.iaddr 8 (.t 24) (.t 25))⟩,
      ⟨(some 28), none, (.faddr 4 (.t 27))⟩,
      ⟨none, none, (.store 1 (.t 28) (.t 26))⟩])
    (.ops [⟨(some 29), none, (.mv (.t 7))⟩,
      ⟨(some 30), none, (.faddr 1 (.t 9))⟩,
      ⟨(some 31), none, (.load true 3 (.t 30))⟩,
      ⟨(some 32), none, (.mv (.t 0))⟩,
      ⟨(some 33), none, (.call (.c (.fn (.func 76) [] [])) [(.t 31), (.t 32)])⟩,
      ⟨(some 34), none, (.bin .int .add (.t 29) (.t 33))⟩,
      ⟨(some 7), none, (.mv (.t 34))⟩])))))
    (.ops [⟨(some 35), none, (.bin .int .add (.t 14) (.c (.v (.int .i64 1))))⟩,
      ⟨(some 14), none, (.mv (.t 35))⟩])))))))
    (.seq (.ops [⟨(some 36), none, (.mv (.t 6))⟩,
      ⟨(some 37), none, (.mv (.t 7))⟩,
      ⟨(some 4), none, (.mv (.t 36))⟩,
      ⟨(some 5), none, (.mv (.t 37))⟩,
      ⟨(some 4), none, (.frz (.t 4))⟩])
    .ret))))⟩
theorem L28_ok : lowFn Try.prog Try.f28 [⟨10, 4, (.pre 4 (.frz (.t 4)))⟩] = some L28 := by kernel_rfl

/-- assessor_assessorlaw08.point -/
def L29 : LFn := ⟨8, [(.tmp 0)], (.seq (.ops [⟨(some 0), none, (.mv (.c (.v (.slice none 0 0))))⟩])
    (.seq (.ops [⟨(some 1), none, (.build [(.v (.int .i64 0)), (.v (.int .i64 0)), (.v (.string (mkS [])))] [(0, (1, (.c (.v (.int .i64 1)))))])⟩,
      ⟨(some 2), none, (.build [(.v (.string (mkS []))), (.v (.int .i64 0)), (.v (.int .i64 0)), (.v (.string (mkS [])))] [(0, (1, (.c (.v (.string (mkS [112, 120])))))), (1, (3, (.t 1)))])⟩,
      ⟨(some 3), none, (.build [(.v (.int .i64 0)), (.v (.int .i64 0)), (.v (.string (mkS [])))] [(0, (1, (.c (.v (.int .i64 2)))))])⟩,
      ⟨(some 4), none, (.build [(.v (.string (mkS []))), (.v (.int .i64 0)), (.v (.int .i64 0)), (.v (.string (mkS [])))] [(0, (1, (.c (.v (.string (mkS [112, 98])))))), (1, (3, (.t 3)))])⟩,
      ⟨(some 5), none, (.bsl true 4 2 [(.v (.string (mkS []))), (.v (.int .i64 0)), (.v (.int .i64 0)), (.v (.string (mkS [])))] [(0, (.t 2)), (1, (.t 4))])⟩,
      ⟨(some 6), none, (.build [(.v (.string (mkS []))), (.v (.slice none 0 0))] [(0, (1, (.c (.v (.string (mkS [112, 111, 105, 110, 116])))))), (1, (1, (.t 5)))])⟩,
      ⟨(some 7), none, (.bsl false 2 1 [(.v (.string (mkS []))), (.v (.slice none 0 0))] [(0, (.t 6))])⟩,
      ⟨(some 0), none, (.mv (.t 7))⟩,
      ⟨(some 0), none, (.frz (.t 0))⟩])
    .ret))⟩
theorem L29_ok : lowFn Try.prog Try.f29 [⟨1, 4, .imm⟩, ⟨1, 8, (.pre 0 (.frz (.t 0)))⟩] = some L29 := by kernel_rfl

/-- assessor_types.Member -/
def L30 : LFn := ⟨34, [(.tmp 4), (.tmp 5), (.cell 6 true 3), (.tmp 7)], (.seq (.ops [⟨(some 3), none, (.box false (.t 1))⟩,
      ⟨(some 4), none, (.mv (.c (.v (.string (mkS [])))))⟩,
      ⟨(some 5), none, (.mv (.c (.v (.int .i64 0))))⟩,
      ⟨(some 6), none, (.alloc [(.v (.int .i64 0)), (.v (.int .i64 0)), (.v (.string (mkS [])))])⟩,
      ⟨(some 7), none, (.mv (.c (.v (.bool false))))⟩])
    (.seq (.seq (.ops [⟨(some 11), none, (.mv (.t 0))⟩,
      ⟨(some 12), none, (.len .slc (.t 11))⟩,
      ⟨(some 13), none, (.mv (.c (.v (.int .i64 0))))⟩])
    (.block 0 (.loop (.seq (.ops [⟨(some 14), none, (.bin .int .lss (.t 13) (.t 12))⟩])
    (.seq (.cond (.t 14)
    .skip
    (.exit 0))
    (.seq (.block 1 (.seq (.ops [⟨(some 15), none, (.iaddr 2 (.t 11) (.t 13))⟩,
      ⟨(some 16), none, (.load true 2 (.t 15))⟩,
      ⟨(some 9), none, (.alloc [(.v (.string (mkS []))), (.v (.slice none 0 0))])⟩,
      ⟨none, none, (.store 2 (.t 9) (.t 16))⟩])
    (.seq (.ops [⟨(some 17), none, (.faddr 1 (.t 9))⟩,
      ⟨(some 18), none, (.load false 1 (.t 17))⟩,
      ⟨(some 19), none, (.mkfn (.func 78) [] [(.t 3)])⟩,
      ⟨(some 20), none, (.call (.c (.fn (.func 77) [] [])) [(.t 18), (.t 19)])⟩,
      ⟨(some 10), none, (.mv (.t 20))⟩])
    (.seq (.ops [⟨(some 21), none, (.mv (.t 10))⟩,
      ⟨(some 22), none, (.bin .int .geq (.t 21) (.c (.v (.int .i64 0))))⟩])
    (.cond (.t 22)
    (.seq (.draw [⟨(some 23), none, (.faddr 0 (.t 9))⟩,
      ⟨(some 24), none, (.load false 1 (.t 23))⟩,
      ⟨(some 25), none, (.mv (.t 10))⟩,
      ⟨(some 26), none, (.faddr 1 (.t 9))⟩,
      ⟨(some 27), none, (.load false 1 (.t 26))⟩,
      ⟨(some 28), none, (.mv (.t 10))⟩,
      ⟨(some 29), none, (.iaddr 4 (.t 27) (.t 28))⟩,
      ⟨(some 30), none, (.faddr 1 (.t 29))⟩,
      ⟨(some 31), none, (.load true 3 (.t 30))⟩,
      ⟨(some 4), none, (.mv (.t 24))⟩,
      ⟨(some 5), none, (.mv (.t 25))⟩] [⟨none, none, (.store 3 (.t 6) (.t 31))⟩,
      ⟨(some 7), none, (.mv (.c (.v (.bool true))))⟩])
    .ret)
    .skip)))))
    (.ops [⟨(some 32), none, (.bin .int .add (.t 13) (.c (.v (.int .i64 1))))⟩,
      ⟨(some 13), none, (.mv (.t 32))⟩])))))))
    (.seq (.ops [⟨(some 33), none, (.build [(.v (.int .i64 0)), (.v (.int .i64 0)), (.v (.string (mkS [])))] [])⟩,
      ⟨(some 4), none, (.mv (.c (.v (.string (mkS [])))))⟩,
      ⟨(some 5), none, (.mv (.c (.v (.int .i64 0))))⟩,
      ⟨none, none, (.store 3 (.t 6) (.t 33))⟩,
      ⟨(some 7), none, (.mv (.c (.v (.bool false))))⟩])
    .ret)))⟩
theorem L30_ok : lowFn Try.prog Try.f30 [⟨6, 11, .tail⟩] = some L30 := by kernel_rfl

/-- assessor_assessorref08.Equal -/
def L31 : LFn := ⟨26, [(.tmp 4)], (.seq (.ops [⟨(some 4), none, (.mv (.c (.v (.bool false))))⟩])
    (.seq (.seq (.ops [⟨(some 6), none, (.mv (.t 0))⟩,
      ⟨(some 7), none, (.len .slc (.t 6))⟩,
      ⟨(some 8), none, (.mv (.t 1))⟩,
      ⟨(some 9), none, (.len .slc (.t 8))⟩,
      ⟨(some 10), none, (.bin .int .neq (.t 7) (.t 9))⟩])
    (.cond (.t 10)
    (.seq (.ops [⟨(some 4), none, (.mv (.c (.v (.bool false))))⟩])
    .ret)
    .skip))
    (.seq (.seq (.ops [⟨(some 5), none, (.mv (.c (.v (.int .i64 0))))⟩])
    (.block 0 (.loop (.seq (.seq (.ops [⟨(some 11), none, (.mv (.t 5))⟩,
      ⟨(some 12), none, (.mv (.t 0))⟩,
      ⟨(some 13), none, (.len .slc (.t 12))⟩,
      ⟨(some 14), none, (.bin .int .lss (.t 11) (.t 13))⟩])
    (.cond (.t 14)
    .skip
    (.exit 0)))
    (.seq (.block 1 (.seq (.draw [⟨(some 17), none, (.mv (.t 0))⟩,
      ⟨(some 18), none, (.mv (.t 5))⟩,
      ⟨(some 19), none, (.iaddr 3 (.t 17) (.t 18))⟩,
      ⟨(some 20), none, (.load true 3 (.t 19))⟩,
      ⟨(some 21), none, (.mv (.t 1))⟩,
      ⟨(some 22), none, (.mv (.t 5))⟩,
      ⟨(some 23), none, (.iaddr 3 (.t 21) (.t 22))⟩,
      ⟨(some 24), none, (.load true 3 (.t 23))⟩,
      ⟨(some 25), none, (.bin (.agg [.int, .int, .str]) .neq (.t 20) (.t 24))⟩] [])
    (.cond (.t 25)
    (.seq (.ops [⟨(some 4), none, (.mv (.c (.v (.bool false))))⟩])
    .ret)
    .skip)))
    (.ops [⟨(some 15), none, (.mv (.t 5))⟩,
      ⟨(some 16), none, (.bin .int .add (.t 15) (.c (.v (.int .i64 1))))⟩,
      ⟨(some 5), none, (.mv (.t 16))⟩]))))))
    (.seq (.ops [⟨(some 4), none, (.mv (.c (.v (.bool true))))⟩])
    .ret))))⟩
theorem L31_ok : lowFn Try.prog Try.f31 [] = some L31 := by kernel_rfl

/-- assessor_types.Scalars -/
def L32 : LFn := ⟨30, [(.tmp 4)], (.seq (.ops [⟨(some 4), none, (.mv (.c (.v (.slice none 0 0))))⟩])
    (.seq (.ops [⟨(some 5), none, (.mv (.c (.v (.slice none 0 0))))⟩,
      ⟨(some 5), none, (.own 3 (.t 5))⟩])
    (.seq (.seq (.ops [⟨(some 8), none, (.mv (.t 1))⟩,
      ⟨(some 9), none, (.len .slc (.t 8))⟩,
      ⟨(some 10), none, (.mv (.c (.v (.int .i64 0))))⟩])
    (.block 0 (.loop (.seq (.ops [⟨(some 11), none, (.bin .int .lss (.t 10) (.t 9))⟩])
    (.seq (.cond (.t 11)
    .skip
    (.exit 0))
    (.seq (.block 1 (.seq (.ops [⟨(some 12), none, (.iaddr 3 (.t 8) (.t 10))⟩,
      ⟨(some 13), none, (.load true 3 (.t 12))⟩,
      ⟨(some 7), none, (.alloc [(.v (.int .i64 0)), (.v (.int .i64 0)), (.v (.string (mkS [])))])⟩,
      ⟨none, none, (.store 3 (.t 7) (.t 13))⟩])
    (.seq (.seq (.ops [⟨(some 14), none, (.load true 3 (.t 7))⟩,
      ⟨(some 15), none, (.mv (.t 0))⟩,
      ⟨(some 16), none, (.call (.c (.fn (.func 7) [] [])) [(.t 14), (.t 15)])⟩,
      ⟨(some 17), none, (.not (.t 16))⟩])
    (.cond (.t 17)
    (.seq (.ops [⟨(some 4), none, (.mv (.c (.v (.slice none 0 0))))⟩])
    .ret)
    .skip))
    (.draw [⟨(some 18), none, (.mv (.t 5))⟩,
      ⟨(some 19), none, (.call (.c (.fn (.func 24) [] [])) [])⟩,
      ⟨(some 20), none, (.faddr 0 (.t 7))⟩,
      ⟨(some 21), none, (.load false 1 (.t 20))⟩,
      ⟨(some 22), none, (.look .int (.agg [(.v .nilFunc), (.v .nilFunc)]) false (.t 19) (.t 21))⟩,
      ⟨(some 23), none, (.fld false 1 1 (.t 22))⟩,
      ⟨(some 24), none, (.load true 3 (.t 7))⟩,
      ⟨(some 25), none, (.mv (.t 0))⟩,
      ⟨(some 26), none, (.call (.t 23) [(.t 24), (.t 25)])⟩] [⟨(some 27), none, (.append 3 32 (.t 18) (.t 26))⟩,
      ⟨(some 5), none, (.mv (.t 27))⟩]))))
    (.ops [⟨(some 28), none, (.bin .int .add (.t 10) (.c (.v (.int .i64 1))))⟩,
      ⟨(some 10), none, (.mv (.t 28))⟩])))))))
    (.seq (.ops [⟨(some 29), none, (.mv (.t 5))⟩,
      ⟨(some 4), none, (.mv (.t 29))⟩,
      ⟨(some 4), none, (.frz (.t 4))⟩])
    .ret))))⟩
theorem L32_ok : lowFn Try.prog Try.f32 [⟨9, 2, (.pre 4 (.frz (.t 4)))⟩, ⟨1, 1, (.pre 5 (.own 3 (.t 5)))⟩, ⟨7, 9, .tail⟩] = some L32 := by kernel_rfl

/-- assessor_types.digits -/
def L43 : LFn := ⟨16, [(.tmp 2)], (.seq (.ops [⟨(some 2), none, (.mv (.c (.v (.string (mkS [])))))⟩])
    (.seq (.seq (.ops [⟨(some 3), none, (.mv (.t 0))⟩,
      ⟨(some 4), none, (.bin .int .lss (.t 3) (.c (.v (.int .i64 10))))⟩])
    (.cond (.t 4)
    (.seq (.ops [⟨(some 5), none, (.mv (.t 0))⟩,
      ⟨(some 6), none, (.bin .int .add (.c (.v (.int .i64 48))) (.t 5))⟩,
      ⟨(some 7), none, (.conv (.toInt .i32) (.t 6))⟩,
      ⟨(some 8), none, (.conv .runeStr (.t 7))⟩,
      ⟨(some 2), none, (.mv (.t 8))⟩])
    .ret)
    .skip))
    (.seq (.ops [⟨(some 9), none, (.mv (.t 0))⟩,
      ⟨(some 10), none, (.bin .int .quo (.t 9) (.c (.v (.int .i64 10))))⟩,
      ⟨(some 11), none, (.call (.c (.fn (.func 43) [] [])) [(.t 10)])⟩,
      ⟨(some 12), none, (.mv (.t 0))⟩,
      ⟨(some 13), none, (.bin .int .rem (.t 12) (.c (.v (.int .i64 10))))⟩,
      ⟨(some 14), none, (.call (.c (.fn (.func 43) [] [])) [(.t 13)])⟩,
      ⟨(some 15), none, (.bin .str .add (.t 11) (.t 14))⟩,
      ⟨(some 2), none, (.mv (.t 15))⟩])
    .ret)))⟩
theorem L43_ok : lowFn Try.prog Try.f43 [] = some L43 := by kernel_rfl

/-- assessor_types.shapes$1 -/
def L61 : LFn := ⟨13, [(.tmp 4)], (.seq (.ops [⟨(some 2), none, (.box false (.t 0))⟩,
      ⟨(some 4), none, (.mv (.c (.v (.bool false))))⟩])
    (.seq (.ops [⟨(some 5), none, (.faddr 1 (.t 2))⟩,
      ⟨(some 6), none, (.load false 1 (.t 5))⟩,
      ⟨(some 7), none, (.bin .int .eql (.t 6) (.c (.v (.int .i64 0))))⟩,
      ⟨(some 8), none, (.mv (.t 7))⟩,
      ⟨(some 9), (some (8, true)), (.faddr 2 (.t 2))⟩,
      ⟨(some 10), (some (8, true)), (.load false 1 (.t 9))⟩,
      ⟨(some 11), (some (8, true)), (.bin .str .eql (.t 10) (.c (.v (.string (mkS [])))))⟩,
      ⟨(some 12), none, (.pick (.t 8) (.t 11) (.c (.v (.bool false))))⟩,
      ⟨(some 4), none, (.mv (.t 12))⟩])
    .ret))⟩
theorem L61_ok : lowFn Try.prog Try.f61 [] = some L61 := by kernel_rfl

/-- assessor_types.shapes$2 -/
def L62 : LFn := ⟨9, [(.tmp 4)], (.seq (.ops [⟨(some 2), none, (.box false (.t 0))⟩,
      ⟨(some 4), none, (.mv (.c (.v (.slice none 0 0))))⟩])
    (.seq (.ops [⟨(some 5), none, (.faddr 0 (.t 2))⟩,
      ⟨(some 6), none, (.load false 1 (.t 5))⟩,
      ⟨(some 7), none, (.build [(.v (.int .i64 0)), (.v (.int .i64 0)), (.v (.string (mkS [])))] [(0, (1, (.t 6)))])⟩,
      ⟨(some 8), none, (.bsl false 3 1 [(.v (.int .i64 0)), (.v (.int .i64 0)), (.v (.string (mkS [])))] [(0, (.t 7))])⟩,
      ⟨(some 4), none, (.mv (.t 8))⟩,
      ⟨(some 4), none, (.frz (.t 4))⟩])
    .ret))⟩
theorem L62_ok : lowFn Try.prog Try.f62 [⟨1, 5, (.pre 4 (.frz (.t 4)))⟩] = some L62 := by kernel_rfl

/-- assessor_types.shapes$3 -/
def L63 : LFn := ⟨18, [(.tmp 4)], (.seq (.ops [⟨(some 2), none, (.box false (.t 0))⟩,
      ⟨(some 4), none, (.mv (.c (.v (.bool false))))⟩])
    (.seq (.ops [⟨(some 5), none, (.faddr 1 (.t 2))⟩,
      ⟨(some 6), none, (.load false 1 (.t 5))⟩,
      ⟨(some 7), none, (.bin .int .geq (.t 6) (.c (.v (.int .i64 1))))⟩,
      ⟨(some 8), none, (.mv (.t 7))⟩,
      ⟨(some 9), (some (8, true)), (.faddr 1 (.t 2))⟩,
      ⟨(some 10), (some (8, true)), (.load false 1 (.t 9))⟩,
      ⟨(some 11), (some (8, true)), (.bin .int .leq (.t 10) (.c (.v (.int .i64 8))))⟩,
      ⟨(some 12), none, (.pick (.t 8) (.t 11) (.c (.v (.bool false))))⟩,
      ⟨(some 13), none, (.mv (.t 12))⟩,
      ⟨(some 14), (some (13, true)), (.faddr 2 (.t 2))⟩,
      ⟨(some 15), (some (13, true)), (.load false 1 (.t 14))⟩,
      ⟨(some 16), (some (13, true)), (.bin .str .eql (.t 15) (.c (.v (.string (mkS [])))))⟩,
      ⟨(some 17), none, (.pick (.t 13) (.t 16) (.c (.v (.bool false))))⟩,
      ⟨(some 4), none, (.mv (.t 17))⟩])
    .ret))⟩
theorem L63_ok : lowFn Try.prog Try.f63 [] = some L63 := by kernel_rfl

/-- assessor_types.shapes$4 -/
def L64 : LFn := ⟨10, [(.tmp 4)], (.seq (.ops [⟨(some 2), none, (.box false (.t 0))⟩,
      ⟨(some 4), none, (.mv (.c (.v (.slice none 0 0))))⟩])
    (.seq (.ops [⟨(some 5), none, (.build [(.v (.int .i64 0)), (.v (.int .i64 0)), (.v (.string (mkS [])))] [(0, (1, (.c (.v (.int .i64 1)))))])⟩,
      ⟨(some 6), none, (.bsl true 3 1 [(.v (.int .i64 0)), (.v (.int .i64 0)), (.v (.string (mkS [])))] [(0, (.t 5))])⟩,
      ⟨(some 7), none, (.faddr 1 (.t 2))⟩,
      ⟨(some 8), none, (.load false 1 (.t 7))⟩,
      ⟨(some 9), none, (.call (.c (.fn (.func 65) [] [])) [(.t 6), (.t 8)])⟩,
      ⟨(some 4), none, (.mv (.t 9))⟩,
      ⟨(some 4), none, (.frz (.t 4))⟩])
    .ret))⟩
theorem L64_ok : lowFn Try.prog Try.f64 [⟨1, 1, .imm⟩, ⟨1, 6, (.pre 4 (.frz (.t 4)))⟩] = some L64 := by kernel_rfl

/-- slices.Repeat___assessor_api.Type_assessor_api.Type_ -/
def L65 : LFn := ⟨48, [(.tmp 4)], (.seq (.ops [⟨(some 4), none, (.mv (.c (.v (.slice none 0 0))))⟩])
    (.seq (.seq (.ops [⟨(some 9), none, (.mv (.t 1))⟩,
      ⟨(some 10), none, (.bin .int .lss (.t 9) (.c (.v (.int .i64 0))))⟩])
    (.cond (.t 10)
    (.ops [⟨(some 11), none, .bad⟩,
      ⟨none, none, .bad⟩])
    .skip))
    (.seq (.ops [⟨(some 13), none, (.mv (.t 0))⟩,
      ⟨(some 14), none, (.len .slc (.t 13))⟩,
      ⟨(some 15), none, (.conv (.toInt .u64) (.t 14))⟩,
      ⟨(some 16), none, (.mv (.t 1))⟩,
      ⟨(some 17), none, (.conv (.toInt .u64) (.t 16))⟩,
      ⟨(some 18), none, (.call (.c (.fn (.func 102) [] [])) [(.t 15), (.t 17)])⟩,
      ⟨(some 12), none, (.mv (.t 18))⟩,
      ⟨(some 19), none, (.ext (.t 12) 0)⟩,
      ⟨(some 20), none, (.ext (.t 12) 1)⟩,
      ⟨(some 5), none, (.mv (.t 19))⟩,
      ⟨(some 6), none, (.mv (.t 20))⟩])
    (.seq (.seq (.ops [⟨(some 21), none, (.mv (.t 5))⟩,
      ⟨(some 22), none, (.bin .int .gtr (.t 21) (.c (.v (.int .u64 0))))⟩,
      ⟨(some 23), none, (.mv (.t 22))⟩,
      ⟨(some 24), (some (23, false)), (.mv (.t 6))⟩,
      ⟨(some 25), (some (23, false)), (.bin .int .gtr (.t 24) (.c (.v (.int .u64 9223372036854775807))))⟩,
      ⟨(some 26), none, (.pick (.t 23) (.c (.v (.bool true))) (.t 25))⟩])
    (.cond (.t 26)
    (.ops [⟨(some 27), none, .bad⟩,
      ⟨none, none, .bad⟩])
    .skip))
    (.seq (.ops [⟨(some 28), none, (.mv (.t 6))⟩,
      ⟨(some 29), none, (.conv (.toInt .i64) (.t 28))⟩,
      ⟨(some 30), none, (.msl 3 32 [(.v (.int .i64 0)), (.v (.int .i64 0)), (.v (.string (mkS [])))] (.t 29) (.t 29))⟩,
      ⟨(some 7), none, (.mv (.t 30))⟩])
    (.seq (.ops [⟨(some 31), none, (.mv (.t 7))⟩,
      ⟨(some 32), none, (.mv (.t 0))⟩,
      ⟨(some 33), none, (.copy 3 (.t 31) (.t 32))⟩,
      ⟨(some 8), none, (.mv (.t 33))⟩])
    (.seq (.block 0 (.loop (.seq (.seq (.ops [⟨(some 34), none, (.mv (.t 8))⟩,
      ⟨(some 35), none, (.mv (.t 7))⟩,
      ⟨(some 36), none, (.len .slc (.t 35))⟩,
      ⟨(some 37), none, (.bin .int .lss (.t 34) (.t 36))⟩])
    (.cond (.t 37)
    .skip
    (.exit 0)))
    (.block 1 (.draw [⟨(some 38), none, (.mv (.t 8))⟩,
      ⟨(some 39), none, (.mv (.t 7))⟩,
      ⟨(some 40), none, (.mv (.t 8))⟩,
      ⟨(some 41), none, (.slice .slc 3 (.t 39) (some (.t 40)) none)⟩,
      ⟨(some 42), none, (.mv (.t 7))⟩,
      ⟨(some 43), none, (.mv (.t 8))⟩,
      ⟨(some 44), none, (.slice .slc 3 (.t 42) none (some (.t 43)))⟩] [⟨(some 45), none, (.copy 3 (.t 41) (.t 44))⟩,
      ⟨(some 46), none, (.bin .int .add (.t 38) (.t 45))⟩,
      ⟨(some 8), none, (.mv (.t 46))⟩])))))
    (.seq (.ops [⟨(some 47), none, (.mv (.t 7))⟩,
      ⟨(some 4), none, (.mv (.t 47))⟩,
      ⟨(some 4), none, (.frz (.t 4))⟩])
    .ret))))))))⟩
theorem L65_ok : lowFn Try.prog Try.f65 [⟨10, 2, (.pre 4 (.frz (.t 4)))⟩, ⟨9, 7, .tail⟩] = some L65 := by kernel_rfl

/-- assessor_types.shapes$5 -/
def L66 : LFn := ⟨20, [(.tmp 4)], (.seq (.ops [⟨(some 2), none, (.box false (.t 0))⟩,
      ⟨(some 4), none, (.mv (.c (.v (.bool false))))⟩])
    (.seq (.ops [⟨(some 8), none, (.mv (.t 1))⟩,
      ⟨(some 9), none, (.faddr 2 (.t 2))⟩,
      ⟨(some 10), none, (.load false 1 (.t 9))⟩,
      ⟨(some 11), none, (.call (.c (.fn (.func 67) [] [])) [(.t 8), (.t 10)])⟩,
      ⟨(some 7), none, (.mv (.t 11))⟩,
      ⟨(some 12), none, (.ext (.t 7) 0)⟩,
      ⟨(some 13), none, (.ext (.t 7) 1)⟩,
      ⟨(some 5), none, (.alloc [(.v (.string (mkS []))), (.v (.slice none 0 0))])⟩,
      ⟨none, none, (.store 2 (.t 5) (.t 12))⟩,
      ⟨(some 6), none, (.mv (.t 13))⟩])
    (.seq (.ops [⟨(some 14), none, (.faddr 1 (.t 2))⟩,
      ⟨(some 15), none, (.load false 1 (.t 14))⟩,
      ⟨(some 16), none, (.bin .int .eql (.t 15) (.c (.v (.int .i64 0))))⟩,
      ⟨(some 17), none, (.mv (.t 16))⟩,
      ⟨(some 18), (some (17, true)), (.mv (.t 6))⟩,
      ⟨(some 19), none, (.pick (.t 17) (.t 18) (.c (.v (.bool false))))⟩,
      ⟨(some 4), none, (.mv (.t 19))⟩])
    .ret)))⟩
theorem L66_ok : lowFn Try.prog Try.f66 [] = some L66 := by kernel_rfl

/-- assessor_types.record -/
def L67 : LFn := ⟨17, [(.cell 4 true 2), (.tmp 5)], (.seq (.ops [⟨(some 3), none, (.box false (.t 1))⟩,
      ⟨(some 4), none, (.alloc [(.v (.string (mkS []))), (.v (.slice none 0 0))])⟩,
      ⟨(some 5), none, (.mv (.c (.v (.bool false))))⟩])
    (.seq (.ops [⟨(some 7), none, (.mv (.t 0))⟩,
      ⟨(some 8), none, (.mkfn (.func 104) [] [(.t 3)])⟩,
      ⟨(some 9), none, (.call (.c (.fn (.func 103) [] [])) [(.t 7), (.t 8)])⟩,
      ⟨(some 6), none, (.mv (.t 9))⟩])
    (.seq (.seq (.ops [⟨(some 10), none, (.mv (.t 6))⟩,
      ⟨(some 11), none, (.bin .int .lss (.t 10) (.c (.v (.int .i64 0))))⟩])
    (.cond (.t 11)
    (.seq (.ops [⟨(some 12), none, (.build [(.v (.string (mkS []))), (.v (.slice none 0 0))] [])⟩,
      ⟨none, none, (.store 2 (.t 4) (.t 12))⟩,
      ⟨(some 5), none, (.mv (.c (.v (.bool false))))⟩])
    .ret)
    .skip))
    (.seq (.ops [⟨(some 13), none, (.mv (.t 0))⟩,
      ⟨(some 14), none, (.mv (.t 6))⟩,
      ⟨(some 15), none, (.iaddr 2 (.t 13) (.t 14))⟩,
      ⟨(some 16), none, (.load true 2 (.t 15))⟩,
      ⟨none, none, (.store 2 (.t 4) (.t 16))⟩,
      ⟨(some 5), none, (.mv (.c (.v (.bool true))))⟩])
    .ret))))⟩
theorem L67_ok : lowFn Try.prog Try.f67 [] = some L67 := by kernel_rfl

/-- assessor_types.shapes$6 -/
def L68 : LFn := ⟨32, [(.tmp 4)], (.seq (.ops [⟨(some 2), none, (.box false (.t 0))⟩,
      ⟨(some 4), none, (.mv (.c (.v (.slice none 0 0))))⟩])
    (.seq (.ops [⟨(some 5), none, (.mv (.c (.v (.slice none 0 0))))⟩,
      ⟨(some 5), none, (.own 3 (.t 5))⟩])
    (.seq (.ops [⟨(some 11), none, (.mv (.t 1))⟩,
      ⟨(some 12), none, (.faddr 2 (.t 2))⟩,
      ⟨(some 13), none, (.load false 1 (.t 12))⟩,
      ⟨(some 14), none, (.call (.c (.fn (.func 67) [] [])) [(.t 11), (.t 13)])⟩,
      ⟨(some 10), none, (.mv (.t 14))⟩,
      ⟨(some 15), none, (.ext (.t 10) 0)⟩,
      ⟨(some 16), none, (.ext (.t 10) 1)⟩,
      ⟨(some 6), none, (.alloc [(.v (.string (mkS []))), (.v (.slice none 0 0))])⟩,
      ⟨none, none, (.store 2 (.t 6) (.t 15))⟩,
      ⟨(some 7), none, (.mv (.t 16))⟩])
    (.seq (.seq (.ops [⟨(some 17), none, (.faddr 1 (.t 6))⟩,
      ⟨(some 18), none, (.load false 1 (.t 17))⟩,
      ⟨(some 19), none, (.len .slc (.t 18))⟩,
      ⟨(some 20), none, (.mv (.c (.v (.int .i64 0))))⟩])
    (.block 0 (.loop (.seq (.ops [⟨(some 21), none, (.bin .int .lss (.t 20) (.t 19))⟩])
    (.seq (.cond (.t 21)
    .skip
    (.exit 0))
    (.seq (.block 1 (.seq (.ops [⟨(some 22), none, (.iaddr 4 (.t 18) (.t 20))⟩,
      ⟨(some 23), none, (.load true 4 (.t 22))⟩,
      ⟨(some 9), none, (.alloc [(.v (.string (mkS []))), (.v (.int .i64 0)), (.v (.int .i64 0)), (.v (.string (mkS [])))])⟩,
      ⟨none, none, (.store 4 (.t 9) (.t 23))⟩])
    (.ops [⟨(some 24), none, (.mv (.t 5))⟩,
      ⟨(some 25), none, (.faddr 1 (.t 9))⟩,
      ⟨(some 26), none, (.load true 3 (.t 25))⟩,
      ⟨(some 27), none, (.call (.c (.fn (.func 69) [] [])) [(.t 26)])⟩,
      ⟨(some 28), none, (.bsl true 3 1 [(.v (.int .i64 0)), (.v (.int .i64 0)), (.v (.string (mkS [])))] [(0, (.t 27))])⟩,
      ⟨(some 29), none, (.append 3 32 (.t 24) (.t 28))⟩,
      ⟨(some 5), none, (.mv (.t 29))⟩])))
    (.ops [⟨(some 30), none, (.bin .int .add (.t 20) (.c (.v (.int .i64 1))))⟩,
      ⟨(some 20), none, (.mv (.t 30))⟩])))))))
    (.seq (.ops [⟨(some 31), none, (.mv (.t 5))⟩,
      ⟨(some 4), none, (.mv (.t 31))⟩,
      ⟨(some 4), none, (.frz (.t 4))⟩])
    .ret)))))⟩
theorem L68_ok : lowFn Try.prog Try.f68 [⟨6, 4, .imm⟩, ⟨8, 2, (.pre 4 (.frz (.t 4)))⟩, ⟨1, 1, (.pre 5 (.own 3 (.t 5)))⟩] = some L68 := by kernel_rfl

/-- assessor_types.scalar -/
def L69 : LFn := ⟨8, [(.cell 2 true 3)], (.seq (.ops [⟨(some 1), none, (.box false (.t 0))⟩,
      ⟨(some 2), none, (.alloc [(.v (.int .i64 0)), (.v (.int .i64 0)), (.v (.string (mkS [])))])⟩])
    (.seq (.seq (.ops [⟨(some 3), none, (.faddr 0 (.t 1))⟩,
      ⟨(some 4), none, (.load false 1 (.t 3))⟩,
      ⟨(some 5), none, (.bin .int .eql (.t 4) (.c (.v (.int .i64 2))))⟩])
    (.cond (.t 5)
    (.seq (.ops [⟨(some 6), none, (.build [(.v (.int .i64 0)), (.v (.int .i64 0)), (.v (.string (mkS [])))] [(0, (1, (.c (.v (.int .i64 2)))))])⟩,
      ⟨none, none, (.store 3 (.t 2) (.t 6))⟩])
    .ret)
    .skip))
    (.seq (.ops [⟨(some 7), none, (.build [(.v (.int .i64 0)), (.v (.int .i64 0)), (.v (.string (mkS [])))] [(0, (1, (.c (.v (.int .i64 1)))))])⟩,
      ⟨none, none, (.store 3 (.t 2) (.t 7))⟩])
    .ret)))⟩
theorem L69_ok : lowFn Try.prog Try.f69 [] = some L69 := by kernel_rfl

/-- slices.Clone___assessor_api.Variable_assessor_api.Variable_ -/
def L75 : LFn := ⟨8, [(.tmp 2)], (.seq (.ops [⟨(some 2), none, (.mv (.c (.v (.slice none 0 0))))⟩])
    (.seq (.seq (.ops [⟨(some 3), none, (.mv (.t 0))⟩,
      ⟨(some 4), none, (.isnil false (.t 3))⟩])
    (.cond (.t 4)
    (.seq (.ops [⟨(some 2), none, (.mv (.c (.v (.slice none 0 0))))⟩])
    .ret)
    .skip))
    (.seq (.ops [⟨(some 5), none, (.bsl false 8 0 [(.v (.string (mkS []))), (.v (.int .i64 0)), (.v (.int .i64 0)), (.v (.string (mkS []))), (.v (.int .i64 0)), (.v (.int .i64 0)), (.v (.bool false)), (.v (.bool false))] [])⟩,
      ⟨(some 6), none, (.mv (.t 0))⟩,
      ⟨(some 7), none, (.append 8 72 (.t 5) (.t 6))⟩,
      ⟨(some 2), none, (.mv (.t 7))⟩])
    .ret)))⟩
theorem L75_ok : lowFn Try.prog Try.f75 [] = some L75 := by kernel_rfl

/-- assessor_types.Size -/
def L76 : LFn := ⟨10, [(.tmp 4)], (.seq (.ops [⟨(some 2), none, (.box false (.t 0))⟩,
      ⟨(some 4), none, (.mv (.c (.v (.int .i64 0))))⟩])
    (.seq (.ops [⟨(some 5), none, (.mv (.t 1))⟩,
      ⟨(some 6), none, (.load true 3 (.t 2))⟩,
      ⟨(some 7), none, (.bsl true 3 1 [(.v (.int .i64 0)), (.v (.int .i64 0)), (.v (.string (mkS [])))] [(0, (.t 6))])⟩,
      ⟨(some 8), none, (.call (.c (.fn (.func 32) [] [])) [(.t 5), (.t 7)])⟩,
      ⟨(some 9), none, (.len .slc (.t 8))⟩,
      ⟨(some 4), none, (.mv (.t 9))⟩])
    .ret))⟩
theorem L76_ok : lowFn Try.prog Try.f76 [⟨1, 2, .imm⟩] = some L76 := by kernel_rfl

/-- slices.IndexFunc___assessor_api.Field_assessor_api.Field_ -/
def L77 : LFn := ⟨19, [(.tmp 4)], (.seq (.ops [⟨(some 4), none, (.mv (.c (.v (.int .i64 0))))⟩])
    (.seq (.seq (.ops [⟨(some 6), none, (.mv (.t 0))⟩,
      ⟨(some 7), none, (.len .slc (.t 6))⟩,
      ⟨(some 8), none, (.mv (.c (.v (.int .i64 0))))⟩])
    (.block 0 (.loop (.seq (.ops [⟨(some 9), none, (.bin .int .lss (.t 8) (.t 7))⟩])
    (.seq (.cond (.t 9)
    .skip
    (.exit 0))
    (.seq (.block 1 (.seq (.ops [⟨(some 10), none, (.mv (.t 8))⟩,
      ⟨(some 5), none, (.mv (.t 10))⟩])
    (.seq (.ops [⟨(some 11), none, (.mv (.t 1))⟩,
      ⟨(some 12), none, (.mv (.t 0))⟩,
      ⟨(some 13), none, (.mv (.t 5))⟩,
      ⟨(some 14), none, (.iaddr 4 (.t 12) (.t 13))⟩,
      ⟨(some 15), none, (.load true 4 (.t 14))⟩,
      ⟨(some 16), none, (.call (.t 11) [(.t 15)])⟩])
    (.cond (.t 16)
    (.seq (.ops [⟨(some 17), none, (.mv (.t 5))⟩,
      ⟨(some 4), none, (.mv (.t 17))⟩])
    .ret)
    .skip))))
    (.ops [⟨(some 18), none, (.bin .int .add (.t 8) (.c (.v (.int .i64 1))))⟩,
      ⟨(some 8), none, (.mv (.t 18))⟩])))))))
    (.seq (.ops [⟨(some 4), none, (.mv (.c (.v (.int .i64 (-1)))))⟩])
    .ret)))⟩
theorem L77_ok : lowFn Try.prog Try.f77 [] = some L77 := by kernel_rfl

/-- assessor_types.Member$1 -/
def L78 : LFn := ⟨8, [(.tmp 3)], (.seq (.ops [⟨(some 2), none, (.box false (.t 0))⟩,
      ⟨(some 3), none, (.mv (.c (.v (.bool false))))⟩])
    (.seq (.ops [⟨(some 4), none, (.faddr 0 (.t 2))⟩,
      ⟨(some 5), none, (.load false 1 (.t 4))⟩,
      ⟨(some 6), none, (.load false 1 (.t 1))⟩,
      ⟨(some 7), none, (.bin .str .eql (.t 5) (.t 6))⟩,
      ⟨(some 3), none, (.mv (.t 7))⟩])
    .ret))⟩
theorem L78_ok : lowFn Try.prog Try.f78 [] = some L78 := by kernel_rfl

/-- slices.IndexFunc___assessor_api.Record_assessor_api.Record_ -/
def L103 : LFn := ⟨19, [(.tmp 4)], (.seq (.ops [⟨(some 4), none, (.mv (.c (.v (.int .i64 0))))⟩])
    (.seq (.seq (.ops [⟨(some 6), none, (.mv (.t 0))⟩,
      ⟨(some 7), none, (.len .slc (.t 6))⟩,
      ⟨(some 8), none, (.mv (.c (.v (.int .i64 0))))⟩])
    (.block 0 (.loop (.seq (.ops [⟨(some 9), none, (.bin .int .lss (.t 8) (.t 7))⟩])
    (.seq (.cond (.t 9)
    .skip
    (.exit 0))
    (.seq (.block 1 (.seq (.ops [⟨(some 10), none, (.mv (.t 8))⟩,
      ⟨(some 5), none, (.mv (.t 10))⟩])
    (.seq (.ops [⟨(some 11), none, (.mv (.t 1))⟩,
      ⟨(some 12), none, (.mv (.t 0))⟩,
      ⟨(some 13), none, (.mv (.t 5))⟩,
      ⟨(some 14), none, (.iaddr 2 (.t 12) (.t 13))⟩,
      ⟨(some 15), none, (.load true 2 (.t 14))⟩,
      ⟨(some 16), none, (.call (.t 11) [(.t 15)])⟩])
    (.cond (.t 16)
    (.seq (.ops [⟨(some 17), none, (.mv (.t 5))⟩,
      ⟨(some 4), none, (.mv (.t 17))⟩])
    .ret)
    .skip))))
    (.ops [⟨(some 18), none, (.bin .int .add (.t 8) (.c (.v (.int .i64 1))))⟩,
      ⟨(some 8), none, (.mv (.t 18))⟩])))))))
    (.seq (.ops [⟨(some 4), none, (.mv (.c (.v (.int .i64 (-1)))))⟩])
    .ret)))⟩
theorem L103_ok : lowFn Try.prog Try.f103 [] = some L103 := by kernel_rfl

/-- assessor_types.record$1 -/
def L104 : LFn := ⟨8, [(.tmp 3)], (.seq (.ops [⟨(some 2), none, (.box false (.t 0))⟩,
      ⟨(some 3), none, (.mv (.c (.v (.bool false))))⟩])
    (.seq (.ops [⟨(some 4), none, (.faddr 0 (.t 2))⟩,
      ⟨(some 5), none, (.load false 1 (.t 4))⟩,
      ⟨(some 6), none, (.load false 1 (.t 1))⟩,
      ⟨(some 7), none, (.bin .str .eql (.t 5) (.t 6))⟩,
      ⟨(some 3), none, (.mv (.t 7))⟩])
    .ret))⟩
theorem L104_ok : lowFn Try.prog Try.f104 [] = some L104 := by kernel_rfl

/-- math_bits.Mul -/
def L102 : LFn := ⟨30, [(.tmp 4), (.tmp 5)], (.seq (.ops [⟨(some 4), none, (.mv (.c (.v (.int .u64 0))))⟩,
      ⟨(some 5), none, (.mv (.c (.v (.int .u64 0))))⟩])
    (.seq (.cond (.c (.v (.bool false)))
    (.seq (.ops [⟨(some 11), none, (.mv (.t 0))⟩,
      ⟨(some 12), none, (.conv (.toInt .u32) (.t 11))⟩,
      ⟨(some 13), none, (.mv (.t 1))⟩,
      ⟨(some 14), none, (.conv (.toInt .u32) (.t 13))⟩,
      ⟨(some 15), none, (.call (.c (.fn (.func 132) [] [])) [(.t 12), (.t 14)])⟩,
      ⟨(some 10), none, (.mv (.t 15))⟩,
      ⟨(some 16), none, (.ext (.t 10) 0)⟩,
      ⟨(some 17), none, (.ext (.t 10) 1)⟩,
      ⟨(some 6), none, (.mv (.t 16))⟩,
      ⟨(some 7), none, (.mv (.t 17))⟩])
    (.seq (.ops [⟨(some 18), none, (.mv (.t 6))⟩,
      ⟨(some 19), none, (.conv (.toInt .u64) (.t 18))⟩,
      ⟨(some 20), none, (.mv (.t 7))⟩,
      ⟨(some 21), none, (.conv (.toInt .u64) (.t 20))⟩,
      ⟨(some 4), none, (.mv (.t 19))⟩,
      ⟨(some 5), none, (.mv (.t 21))⟩])
    .ret))
    .skip)
    (.seq (.ops [⟨(some 23), none, (.mv (.t 0))⟩,
      ⟨(some 24), none, (.mv (.t 1))⟩,
      ⟨(some 25), none, (.call (.c (.fn (.func 133) [] [])) [(.t 23), (.t 24)])⟩,
      ⟨(some 22), none, (.mv (.t 25))⟩,
      ⟨(some 26), none, (.ext (.t 22) 0)⟩,
      ⟨(some 27), none, (.ext (.t 22) 1)⟩,
      ⟨(some 8), none, (.mv (.t 26))⟩,
      ⟨(some 9), none, (.mv (.t 27))⟩])
    (.seq (.ops [⟨(some 28), none, (.mv (.t 8))⟩,
      ⟨(some 29), none, (.mv (.t 9))⟩,
      ⟨(some 4), none, (.mv (.t 28))⟩,
      ⟨(some 5), none, (.mv (.t 29))⟩])
    .ret))))⟩
theorem L102_ok : lowFn Try.prog Try.f102 [] = some L102 := by kernel_rfl

/-- math_bits.Mul64 -/
def L133 : LFn := ⟨51, [(.tmp 4), (.tmp 5)], (.seq (.ops [⟨(some 4), none, (.mv (.c (.v (.int .u64 0))))⟩,
      ⟨(some 5), none, (.mv (.c (.v (.int .u64 0))))⟩])
    (.seq (.ops [⟨(some 14), none, (.mv (.t 0))⟩,
      ⟨(some 15), none, (.bin .int .and (.t 14) (.c (.v (.int .u64 4294967295))))⟩,
      ⟨(some 6), none, (.mv (.t 15))⟩])
    (.seq (.ops [⟨(some 16), none, (.mv (.t 0))⟩,
      ⟨(some 17), none, (.bin .int .shr (.t 16) (.c (.v (.int .u64 32))))⟩,
      ⟨(some 7), none, (.mv (.t 17))⟩])
    (.seq (.ops [⟨(some 18), none, (.mv (.t 1))⟩,
      ⟨(some 19), none, (.bin .int .and (.t 18) (.c (.v (.int .u64 4294967295))))⟩,
      ⟨(some 8), none, (.mv (.t 19))⟩])
    (.seq (.ops [⟨(some 20), none, (.mv (.t 1))⟩,
      ⟨(some 21), none, (.bin .int .shr (.t 20) (.c (.v (.int .u64 32))))⟩,
      ⟨(some 9), none, (.mv (.t 21))⟩])
    (.seq (.ops [⟨(some 22), none, (.mv (.t 6))⟩,
      ⟨(some 23), none, (.mv (.t 8))⟩,
      ⟨(some 24), none, (.bin .int .mul (.t 22) (.t 23))⟩,
      ⟨(some 10), none, (.mv (.t 24))⟩])
    (.seq (.ops [⟨(some 25), none, (.mv (.t 7))⟩,
      ⟨(some 26), none, (.mv (.t 8))⟩,
      ⟨(some 27), none, (.bin .int .mul (.t 25) (.t 26))⟩,
      ⟨(some 28), none, (.mv (.t 10))⟩,
      ⟨(some 29), none, (.bin .int .shr (.t 28) (.c (.v (.int .u64 32))))⟩,
      ⟨(some 30), none, (.bin .int .add (.t 27) (.t 29))⟩,
      ⟨(some 11), none, (.mv (.t 30))⟩])
    (.seq (.ops [⟨(some 31), none, (.mv (.t 11))⟩,
      ⟨(some 32), none, (.bin .int .and (.t 31) (.c (.v (.int .u64 4294967295))))⟩,
      ⟨(some 12), none, (.mv (.t 32))⟩])
    (.seq (.ops [⟨(some 33), none, (.mv (.t 11))⟩,
      ⟨(some 34), none, (.bin .int .shr (.t 33) (.c (.v (.int .u64 32))))⟩,
      ⟨(some 13), none, (.mv (.t 34))⟩])
    (.seq (.ops [⟨(some 35), none, (.mv (.t 12))⟩,
      ⟨(some 36), none, (.mv (.t 6))⟩,
      ⟨(some 37), none, (.mv (.t 9))⟩,
      ⟨(some 38), none, (.bin .int .mul (.t 36) (.t 37))⟩,
      ⟨(some 39), none, (.bin .int .add (.t 35) (.t 38))⟩,
      ⟨(some 12), none, (.mv (.t 39))⟩])
    (.seq (.ops [⟨(some 40), none, (.mv (.t 7))⟩,
      ⟨(some 41), none, (.mv (.t 9))⟩,
      ⟨(some 42), none, (.bin .int .mul (.t 40) (.t 41))⟩,
      ⟨(some 43), none, (.mv (.t 13))⟩,
      ⟨(some 44), none, (.bin .int .add (.t 42) (.t 43))⟩,
      ⟨(some 45), none, (.mv (.t 12))⟩,
      ⟨(some 46), none, (.bin .int .shr (.t 45) (.c (.v (.int .u64 32))))⟩,
      ⟨(some 47), none, (.bin .int .add (.t 44) (.t 46))⟩,
      ⟨(some 4), none, (.mv (.t 47))⟩])
    (.seq (.ops [⟨(some 48), none, (.mv (.t 0))⟩,
      ⟨(some 49), none, (.mv (.t 1))⟩,
      ⟨(some 50), none, (.bin .int .mul (.t 48) (.t 49))⟩,
      ⟨(some 5), none, (.mv (.t 50))⟩])
    .ret))))))))))))⟩
theorem L133_ok : lowFn Try.prog Try.f133 [] = some L133 := by kernel_rfl

end Go.Proofs.Yteidffcimidinaa

/- How the objects stand after a step: nothing owned has changed, one object is new, one object has changed. -/
namespace Go.Ax
open Go Go.RowKit

section
variable {w w' : World} {X : Nat → Prop} {ρ ρ' : Nat → Loc} {H : AHeap}

theorem Own.lt (h : HRel w X ρ H) {b : Nat} (hb : Own ρ H.length b) : b < w.heap.size := by
  obtain ⟨r, o, hr, hb⟩ := hb
  exact (h.lt r b o hr hb).1

theorem mut_keep {n n' : Nat} (hf : Fut w ρ n w' ρ' n') : ∀ b, b < w.heap.size → ¬ Mut X ρ n b → ¬ Mut X ρ' n' b := by
  intro b hb hm hm'
  rcases hm' with hx | ho
  · exact hm (.inl hx)
  · rcases hf.own b ho with h1 | h1
    · exact hm (.inr h1)
    · omega

theorem mut_own {n : Nat} : ∀ b, ¬ Mut X ρ n b → ¬ Own ρ n b := fun _ hm ho => hm (.inr ho)

/-- What stood for a value goes on standing for it. -/
theorem Rep.next {n n' k : Nat} (hf : Fut w ρ n w' ρ' n') {x : AV} {u : Value} (h : Rep w (Mut X ρ n) ρ k x u) (hk : k ≤ n) : Rep w' (Mut X ρ' n') ρ' k x u :=
  h.fut hf (mut_keep hf) mut_own hk

theorem Rep.nextN {n n' : Nat} (hf : Fut w ρ n w' ρ' n') {x : AV} {u : Value} (h : Rep w (Mut X ρ n) ρ n x u) : Rep w' (Mut X ρ' n') ρ' n' x u :=
  (h.next hf (Nat.le_refl _)).mono hf.len

theorem ObjOk.next {n n' : Nat} {l : Loc} {o : HO} (h : ObjOk w (Mut X ρ n) ρ n l o) (hf : Fut w ρ n w' ρ' n') (hb : ∀ b o', l.blk = some (b, o') → w'.heap[b]? = w.heap[b]?) :
    ObjOk w' (Mut X ρ' n') ρ' n' l o := by
  cases o with
  | dead => trivial
  | box cs =>
    obtain ⟨h1, b, c, e, fr, h2, h3, h4, h5, h6⟩ := h
    exact ⟨h1, b, c, e, fr, h2, by rw [hb b 0 h2]; exact h3, h4, h5, fun j y u hy hu => ⟨(h6 j y u hy hu).1.nextN hf, (h6 j y u hy hu).2⟩⟩
  | arr ver sz xs =>
    obtain ⟨h1, h2, h3, h4, h5, h6⟩ := h
    refine ⟨h1, h2, h3, h4, h5, ?_⟩
    split
    · rename_i hl; rw [hl] at h6; exact h6
    · rename_i b o hl
      rw [hl] at h6
      obtain ⟨c, e, fr, g1, g2, g3, g4⟩ := h6
      exact ⟨c, e, fr, by rw [hb b o hl]; exact g1, g2, g3, fun i j x y u hx hy hu => ⟨(g4 i j x y u hx hy hu).1.next hf (Nat.zero_le _), (g4 i j x y u hx hy hu).2⟩⟩
  | map ver ks vs =>
    obtain ⟨h1, b, es, clock, h2, h3, h4, h5, h6⟩ := h
    exact ⟨h1, b, es, clock, h2, by rw [hb b 0 h2]; exact h3, h4, h5, fun i x e hx he => (h6 i x e hx he).next hf (Nat.zero_le _)⟩
  | iter s pos =>
    obtain ⟨h1, b, h2, h3⟩ := h
    exact ⟨h1, b, h2, by rw [hb b 0 h2]; exact h3⟩
  | lp b lr e st =>
    obtain ⟨h1, h2, h3, h4⟩ := h
    exact ⟨h1, h2, by rw [hb b 0 h2]; exact h3, fun t u hu => (h4 t u hu).nextN hf⟩
  | barr t ver bl =>
    obtain ⟨h1, h2, h3, h4⟩ := h
    refine ⟨h1, h2, h3, ?_⟩
    split
    · rename_i hl; rw [hl] at h4; exact h4
    · rename_i b o hl
      rw [hl] at h4
      obtain ⟨c, fr, g1, g2, g3, g4⟩ := h4
      exact ⟨c, fr, by rw [hb b o hl]; exact g1, g2, g3, g4⟩

/-- The streams stand still, no block goes. -/
structure Same (w w' : World) : Prop where
  os : w'.os = w.os
  tape : w'.tape = w.tape
  output : w'.output = w.output
  size : w.heap.size ≤ w'.heap.size

theorem Same.refl (w : World) : Same w w := ⟨rfl, rfl, rfl, Nat.le_refl _⟩
theorem Same.drew (w : World) : Same w w.drew := ⟨rfl, rfl, rfl, Nat.le_refl _⟩
theorem Same.alloc (w : World) (o : Obj) : Same w (w.alloc o) := ⟨rfl, rfl, rfl, by simp⟩
theorem Same.trans {a b c : World} (h : Same a b) (k : Same b c) : Same a c := ⟨k.os.trans h.os, k.tape.trans h.tape, k.output.trans h.output, Nat.le_trans h.size k.size⟩

/-- Nothing that was there has changed. -/
theorem HRel.more (h : HRel w X ρ H) (hs : Same w w') (keep : ∀ b, b < w.heap.size → w'.heap[b]? = w.heap[b]?) : HRel w' X ρ H ∧ Fut w ρ H.length w' ρ H.length := by
  have hf : Fut w ρ H.length w' ρ H.length := ⟨hs.os, hs.tape, hs.output, hs.size, fun b hb _ => keep b hb, fun b hb => .inl hb, Nat.le_refl _, fun _ _ => .inl rfl⟩
  refine ⟨⟨fun r o hr => ?_, h.inj, fun r b o hr hb => ⟨Nat.lt_of_lt_of_le (h.lt r b o hr hb).1 hs.size, (h.lt r b o hr hb).2⟩, fun b hb => Nat.lt_of_lt_of_le (h.xlt b hb) hs.size, h.gl.fut hf⟩, hf⟩
  have hlt : r < H.length := (List.getElem?_eq_some_iff.1 hr).1
  exact (h.objs r o hr).next hf fun b o' hb => keep b (h.lt r b o' hlt hb).1

/-- Object r has changed; it may lie somewhere else now. -/
theorem HRel.setAtX (h : HRel w X ρ H) {r : Nat} (hr : r < H.length) (l : Loc) (ho : HO) (hs : Same w w')
    (hl : l = ρ r ∨ (ρ r).ver < l.ver) (hb : ∀ b o, l.blk = some (b, o) → (∃ o', (ρ r).blk = some (b, o')) ∨ (w.heap.size ≤ b ∧ b < w'.heap.size))
    (keep : ∀ b, b < w.heap.size → (∀ o, (ρ r).blk ≠ some (b, o)) → w'.heap[b]? = w.heap[b]?)
    (hobj : ∀ ρ', ρ' = (fun i => if i = r then l else ρ i) → Fut w ρ H.length w' ρ' H.length → ObjOk w' (Mut X ρ' H.length) ρ' H.length l ho) :
    ∃ ρ', ρ' r = l ∧ (∀ i, i ≠ r → ρ' i = ρ i) ∧ HRel w' X ρ' (H.set r ho) ∧ Fut w ρ H.length w' ρ' (H.set r ho).length := by
  refine ⟨fun i => if i = r then l else ρ i, by simp, fun i hi => by simp [hi], ?_⟩
  generalize hρ' : (fun i => if i = r then l else ρ i) = ρ'
  have hpr : ρ' r = l := by subst hρ'; simp
  have hpo : ∀ i, i ≠ r → ρ' i = ρ i := fun i hi => by subst hρ'; simp [hi]
  have hxb : ∀ i b o, i < H.length → (ρ' i).blk = some (b, o) → Own ρ H.length b ∨ (w.heap.size ≤ b ∧ b < w'.heap.size) := by
    intro i b o hi hbl
    by_cases hir : i = r
    · subst hir
      rw [hpr] at hbl
      rcases hb b o hbl with ⟨o', h1⟩ | h1
      · exact .inl ⟨i, o', hi, h1⟩
      · exact .inr h1
    · rw [hpo i hir] at hbl; exact .inl ⟨i, o, hi, hbl⟩
  have hf : Fut w ρ H.length w' ρ' H.length :=
    ⟨hs.os, hs.tape, hs.output, hs.size, fun b hb' ho' => keep b hb' fun o he => ho' ⟨r, o, hr, he⟩, fun b ⟨i, o, hi, hbl⟩ => (hxb i b o hi hbl).imp id (·.1), Nat.le_refl _,
      fun i hi => by
        by_cases hir : i = r
        · subst hir; rw [hpr]; exact hl
        · exact .inl (hpo i hir)⟩
  have hob := hobj ρ' hρ'.symm hf
  have hlen : (H.set r ho).length = H.length := List.length_set
  rw [hlen]
  refine ⟨⟨?_, ?_, ?_, fun b hb' => Nat.lt_of_lt_of_le (h.xlt b hb') hs.size, hlen ▸ h.gl.fut hf⟩, hf⟩
  · intro i o hi
    rw [hlen]
    by_cases hir : i = r
    · subst hir
      rw [List.getElem?_set_self hr] at hi
      simp only [Option.some.injEq] at hi
      subst hi
      rw [hpr]
      exact hob
    · rw [List.getElem?_set_ne (fun e => hir e.symm)] at hi
      have hlt : i < H.length := (List.getElem?_eq_some_iff.1 hi).1
      rw [hpo i hir]
      exact (h.objs i o hi).next hf fun b o' hbl => keep b (h.lt i b o' hlt hbl).1 fun o'' he => h.inj i r b o' b o'' hlt hr hir hbl he rfl
  · intro i j b o b' o' hi hj hij hbi hbj
    rw [hlen] at hi hj
    by_cases hir : i = r
    · have hjr : j ≠ r := fun e => hij (hir.trans e.symm)
      rw [hir, hpr] at hbi
      rw [hpo j hjr] at hbj
      have hlj := (h.lt j b' o' hj hbj).1
      rcases hb b o hbi with ⟨o1, h1⟩ | h1
      · exact h.inj r j b o1 b' o' hr hj (fun e => hjr e.symm) h1 hbj
      · omega
    · rw [hpo i hir] at hbi
      have hli := (h.lt i b o hi hbi).1
      by_cases hjr : j = r
      · rw [hjr, hpr] at hbj
        rcases hb b' o' hbj with ⟨o1, h1⟩ | h1
        · exact h.inj i r b o b' o1 hi hr hir hbi h1
        · omega
      · rw [hpo j hjr] at hbj
        exact h.inj i j b o b' o' hi hj hij hbi hbj
  · intro i b o hi hbl
    rw [hlen] at hi
    rcases hxb i b o hi hbl with h1 | ⟨h1, h2⟩
    · refine ⟨Nat.lt_of_lt_of_le (h1.lt h) hs.size, ?_⟩
      obtain ⟨j, o', hj, hbj⟩ := h1
      exact (h.lt j b o' hj hbj).2
    · exact ⟨h2, fun hx => by have := h.xlt b hx; omega⟩

theorem HRel.setAt (h : HRel w X ρ H) {r : Nat} (hr : r < H.length) (l : Loc) (ho : HO) (hs : Same w w')
    (hl : l = ρ r ∨ (ρ r).ver < l.ver) (hb : ∀ b o, l.blk = some (b, o) → (∃ o', (ρ r).blk = some (b, o')) ∨ (w.heap.size ≤ b ∧ b < w'.heap.size))
    (keep : ∀ b, b < w.heap.size → (∀ o, (ρ r).blk ≠ some (b, o)) → w'.heap[b]? = w.heap[b]?)
    (hobj : ∀ ρ', ρ' = (fun i => if i = r then l else ρ i) → Fut w ρ H.length w' ρ' H.length → ObjOk w' (Mut X ρ' H.length) ρ' H.length l ho) :
    ∃ ρ', ρ' r = l ∧ HRel w' X ρ' (H.set r ho) ∧ Fut w ρ H.length w' ρ' (H.set r ho).length := by
  obtain ⟨ρ', h1, _, h2, h3⟩ := h.setAtX hr l ho hs hl hb keep hobj
  exact ⟨ρ', h1, h2, h3⟩

/-- A new object. -/
theorem HRel.push (h : HRel w X ρ H) (l : Loc) (ho : HO) (hs : Same w w') (hb : ∀ b o, l.blk = some (b, o) → w.heap.size ≤ b ∧ b < w'.heap.size)
    (keep : ∀ b, b < w.heap.size → w'.heap[b]? = w.heap[b]?)
    (hobj : ∀ ρ', Fut w ρ H.length w' ρ' (H.length + 1) → ρ' H.length = l → ObjOk w' (Mut X ρ' (H.length + 1)) ρ' (H.length + 1) l ho) :
    ∃ ρ', ρ' H.length = l ∧ HRel w' X ρ' (H ++ [ho]) ∧ Fut w ρ H.length w' ρ' (H ++ [ho]).length := by
  refine ⟨fun i => if i = H.length then l else ρ i, by simp, ?_⟩
  generalize hρ' : (fun i => if i = H.length then l else ρ i) = ρ'
  have hpr : ρ' H.length = l := by subst hρ'; simp
  have hpo : ∀ i, i < H.length → ρ' i = ρ i := fun i hi => by subst hρ'; simp [Nat.ne_of_lt hi]
  have hxb : ∀ i b o, i < H.length + 1 → (ρ' i).blk = some (b, o) → Own ρ H.length b ∨ (w.heap.size ≤ b ∧ b < w'.heap.size) := by
    intro i b o hi hbl
    by_cases hir : i = H.length
    · subst hir
      rw [hpr] at hbl
      exact .inr (hb b o hbl)
    · rw [hpo i (by omega)] at hbl; exact .inl ⟨i, o, by omega, hbl⟩
  have hf : Fut w ρ H.length w' ρ' (H.length + 1) :=
    ⟨hs.os, hs.tape, hs.output, hs.size, fun b hb' _ => keep b hb', fun b ⟨i, o, hi, hbl⟩ => (hxb i b o hi hbl).imp id (·.1), Nat.le_succ _, fun i hi => .inl (hpo i hi)⟩
  have hob := hobj ρ' hf hpr
  have hlen : (H ++ [ho]).length = H.length + 1 := by simp
  rw [hlen]
  refine ⟨⟨?_, ?_, ?_, fun b hb' => Nat.lt_of_lt_of_le (h.xlt b hb') hs.size, hlen ▸ h.gl.fut hf⟩, hf⟩
  · intro i o hi
    rw [hlen]
    by_cases hir : i = H.length
    · subst hir
      simp at hi
      subst hi
      rw [hpr]
      exact hob
    · have hlt : i < H.length := by
        have := (List.getElem?_eq_some_iff.1 hi).1
        simp at this
        omega
      rw [List.getElem?_append_left hlt] at hi
      rw [hpo i hlt]
      exact (h.objs i o hi).next hf fun b o' hbl => keep b (h.lt i b o' hlt hbl).1
  · intro i j b o b' o' hi hj hij hbi hbj
    rw [hlen] at hi hj
    by_cases hir : i = H.length
    · rw [hir, hpr] at hbi
      rw [hpo j (by omega)] at hbj
      have hlj := (h.lt j b' o' (by omega) hbj).1
      have := (hb b o hbi).1
      omega
    · rw [hpo i (by omega)] at hbi
      have hli := (h.lt i b o (by omega) hbi).1
      by_cases hjr : j = H.length
      · rw [hjr, hpr] at hbj
        have := (hb b' o' hbj).1
        omega
      · rw [hpo j (by omega)] at hbj
        exact h.inj i j b o b' o' (by omega) (by omega) hij hbi hbj
  · intro i b o hi hbl
    rw [hlen] at hi
    rcases hxb i b o hi hbl with h1 | ⟨h1, h2⟩
    · refine ⟨Nat.lt_of_lt_of_le (h1.lt h) hs.size, ?_⟩
      obtain ⟨j, o', hj, hbj⟩ := h1
      exact (h.lt j b o' hj hbj).2
    · exact ⟨h2, fun hx => by have := h.xlt b hx; omega⟩

theorem heap_old (w : World) (o : Obj) : ∀ b, b < w.heap.size → (w.alloc o).heap[b]? = w.heap[b]? := fun b hb => Below.heap_alloc w o b hb

end
end Go.Ax

/- That an operation does what is said of it: those that only read. -/
namespace Go.Ax
open Go Go.RowKit

/-- The slots hold what the environment says. -/
def ERep (w : World) (M : Nat → Prop) (ρ : Nat → Loc) (k n : Nat) (e : Env) (a : Act) : Prop := ∀ t, t < n → Rep w M ρ k (e t) (a.tmps.getD t undef)

/-- The run comes to what the result says. -/
def Gives (P : Program) (s : Sem Value) (w : World) (X : Nat → Prop) (ρ : Nat → Loc) (H : AHeap) (r : Res) : Prop :=
  r.ok → ∃ u w' ρ', s.run P w = .ok u w' ∧ HRel w' X ρ' r.H ∧ Rep w' (Mut X ρ' r.H.length) ρ' r.H.length r.x u ∧ Fut w ρ H.length w' ρ' r.H.length
def GivesU (P : Program) (s : Sem Unit) (w : World) (X : Nat → Prop) (ρ : Nat → Loc) (H : AHeap) (r : Res) : Prop :=
  r.ok → r.x = .any ∧ ∃ w' ρ', s.run P w = .ok () w' ∧ HRel w' X ρ' r.H ∧ Fut w ρ H.length w' ρ' r.H.length

section
variable {P : Program} {w : World} {X : Nat → Prop} {ρ : Nat → Loc} {H : AHeap}

theorem gives_no {s : Sem Value} : Gives P s w X ρ H (.no H) := fun h => h.elim
theorem gives_pure {s : Sem Value} {p : Prop} {x : AV} (h : HRel w X ρ H) (f : p → ∃ u, s.run P w = .ok u w ∧ Rep w (Mut X ρ H.length) ρ H.length x u) : Gives P s w X ρ H ⟨p, x, H⟩ := by
  intro hp
  obtain ⟨u, h1, h2⟩ := f hp
  exact ⟨u, w, ρ, h1, h, h2, Fut.refl _ _ _⟩
theorem gives_also {s : Sem Value} {p : Prop} {r : Res} (f : p → Gives P s w X ρ H r) : Gives P s w X ρ H (r.also p) := fun ⟨hp, hr⟩ => f hp hr

theorem ev_rep {M : Nat → Prop} {k n : Nat} {e : Env} {a : Act} (he : ERep w M ρ k n e a) {o : Operand} {x : LX} (h : lx n o = some x) : Rep w M ρ k (ev e x) (a.eval o) := by
  cases o with
  | tmp t =>
    simp only [lx] at h
    split at h
    · rename_i ht
      simp only [Option.some.injEq] at h
      subst h
      exact he t ht
    · cases h
  | const v =>
    simp only [lx, Option.some.injEq] at h
    subst h
    exact .v _ _
  | func f =>
    simp only [lx, Option.some.injEq] at h
    subst h
    exact .fn _ _ _ _ _ _ rfl rfl (fun i x u hx _ => by simp at hx) (fun i x u hx _ => by simp at hx)
  | global g => simp [lx] at h

theorem rep_one {M : Nat → Prop} {k : Nat} {x : AV} {u : Value} (h : Rep w M ρ k x u) (hc : c1 x = true) : one u = true := by
  cases h <;> first | rfl | assumption | (simp [c1] at hc; done) | exact hc

/-- The cells of a value. -/
theorem rep_cells {M : Nat → Prop} {k : Nat} {x : AV} {u : Value} (h : Rep w M ρ k x u) (hc : c1s (cellsOf x) = true) :
    (cellsOf x).length = u.cells.size ∧ ∀ (i : Nat) (y : AV) (v : Value), (cellsOf x)[i]? = some y → u.cells[i]? = some v → Rep w M ρ k y v ∧ one v = true := by
  by_cases hx : ∃ cs, x = .agg cs
  · obtain ⟨cs, rfl⟩ := hx
    cases h with
    | agg n cs us hl hr =>
      refine ⟨hl, fun i y v hy hv => ⟨hr i y v hy hv, ?_⟩⟩
      refine rep_one (hr i y v hy hv) ?_
      simp only [cellsOf, c1s, List.all_eq_true] at hc
      exact hc y (List.mem_of_getElem? hy)
  · have h1 : cellsOf x = [x] := by
      cases x <;> first | rfl | exact absurd ⟨_, rfl⟩ hx
    rw [h1] at hc ⊢
    have hc1 : c1 x = true := by simpa [c1s] using hc
    have hu := rep_one h hc1
    have h2 : u.cells = #[u] := by cases u <;> first | rfl | (simp [one] at hu)
    rw [h2]
    refine ⟨rfl, fun i y v hy hv => ?_⟩
    cases i with
    | zero => simp at hy hv; subst hy; subst hv; exact ⟨h, hu⟩
    | succ i => simp at hy

theorem tyAg_run {t : TypeId} {ag : Bool} (h : tyAg P t = some ag) : (isAgg t).run P w = .ok ag w := by
  unfold tyAg at h
  cases hd : P.underlying t with
  | none => simp [hd] at h
  | some d =>
    simp only [hd] at h
    unfold isAgg
    cases d <;> simp at h <;> subst h <;> simp [run_underlying hd]

theorem tySz_run {t : TypeId} {n : Nat} (h : tySz P t = some n) : (sizeOf t).run P w = .ok n w := by
  unfold tySz at h
  cases hi : P.info? t with
  | none => simp [hi] at h
  | some i =>
    simp [hi] at h
    subst h
    simp [sizeOf, typeInfo, hi]

/-- A variable is read. -/
theorem loadVar_ok {t : TypeId} {ag : Bool} {n : Nat} (hag : tyAg P t = some ag) (hsz : tySz P t = some n) {M : Nat → Prop} {k b o : Nat} {cs : List AV} (hn : n ≤ cs.length) (h1 : ag = true ∨ n = 1) (c : Nat → Value)
    (hc : ∀ j, j < n → w.cell? ⟨b, o + j, none⟩ = some (c j)) (hr : ∀ j y, j < n → cs[j]? = some y → Rep w M ρ k y (c j)) :
    ∃ u, (loadVar t ⟨b, o, none⟩).run P w = .ok u w ∧ Rep w M ρ k (cellsV ag n cs) u := by
  unfold loadVar
  cases ag with
  | true =>
    refine ⟨.agg ((List.range n).map c).toArray, ?_, ?_⟩
    · simp only [Sem.run_bind, tyAg_run hag, tySz_run hsz, Result.andThen_ok, if_true, Sem.run_ite]
      rw [run_loadCells w ⟨b, o, none⟩ n c (fun j hj => by rw [Addr.add_lit]; exact hc j hj)]
      simp
    · simp only [cellsV, if_true]
      refine .agg _ _ _ (by simp; omega) fun i x u hx hu => ?_
      simp only [List.getElem?_take] at hx
      split at hx
      · rename_i hi
        simp [hi] at hu
        subst hu
        exact hr i x hi hx
      · cases hx
  | false =>
    have hn1 : n = 1 := by simpa using h1
    subst hn1
    refine ⟨c 0, ?_, ?_⟩
    · simp only [Sem.run_bind, tyAg_run hag, Result.andThen_ok, Bool.false_eq_true, if_false, Sem.run_ite]
      rw [run_load]
      have := hc 0 (by omega)
      simp only [Nat.add_zero] at this
      rw [this]
    · simp only [cellsV, Bool.false_eq_true, if_false]
      cases cs with
      | nil => simp at hn
      | cons y cs => exact hr 0 y (by omega) rfl

theorem cell_of_blk {b : Nat} {c : Array Value} {el : TypeId} {fr : Nat × Nat} (h : w.heap[b]? = some (.cells c el fr)) (j : Nat) : w.cell? ⟨b, j, none⟩ = c[j]? := by
  simp [World.cell?, h]

/-- Cell i*sz+j of an array's cells is cell j of its element i. -/
theorem mul_lt_of {i sz j n : Nat} (hi : i < n) (hj : j < sz) : i * sz + j < n * sz := by
  have : (i + 1) * sz ≤ n * sz := Nat.mul_le_mul_right _ hi
  rw [Nat.add_mul] at this
  omega

theorem isBox_some {o : Option HO} (h : isBox o) : ∃ cs, o = some (.box cs) := by
  cases o with
  | none => cases h
  | some x => cases x <;> first | exact ⟨_, rfl⟩ | cases h
theorem isArr_some {o : Option HO} (h : isArr o) : ∃ v sz xs, o = some (.arr v sz xs) := by
  cases o with
  | none => cases h
  | some x => cases x <;> first | exact ⟨_, _, _, rfl⟩ | cases h

/-- A pointer into a box: where it lies. -/
theorem ptr_box (h : HRel w X ρ H) {r ver off : Nat} {u : Value} (hx : Rep w (Mut X ρ H.length) ρ H.length (.ptr r ver off) u) {cs : List AV} (ho : H[r]? = some (.box cs)) (hv : ver = 0) :
    r < H.length ∧ ∃ b c e fr, (ρ r).blk = some (b, 0) ∧ u = .pointer (some ⟨b, off, none⟩) ∧ w.heap[b]? = some (.cells c e fr) ∧ cs.length = c.size ∧ noFr fr c.size ∧ (ρ r).ver = 0 ∧
      ∀ (j : Nat) (y : AV) (u : Value), cs[j]? = some y → c[j]? = some u → Rep w (Mut X ρ H.length) ρ H.length y u ∧ one u = true := by
  obtain ⟨h1, b, c, e, fr, h2, h3, h4, h5, h6⟩ := h.objs r _ ho
  cases hx with
  | ptr _ _ _ _ _ hr hle hone hp =>
    subst hv
    obtain ⟨b', o', hb, hu⟩ := hp h1.symm
    rw [h2] at hb
    simp only [Option.some.injEq, Prod.mk.injEq] at hb
    obtain ⟨rfl, rfl⟩ := hb
    exact ⟨hr, b, c, e, fr, h2, by simpa using hu, h3, h4, h5.1, h1, h6⟩

/-- A pointer into an array's element: where it lies. -/
theorem pe_arr (h : HRel w X ρ H) {r ver i off : Nat} {u : Value} (hx : Rep w (Mut X ρ H.length) ρ H.length (.pe r ver i off) u) {v sz : Nat} {xs : List (List AV)} (ho : H[r]? = some (.arr v sz xs)) (hv : ver = v) (_hi : i < xs.length) :
    r < H.length ∧ ∃ b o c e fr, (ρ r).blk = some (b, o) ∧ u = .pointer (some ⟨b, o + (i * sz + off), none⟩) ∧ w.heap[b]? = some (.cells c e fr) ∧ o + (ρ r).ext ≤ c.size ∧ noFr fr c.size ∧ xs.length * sz ≤ (ρ r).ext ∧
      (∀ x ∈ xs, x.length = sz) ∧ 0 < sz ∧ (ρ r).ver = ver ∧ (ρ r).sz = sz ∧ ∀ (i j : Nat) (x : List AV) (y : AV) (u : Value), xs[i]? = some x → x[j]? = some y → c[o + i * sz + j]? = some u → Rep w (Mut X ρ H.length) ρ 0 y u ∧ one u = true := by
  obtain ⟨h1, h2, h3, h4, h5, h6⟩ := h.objs r _ ho
  cases hx with
  | pe _ _ _ _ _ _ hr hle hone hp =>
    subst hv
    obtain ⟨b', o', hb, hu⟩ := hp h1.symm
    rw [hb] at h6
    obtain ⟨c, e, fr, g1, g2, g3, g4⟩ := h6
    rw [h2] at hu
    exact ⟨hr, b', o', c, e, fr, hb, hu, g1, g2, g3, h5, h4, h3, h1, h2, g4⟩

theorem snd_load {t : TypeId} {ag : Bool} {n : Nat} (hag : tyAg P t = some ag) (hsz : tySz P t = some n) (h : HRel w X ρ H) {p : AV} {u : Value} (hp : Rep w (Mut X ρ H.length) ρ H.length p u) :
    Gives P (Instr.loadAt t u) w X ρ H (rLoad ag n p H) := by
  have at_ : ∀ a : Addr, Instr.loadAt t (.pointer (some a)) = loadVar t a := fun a => rfl
  cases p with
  | vp cs off =>
    simp only [rLoad]
    refine gives_pure h fun ⟨h1, h2⟩ => ?_
    cases hp with
    | vp _ _ _ b o c hm hb hcell hrep =>
      rw [at_]
      refine loadVar_ok hag hsz (cs := cs.drop off) (by simp; omega) h2 (fun j => c (off + j)) (fun j hj => ?_) (fun j y hj hy => ?_)
      · have hlt : off + j < cs.length := by omega
        have := hcell (off + j) cs[off + j] (by simp [hlt])
        rw [Nat.add_assoc]
        exact this.1
      · rw [List.getElem?_drop] at hy
        exact (hrep _ _ hy).mono (Nat.zero_le _)
  | ptr r ver off =>
    simp only [rLoad]
    refine gives_also fun ⟨hb, hv⟩ => ?_
    obtain ⟨cs, ho⟩ := isBox_some hb
    rw [ho] at hv ⊢
    simp only [isVer] at hv
    simp only [rLoadO]
    refine gives_pure h fun ⟨h1, h2⟩ => ?_
    obtain ⟨hr, b, c, e, fr, hblk, rfl, hh, hl, hfr, _, hrep⟩ := ptr_box h hp ho hv
    rw [at_]
    refine loadVar_ok hag hsz (cs := cs.drop off) (by simp; omega) h2 (fun j => c.getD (off + j) undef) (fun j hj => ?_) (fun j y hj hy => ?_)
    · rw [cell_of_blk hh]
      have hlt : off + j < c.size := by omega
      simp [hlt]
    · rw [List.getElem?_drop] at hy
      have hlt : off + j < c.size := by omega
      exact (hrep _ _ _ hy (by simp [hlt])).1
  | pe r ver i off =>
    simp only [rLoad]
    refine gives_also fun ⟨hb, hv⟩ => ?_
    obtain ⟨v, sz, xs, ho⟩ := isArr_some hb
    rw [ho] at hv ⊢
    simp only [isVer] at hv
    simp only [rLoadO]
    refine gives_pure h fun ⟨h0, h1, h2⟩ => ?_
    obtain ⟨hr, b, o, c, e, fr, hblk, rfl, hh, hext, hfr, hle, hrow, hsz0, _, _, hrep⟩ := pe_arr h hp ho hv h0
    rw [at_]
    have hx : xs[i]? = some (xs.getD i []) := by simp [h0]
    have hxl : (xs.getD i []).length = sz := hrow _ (List.mem_of_getElem? hx)
    have hlt : ∀ j, j < n → o + i * sz + (off + j) < c.size := fun j hj => by
      have := mul_lt_of (sz := sz) (j := off + j) h0 (by omega)
      omega
    refine loadVar_ok hag hsz (cs := (xs.getD i []).drop off) (by simp only [List.length_drop]; omega) h2 (fun j => c.getD (o + i * sz + (off + j)) undef) (fun j hj => ?_) (fun j y hj hy => ?_)
    · rw [cell_of_blk hh]
      have := hlt j hj
      rw [show o + (i * sz + off) + j = o + i * sz + (off + j) by omega]
      simp [this]
    · rw [List.getElem?_drop] at hy
      exact (hrep i (off + j) _ _ _ hx hy (by simp [hlt j hj])).1.mono (Nat.zero_le _)
  | _ => exact gives_no
end
end Go.Ax

/- That an operation does what is said of it: those that compute. -/
namespace Go.Ax
open Go Go.RowKit

section
variable {P : Program} {w : World} {X : Nat → Prop} {ρ : Nat → Loc} {H : AHeap}

abbrev Rp (w : World) (X : Nat → Prop) (ρ : Nat → Loc) (H : AHeap) (x : AV) (u : Value) : Prop := Rep w (Mut X ρ H.length) ρ H.length x u

theorem rep_v {x u : Value} (h : Rp w X ρ H (.v x) u) : u = x := by cases h; rfl
theorem rep_fn {f : Fn} {a b : List AV} {u : Value} (h : Rp w X ρ H (.fn f a b) u) : ∃ fs us, u = .func f fs us := by cases h; exact ⟨_, _, rfl⟩

theorem toList_bs (s : ByteArray) : s.toList = bs s := by rw [ByteArray.toList_eq]; rfl
theorem append_bs (a b : ByteArray) : a ++ b = mkS (bs a ++ bs b) := by
  apply ByteArray.ext
  simp [mkS, bs, ByteArray.data_append]

theorem gives_v {s : Sem Value} {p : Prop} {x : Value} (h : HRel w X ρ H) (f : p → s.run P w = .ok x w) : Gives P s w X ρ H ⟨p, .v x, H⟩ :=
  gives_pure h fun hp => ⟨x, f hp, .v _ _⟩

theorem snd_not {x : AV} {u : Value} (h : HRel w X ρ H) (hx : Rp w X ρ H x u) : Gives P (Op.unary .not u) w X ρ H (rNot x H) := by
  cases x with
  | v x =>
    have := rep_v hx; subst this
    cases u <;> first | exact gives_no | exact gives_v h fun _ => rfl
  | _ => exact gives_no
theorem snd_neg {x : AV} {u : Value} (h : HRel w X ρ H) (hx : Rp w X ρ H x u) : Gives P (Op.unary .neg u) w X ρ H (rNeg x H) := by
  cases x with
  | v x =>
    have := rep_v hx; subst this
    cases u <;> first | exact gives_no | exact gives_v h fun _ => rfl
  | _ => exact gives_no

theorem snd_min {x y : AV} {u v : Value} {ts : Array TypeId} {ty : TypeId} (h : HRel w X ρ H) (hx : Rp w X ρ H x u) (hy : Rp w X ρ H y v) : Gives P (Builtin.min_ ts ty #[u, v]) w X ρ H (rMin x y H) := by
  cases x with
  | v x =>
    have := rep_v hx; subst this
    cases y with
    | v y =>
      have := rep_v hy; subst this
      cases u <;> first | exact gives_no | skip
      cases v <;> first | exact gives_no | exact gives_v h fun _ => rfl
    | _ => cases u <;> exact gives_no
  | _ => exact gives_no
theorem snd_max {x y : AV} {u v : Value} {ts : Array TypeId} {ty : TypeId} (h : HRel w X ρ H) (hx : Rp w X ρ H x u) (hy : Rp w X ρ H y v) : Gives P (Builtin.max_ ts ty #[u, v]) w X ρ H (rMax x y H) := by
  cases x with
  | v x =>
    have := rep_v hx; subst this
    cases y with
    | v y =>
      have := rep_v hy; subst this
      cases u <;> first | exact gives_no | skip
      cases v <;> first | exact gives_no | exact gives_v h fun _ => rfl
    | _ => cases u <;> exact gives_no
  | _ => exact gives_no

theorem snd_idx {t : TypeId} {x i : AV} {u v : Value} (ht : P.underlying t = some .string) (h : HRel w X ρ H) (hx : Rp w X ρ H x u) (hi : Rp w X ρ H i v) : Gives P (Instr.index t u v) w X ρ H (rIdx x i H) := by
  cases x with
  | v x =>
    have := rep_v hx; subst this
    cases i with
    | v i =>
      have := rep_v hi; subst this
      cases u <;> first | exact gives_no | skip
      cases v <;> first | exact gives_no | skip
      rename_i s k n
      refine gives_v h fun ⟨h0, h1⟩ => ?_
      have hlt : n.toNat < s.size := by have : (bs s).length = s.size := by cases s; rfl
                                        omega
      simp [Instr.index, asIntOf, run_underlying ht, h0, hlt, bs, List.getD]
      rfl
    | _ => cases u <;> exact gives_no
  | _ => exact gives_no

theorem snd_ibin {op : BinOp} {t : TypeId} {ox oy : Operand} {k k' : IntKind} {a b : Int} (h : HRel w X ρ H) :
    Gives P (do eqGuard op t ox oy (.int k a) (.int k' b); binOp op t (.int k a) (.int k' b)) w X ρ H (iBin op k k' a b H) := by
  simp only [eqGuard_at_int, pure_bind]
  have hne : ∀ k : IntKind, (k ≠ k) = False := fun k => by simp
  cases op <;> simp only [iBin] <;> first
    | exact gives_no
    | (refine gives_v h fun hk => ?_
       subst hk
       simp only [binOp, hne, if_false]
       rfl)
    | (refine gives_v h fun ⟨hk, hb⟩ => ?_
       subst hk
       simp only [binOp, hne, if_false, Op.intDiv, hb]
       rfl)
    | (refine gives_v h fun hb => ?_
       simp only [binOp, Op.shift, Int.not_lt.2 hb, if_false]
       rfl)

theorem snd_sbin {op : BinOp} {t : TypeId} {ox oy : Operand} {a b : ByteArray} (h : HRel w X ρ H) :
    Gives P (do eqGuard op t ox oy (.string a) (.string b); binOp op t (.string a) (.string b)) w X ρ H (sBin op (bs a) (bs b) H) := by
  simp only [eqGuard_at_string, pure_bind]
  have hs : ∀ s : ByteArray, (bs s).length = s.size := fun s => by cases s; rfl
  have hd : ∀ a b : List UInt8, (a == b) = decide (a = b) := fun a b => by rw [Bool.eq_iff_iff]; simp
  cases op <;> simp only [sBin] <;> first
    | exact gives_no
    | (refine gives_v h fun hk => ?_
       have h1 : ¬ IntKind.i64.max < ((a.size : Int) + (b.size : Int)) := by
         rw [IntKind.max_i64]
         rw [hs, hs] at hk
         omega
       simp [binOp, Op.stringOp, append_bs]
       simpa using h1)
    | (refine gives_v h fun _ => ?_
       simp [binOp, Op.stringOp, toList_bs, hd]
       done)

theorem gives_eq {op : BinOp} {t : TypeId} {ox oy : Operand} {u v : Value} {p : Prop} {b : Bool} (h : HRel w X ρ H) (hg : eqGuard op t ox oy u v = pure ())
    (he : binOp .eql t u v = do pure (.bool (← Op.equal t u v))) (hn : binOp .neq t u v = do pure (.bool (!(← Op.equal t u v)))) (f : p → (Op.equal t u v).run P w = .ok b w) :
    Gives P (do eqGuard op t ox oy u v; binOp op t u v) w X ρ H (eqRes op p b H) := by
  rw [hg]
  cases op <;> simp only [eqRes] <;> first
    | exact gives_no
    | (refine gives_v h fun hk => ?_
       simp [he, f hk]
       done)
    | (refine gives_v h fun hk => ?_
       simp [hn, f hk]
       done)

theorem eq_bool {t : TypeId} {a b : Bool} (ht : P.underlying t = some .bool) : (Op.equal t (.bool a) (.bool b)).run P w = .ok (decide (a = b)) w := by
  have h1 : Op.equal t (.bool a) (.bool b) = Op.equalIn (9999 + 1) t (.bool a) (.bool b) := rfl
  rw [h1, run_equalIn_bool' w 9999 t a b ht]
  rfl
theorem eqIn_fn {d : Nat} {t : TypeId} {p q : Array TypeId} {c : Bool} {f : Fn} {a b : Array Value} (ht : P.underlying t = some (.func p q c)) : (Op.equalIn (d + 1) t (.func f a b) .nilFunc).run P w = .ok false w := by
  simp [Op.equalIn, run_underlying ht]
theorem eqIn_nilFn {d : Nat} {t : TypeId} {p q : Array TypeId} {c : Bool} (ht : P.underlying t = some (.func p q c)) : (Op.equalIn (d + 1) t .nilFunc .nilFunc).run P w = .ok true w := by
  simp [Op.equalIn, run_underlying ht]

theorem snd_bin0 {kd : KD} {op : BinOp} {t : TypeId} {ox oy : Operand} {x y : AV} {u v : Value} (hk : tyKD P t = some kd) (h : HRel w X ρ H) (hx : Rp w X ρ H x u) (hy : Rp w X ρ H y v)
    (hagg : ∀ ks cs ds us vs, kd = .agg ks → x = .agg cs → y = .agg ds → u = .agg us → v = .agg vs → Gives P (do eqGuard op t ox oy u v; binOp op t u v) w X ρ H (eqRes op (cEq ks cs ds).1 (cEq ks cs ds).2 H)) :
    Gives P (do eqGuard op t ox oy u v; binOp op t u v) w X ρ H (rBin kd op x y H) := by
  have hkb : isKD kd .bool = true → P.underlying t = some .bool := by
    intro hb
    unfold tyKD at hk
    cases hd : P.underlying t with
    | none => simp [hd] at hk
    | some d => cases d <;> simp [hd] at hk <;> first | rfl | (subst hk; simp [isKD] at hb; done) | (obtain ⟨_, _, _, rfl⟩ := hk; simp [isKD] at hb)
  have hkf : isKD kd .fn = true → ∃ a b c, P.underlying t = some (.func a b c) := by
    intro hb
    unfold tyKD at hk
    cases hd : P.underlying t with
    | none => simp [hd] at hk
    | some d => cases d <;> simp [hd] at hk <;> first | exact ⟨_, _, _, rfl⟩ | (subst hk; simp [isKD] at hb; done) | (obtain ⟨_, _, _, rfl⟩ := hk; simp [isKD] at hb)
  cases x with
  | v x =>
    have := rep_v hx; subst this
    cases y with
    | v y =>
      have := rep_v hy; subst this
      cases u <;> cases v <;> simp only [rBin] <;> first
        | exact gives_no
        | exact snd_ibin h
        | exact snd_sbin h
        | (refine gives_eq h (by simp [eqGuard_at_bool]) rfl rfl fun hp => ?_
           exact eq_bool (hkb hp))
        | (refine gives_eq h (by simp [eqGuard_at_nilFunc]) rfl rfl fun hp => ?_
           obtain ⟨a, b, c, hd⟩ := hkf hp
           exact eqIn_nilFn (d := 9999) hd)
    | _ => cases u <;> exact gives_no
  | agg cs =>
    cases y with
    | agg ds =>
      cases hx with
      | agg _ _ us hl hr =>
        cases hy with
        | agg _ _ vs hl' hr' =>
          simp only [rBin]
          cases kd <;> first | exact gives_no | exact hagg _ cs ds us vs rfl rfl rfl rfl rfl
    | _ => exact gives_no
  | fn f a b =>
    obtain ⟨fs, us, rfl⟩ := rep_fn hx
    cases y with
    | v y =>
      have := rep_v hy; subst this
      cases v <;> simp only [rBin] <;> first
        | exact gives_no
        | (refine gives_eq h (by simp [eqGuard_at_func]) rfl rfl fun hp => ?_
           obtain ⟨a, b, c, hd⟩ := hkf hp
           exact eqIn_fn (d := 9999) hd)
    | _ => exact gives_no
  | _ => exact gives_no
end
end Go.Ax
