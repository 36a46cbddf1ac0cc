/- Values without addresses, what it means that a value of the model stands for one, and how that lasts. -/
import Derived.WalkKit
namespace Go.Ax
open Go Go.RowKit

/-- A value as a proof sees it. 'sl', 'vp', 'mp': memory that nobody changes any more (a slice, a pointer to cells, a map). 'os', 'ptr', 'om': a slice, a pointer, a map of object number r. -/
inductive AV where
  | any
  | v (x : Value)
  | agg (cs : List AV)
  | tup (cs : List AV)
  | sl (sz : Nat) (xs : List (List AV))
  | vp (cs : List AV) (off : Nat)
  | fn (f : Fn) (first caps : List AV)
  | mp (ks : List Value) (vs : List AV)
  | os (r ver off len : Nat)
  | ptr (r ver off : Nat)
  | pe (r ver i off : Nat)
  | om (r ver : Nat)
  | nc
  deriving Inhabited

/-- Where an object lies: its block and its first cell, how many cells it may use, which version it is, how many cells an element has. -/
structure Loc where
  blk : Option (Nat × Nat) := none
  ext : Nat := 0
  ver : Nat := 0
  sz : Nat := 0

/-- The objects that a run owns. -/
inductive HO where
  | dead
  | box (cs : List AV)
  | arr (ver sz : Nat) (xs : List (List AV))
  | map (ver : Nat) (ks : List Value) (vs : List AV)
  | iter (s : ByteArray) (pos : Nat)
  deriving Inhabited

abbrev AHeap := List HO

def OsOk (l : Loc) (off len : Nat) (val : Value) : Prop :=
  ∃ a cap, val = .slice a len cap ∧ len ≤ cap ∧ (cap = 0 ∨ ∃ b o, l.blk = some (b, o) ∧ a = some ⟨b, o + off * l.sz, none⟩ ∧ (off + cap) * l.sz ≤ l.ext)

def PtOk (l : Loc) (off : Nat) (val : Value) : Prop := ∃ b o, l.blk = some (b, o) ∧ val = .pointer (some ⟨b, o + off, none⟩)
def OmOk (l : Loc) (val : Value) : Prop := ∃ b o, l.blk = some (b, o) ∧ val = .map (some b)

/-- The value of one cell. -/
def one : Value → Bool
  | .agg _ | .tuple _ => false
  | _ => true

/-- 'v' stands for 'x' in world w. M: the blocks that may still change. -/
inductive Rep (w : World) (M : Nat → Prop) (ρ : Nat → Loc) : Nat → AV → Value → Prop
  | any (n : Nat) (u : Value) : Rep w M ρ n .any u
  | v (n : Nat) (x : Value) : Rep w M ρ n (.v x) x
  | agg (n : Nat) (cs : List AV) (us : Array Value) : cs.length = us.size → (∀ (i : Nat) (x : AV) (u : Value), cs[i]? = some x → us[i]? = some u → Rep w M ρ n x u) → Rep w M ρ n (.agg cs) (.agg us)
  | tup (n : Nat) (cs : List AV) (us : Array Value) : cs.length = us.size → (∀ (i : Nat) (x : AV) (u : Value), cs[i]? = some x → us[i]? = some u → Rep w M ρ n x u) → Rep w M ρ n (.tup cs) (.tuple us)
  | nc (n : Nat) (a : Option Addr) : Rep w M ρ n .nc (.slice a 0 0)
  | slE (n sz : Nat) (a : Option Addr) (cap : Nat) : Rep w M ρ n (.sl sz []) (.slice a 0 cap)
  | slN (n sz : Nat) (xs : List (List AV)) (b o cap : Nat) (c : Nat → Nat → Value) : ¬ M b → b < w.heap.size → xs.length ≤ cap → (∀ x ∈ xs, x.length = sz) →
      (∀ (i j : Nat) (x : List AV) (y : AV), xs[i]? = some x → x[j]? = some y → w.cell? ⟨b, o + i * sz + j, none⟩ = some (c i j) ∧ one (c i j) = true) →
      (∀ (i j : Nat) (x : List AV) (y : AV), xs[i]? = some x → x[j]? = some y → Rep w M ρ 0 y (c i j)) → Rep w M ρ n (.sl sz xs) (.slice (some ⟨b, o, none⟩) xs.length cap)
  | vp (n : Nat) (cs : List AV) (off b o : Nat) (c : Nat → Value) : ¬ M b → b < w.heap.size → (∀ (j : Nat) (y : AV), cs[j]? = some y → w.cell? ⟨b, o + j, none⟩ = some (c j) ∧ one (c j) = true) →
      (∀ (j : Nat) (y : AV), cs[j]? = some y → Rep w M ρ 0 y (c j)) → Rep w M ρ n (.vp cs off) (.pointer (some ⟨b, o + off, none⟩))
  | fn (n : Nat) (f : Fn) (first caps : List AV) (fs us : Array Value) : first.length = fs.size → caps.length = us.size → (∀ (i : Nat) (x : AV) (u : Value), first[i]? = some x → fs[i]? = some u → Rep w M ρ n x u) →
      (∀ (i : Nat) (x : AV) (u : Value), caps[i]? = some x → us[i]? = some u → Rep w M ρ n x u) → Rep w M ρ n (.fn f first caps) (.func f fs us)
  | mp (n : Nat) (ks : List Value) (vs : List AV) (b : Nat) (es : Array MapEntry) (clock : Nat) : ¬ M b → b < w.heap.size → w.heap[b]? = some (.map es clock) → ks = es.toList.map (·.key) → vs.length = es.size →
      (∀ (i : Nat) (x : AV) (e : MapEntry), vs[i]? = some x → es[i]? = some e → Rep w M ρ 0 x e.val) → Rep w M ρ n (.mp ks vs) (.map (some b))
  | os (n r ver off len : Nat) (u : Value) : r < n → ver ≤ (ρ r).ver → one u = true → (ver = (ρ r).ver → OsOk (ρ r) off len u) → Rep w M ρ n (.os r ver off len) u
  | ptr (n r ver off : Nat) (u : Value) : r < n → ver ≤ (ρ r).ver → one u = true → (ver = (ρ r).ver → PtOk (ρ r) off u) → Rep w M ρ n (.ptr r ver off) u
  | pe (n r ver i off : Nat) (u : Value) : r < n → ver ≤ (ρ r).ver → one u = true → (ver = (ρ r).ver → PtOk (ρ r) (i * (ρ r).sz + off) u) → Rep w M ρ n (.pe r ver i off) u
  | om (n r ver : Nat) (u : Value) : r < n → ver ≤ (ρ r).ver → one u = true → (ver = (ρ r).ver → OmOk (ρ r) u) → Rep w M ρ n (.om r ver) u

/-- The blocks of the first n objects. -/
def Own (ρ : Nat → Loc) (n : Nat) (b : Nat) : Prop := ∃ r o, r < n ∧ (ρ r).blk = some (b, o)

def Mut (X : Nat → Prop) (ρ : Nat → Loc) (n : Nat) (b : Nat) : Prop := X b ∨ Own ρ n b

/-- From one state to a later one: only owned blocks have changed; what is owned now was owned or is new; a place stays, or its version grows. -/
structure Fut (w : World) (ρ : Nat → Loc) (n : Nat) (w' : World) (ρ' : Nat → Loc) (n' : Nat) : Prop where
  os : w'.os = w.os
  tape : w'.tape = w.tape
  output : w'.output = w.output
  size : w.heap.size ≤ w'.heap.size
  keep : ∀ b, b < w.heap.size → ¬ Own ρ n b → w'.heap[b]? = w.heap[b]?
  own : ∀ b, Own ρ' n' b → Own ρ n b ∨ w.heap.size ≤ b
  len : n ≤ n'
  loc : ∀ r, r < n → ρ' r = ρ r ∨ (ρ r).ver < (ρ' r).ver

theorem Fut.refl (w : World) (ρ : Nat → Loc) (n : Nat) : Fut w ρ n w ρ n :=
  ⟨rfl, rfl, rfl, Nat.le_refl _, fun _ _ _ => rfl, fun _ h => .inl h, Nat.le_refl _, fun _ _ => .inl rfl⟩

theorem Fut.trans {w w1 w2 : World} {ρ ρ1 ρ2 : Nat → Loc} {n n1 n2 : Nat} (h : Fut w ρ n w1 ρ1 n1) (k : Fut w1 ρ1 n1 w2 ρ2 n2) : Fut w ρ n w2 ρ2 n2 where
  os := k.os.trans h.os
  tape := k.tape.trans h.tape
  output := k.output.trans h.output
  size := Nat.le_trans h.size k.size
  keep := fun b hb ho => by
    rw [k.keep b (Nat.lt_of_lt_of_le hb h.size), h.keep b hb ho]
    intro h1
    rcases h.own b h1 with h2 | h2
    · exact ho h2
    · omega
  own := fun b hb => by
    rcases k.own b hb with h1 | h1
    · exact h.own b h1
    · exact .inr (Nat.le_trans h.size h1)
  len := Nat.le_trans h.len k.len
  loc := fun r hr => by
    rcases h.loc r hr with h1 | h1 <;> rcases k.loc r (Nat.lt_of_lt_of_le hr h.len) with h2 | h2
    · exact .inl (h2.trans h1)
    · exact .inr (by rw [h1] at h2; exact h2)
    · exact .inr (by rw [h2]; exact h1)
    · exact .inr (Nat.lt_trans h1 h2)

/-- What stood for a value goes on standing for it. -/
theorem Rep.fut {w w' : World} {M M' : Nat → Prop} {ρ ρ' : Nat → Loc} {n0 n1 : Nat} (hf : Fut w ρ n0 w' ρ' n1) (hM : ∀ b, b < w.heap.size → ¬ M b → ¬ M' b) (hO : ∀ b, ¬ M b → ¬ Own ρ n0 b)
    {k : Nat} {x : AV} {u : Value} (h : Rep w M ρ k x u) : k ≤ n0 → Rep w' M' ρ' k x u := by
  have hc : ∀ b o, b < w.heap.size → ¬ M b → w'.cell? ⟨b, o, none⟩ = w.cell? ⟨b, o, none⟩ := fun b o hb hm => World.cell?_of_block (hf.keep b hb (hO b hm))
  have hv : ∀ r ver (P : Loc → Prop), r < n0 → ver ≤ (ρ r).ver → (ver = (ρ r).ver → P (ρ r)) → ver ≤ (ρ' r).ver ∧ (ver = (ρ' r).ver → P (ρ' r)) := by
    intro r ver P hr hle hp
    rcases hf.loc r hr with h1 | h1
    · rw [h1]; exact ⟨hle, hp⟩
    · exact ⟨by omega, fun h => by omega⟩
  induction h with
  | any => intro _; exact .any _ _
  | v => intro _; exact .v _ _
  | agg n cs us hl _ ih => intro hk; exact .agg _ _ _ hl fun i x u hx hu => ih i x u hx hu hk
  | tup n cs us hl _ ih => intro hk; exact .tup _ _ _ hl fun i x u hx hu => ih i x u hx hu hk
  | nc => intro _; exact .nc _ _
  | slE => intro _; exact .slE _ _ _ _
  | slN n sz xs b o cap c hm hb hcap hsz hcell _ ih =>
    intro _
    exact .slN _ _ _ _ _ _ c (hM b hb hm) (Nat.lt_of_lt_of_le hb hf.size) hcap hsz (fun i j x y hx hy => ⟨by rw [hc b _ hb hm]; exact (hcell i j x y hx hy).1, (hcell i j x y hx hy).2⟩) (fun i j x y hx hy => ih i j x y hx hy (Nat.zero_le _))
  | vp n cs off b o c hm hb hcell _ ih =>
    intro _
    exact .vp _ _ _ _ _ c (hM b hb hm) (Nat.lt_of_lt_of_le hb hf.size) (fun j y hy => ⟨by rw [hc b _ hb hm]; exact (hcell j y hy).1, (hcell j y hy).2⟩) (fun j y hy => ih j y hy (Nat.zero_le _))
  | fn n f first caps fs us h1 h2 _ _ ih1 ih2 => intro hk; exact .fn _ _ _ _ _ _ h1 h2 (fun i x u hx hu => ih1 i x u hx hu hk) (fun i x u hx hu => ih2 i x u hx hu hk)
  | mp n ks vs b es clock hm hb hh hks hvs _ ih =>
    intro _
    exact .mp _ _ _ _ es clock (hM b hb hm) (Nat.lt_of_lt_of_le hb hf.size) (by rw [hf.keep b hb (hO b hm)]; exact hh) hks hvs (fun i x e hx he => ih i x e hx he (Nat.zero_le _))
  | os n r ver off len u hr hle h1 hp =>
    intro hk
    obtain ⟨a, b⟩ := hv r ver (fun l => OsOk l off len u) (Nat.lt_of_lt_of_le hr hk) hle hp
    exact .os _ _ _ _ _ _ hr a h1 b
  | ptr n r ver off u hr hle h1 hp =>
    intro hk
    obtain ⟨a, b⟩ := hv r ver (fun l => PtOk l off u) (Nat.lt_of_lt_of_le hr hk) hle hp
    exact .ptr _ _ _ _ _ hr a h1 b
  | pe n r ver i off u hr hle h1 hp =>
    intro hk
    obtain ⟨a, b⟩ := hv r ver (fun l => PtOk l (i * l.sz + off) u) (Nat.lt_of_lt_of_le hr hk) hle hp
    exact .pe _ _ _ _ _ _ hr a h1 b
  | om n r ver u hr hle h1 hp =>
    intro hk
    obtain ⟨a, b⟩ := hv r ver (fun l => OmOk l u) (Nat.lt_of_lt_of_le hr hk) hle hp
    exact .om _ _ _ _ hr a h1 b

theorem Rep.mono {w : World} {M : Nat → Prop} {ρ : Nat → Loc} {k k' : Nat} {x : AV} {u : Value} (h : Rep w M ρ k x u) : k ≤ k' → Rep w M ρ k' x u := by
  revert k'
  induction h with
  | any => intro _ _; exact .any _ _
  | v => intro _ _; exact .v _ _
  | agg n cs us hl _ ih => intro k' hk; exact .agg _ _ _ hl fun i x u hx hu => ih i x u hx hu hk
  | tup n cs us hl _ ih => intro k' hk; exact .tup _ _ _ hl fun i x u hx hu => ih i x u hx hu hk
  | nc => intro _ _; exact .nc _ _
  | slE => intro _ _; exact .slE _ _ _ _
  | slN n sz xs b o cap c hm hb hcap hsz hcell h0 _ => intro _ _; exact .slN _ _ _ _ _ _ c hm hb hcap hsz hcell h0
  | vp n cs off b o c hm hb hcell h0 _ => intro _ _; exact .vp _ _ _ _ _ c hm hb hcell h0
  | fn n f first caps fs us h1 h2 _ _ ih1 ih2 => intro k' hk; exact .fn _ _ _ _ _ _ h1 h2 (fun i x u hx hu => ih1 i x u hx hu hk) (fun i x u hx hu => ih2 i x u hx hu hk)
  | mp n ks vs b es clock hm hb hh hks hvs h0 _ => intro _ _; exact .mp _ _ _ _ es clock hm hb hh hks hvs h0
  | os n r ver off len u hr hle h1 hp => intro k' hk; exact .os _ _ _ _ _ _ (Nat.lt_of_lt_of_le hr hk) hle h1 hp
  | ptr n r ver off u hr hle h1 hp => intro k' hk; exact .ptr _ _ _ _ _ (Nat.lt_of_lt_of_le hr hk) hle h1 hp
  | pe n r ver i off u hr hle h1 hp => intro k' hk; exact .pe _ _ _ _ _ _ (Nat.lt_of_lt_of_le hr hk) hle h1 hp
  | om n r ver u hr hle h1 hp => intro k' hk; exact .om _ _ _ _ (Nat.lt_of_lt_of_le hr hk) hle h1 hp

/-- A value that names no object stands alone: neither the places nor the number of objects matter. -/
theorem Rep.closed {w : World} {M : Nat → Prop} {ρ : Nat → Loc} {x : AV} {u : Value} {k : Nat} (h : Rep w M ρ k x u) : k = 0 → ∀ (ρ' : Nat → Loc) (k' : Nat), Rep w M ρ' k' x u := by
  induction h with
  | any => intro _ _ _; exact .any _ _
  | v => intro _ _ _; exact .v _ _
  | agg n cs us hl _ ih => intro hk ρ' k'; exact .agg _ _ _ hl fun i x u hx hu => ih i x u hx hu hk ρ' k'
  | tup n cs us hl _ ih => intro hk ρ' k'; exact .tup _ _ _ hl fun i x u hx hu => ih i x u hx hu hk ρ' k'
  | nc => intro _ _ _; exact .nc _ _
  | slE => intro _ _ _; exact .slE _ _ _ _
  | slN n sz xs b o cap c hm hb hcap hsz hcell _ ih => intro _ ρ' _; exact .slN _ _ _ _ _ _ c hm hb hcap hsz hcell fun i j x y hx hy => ih i j x y hx hy rfl ρ' 0
  | vp n cs off b o c hm hb hcell _ ih => intro _ ρ' _; exact .vp _ _ _ _ _ c hm hb hcell fun j y hy => ih j y hy rfl ρ' 0
  | fn n f first caps fs us h1 h2 _ _ ih1 ih2 => intro hk ρ' k'; exact .fn _ _ _ _ _ _ h1 h2 (fun i x u hx hu => ih1 i x u hx hu hk ρ' k') (fun i x u hx hu => ih2 i x u hx hu hk ρ' k')
  | mp n ks vs b es clock hm hb hh hks hvs _ ih => intro _ ρ' _; exact .mp _ _ _ _ es clock hm hb hh hks hvs fun i x e hx he => ih i x e hx he rfl ρ' 0
  | os n r ver off len u hr hle h1 hp => intro hk _ _; omega
  | ptr n r ver off u hr hle h1 hp => intro hk _ _; omega
  | pe n r ver i off u hr hle h1 hp => intro hk _ _; omega
  | om n r ver u hr hle h1 hp => intro hk _ _; omega

mutual
/-- Names no object. -/
def AV.cl : AV → Bool
  | .agg cs => clL cs
  | .tup cs => clL cs
  | .fn _ a b => clL a && clL b
  | .os .. => false
  | .ptr .. => false
  | .pe .. => false
  | .om .. => false
  | _ => true
def clL : List AV → Bool
  | [] => true
  | x :: l => x.cl && clL l
end

theorem clL_all {l : List AV} (h : clL l = true) : ∀ {i : Nat} {x : AV}, l[i]? = some x → x.cl = true := by
  induction l with
  | nil => intro i x hx; simp at hx
  | cons y l ih =>
    intro i x hx
    simp only [clL, Bool.and_eq_true] at h
    cases i with
    | zero => simp at hx; subst hx; exact h.1
    | succ i => simp at hx; exact ih h.2 hx

theorem Rep.of_cl {w : World} {M : Nat → Prop} {ρ : Nat → Loc} {x : AV} {u : Value} {k : Nat} (h : Rep w M ρ k x u) : x.cl = true → Rep w M ρ 0 x u := by
  induction h with
  | any => intro _; exact .any _ _
  | v => intro _; exact .v _ _
  | agg n cs us hl _ ih => intro hc; simp only [AV.cl] at hc; exact .agg _ _ _ hl fun i x u hx hu => ih i x u hx hu (clL_all hc hx)
  | tup n cs us hl _ ih => intro hc; simp only [AV.cl] at hc; exact .tup _ _ _ hl fun i x u hx hu => ih i x u hx hu (clL_all hc hx)
  | nc => intro _; exact .nc _ _
  | slE => intro _; exact .slE _ _ _ _
  | slN n sz xs b o cap c hm hb hcap hsz hcell h0 _ => intro _; exact .slN _ _ _ _ _ _ c hm hb hcap hsz hcell h0
  | vp n cs off b o c hm hb hcell h0 _ => intro _; exact .vp _ _ _ _ _ c hm hb hcell h0
  | fn n f first caps fs us h1 h2 _ _ ih1 ih2 =>
    intro hc; simp only [AV.cl, Bool.and_eq_true] at hc
    exact .fn _ _ _ _ _ _ h1 h2 (fun i x u hx hu => ih1 i x u hx hu (clL_all hc.1 hx)) (fun i x u hx hu => ih2 i x u hx hu (clL_all hc.2 hx))
  | mp n ks vs b es clock hm hb hh hks hvs h0 _ => intro _; exact .mp _ _ _ _ es clock hm hb hh hks hvs h0
  | os => intro hc; simp [AV.cl] at hc
  | ptr => intro hc; simp [AV.cl] at hc
  | pe => intro hc; simp [AV.cl] at hc
  | om => intro hc; simp [AV.cl] at hc

/-- One value for each. -/
def RepL (w : World) (M : Nat → Prop) (ρ : Nat → Loc) (n : Nat) (xs : List AV) (us : Array Value) : Prop :=
  xs.length = us.size ∧ ∀ (i : Nat) (x : AV) (u : Value), xs[i]? = some x → us[i]? = some u → Rep w M ρ n x u

/-- No cell of the first n is frozen; only what lies behind them may be. -/
def noFr (fr : Nat × Nat) (n : Nat) : Prop := fr.1 = fr.2 ∨ n ≤ fr.1

/-- Object o lies at l. -/
def ObjOk (w : World) (M : Nat → Prop) (ρ : Nat → Loc) (n : Nat) (l : Loc) : HO → Prop
  | .dead => True
  | .box cs => l.ver = 0 ∧ ∃ b c e fr, l.blk = some (b, 0) ∧ w.heap[b]? = some (.cells c e fr) ∧ cs.length = c.size ∧ noFr fr c.size ∧
      ∀ (j : Nat) (y : AV) (u : Value), cs[j]? = some y → c[j]? = some u → Rep w M ρ n y u ∧ one u = true
  | .arr ver sz xs => l.ver = ver ∧ l.sz = sz ∧ 0 < sz ∧ (∀ x ∈ xs, x.length = sz) ∧ xs.length * sz ≤ l.ext ∧
      match l.blk with
      | none => xs = []
      | some (b, o) => ∃ c e fr, w.heap[b]? = some (.cells c e fr) ∧ o + l.ext ≤ c.size ∧ noFr fr c.size ∧
          ∀ (i j : Nat) (x : List AV) (y : AV) (u : Value), xs[i]? = some x → x[j]? = some y → c[o + i * sz + j]? = some u → Rep w M ρ 0 y u ∧ one u = true
  | .map ver ks vs => l.ver = ver ∧ ∃ b es clock, l.blk = some (b, 0) ∧ w.heap[b]? = some (.map es clock) ∧ ks = es.toList.map (·.key) ∧ vs.length = es.size ∧
      ∀ (i : Nat) (x : AV) (e : MapEntry), vs[i]? = some x → es[i]? = some e → Rep w M ρ 0 x e.val
  | .iter s pos => l.ver = 0 ∧ ∃ b, l.blk = some (b, 0) ∧ w.heap[b]? = some (.stringIter s pos)

/-- The package variables that hold an int and that a contract of the library reads: their blocks. -/
def glbs : List Nat := [0]

/-- Each holds some int, and no run owns it. -/
def GOk (w : World) (ρ : Nat → Loc) (n : Nat) : Prop := ∀ g ∈ glbs, ¬ Own ρ n g ∧ ∃ m, w.cell? ⟨g, 0, none⟩ = some (.int .i64 m)

theorem GOk.fut {w w' : World} {ρ ρ' : Nat → Loc} {n n' : Nat} (h : GOk w ρ n) (hf : Fut w ρ n w' ρ' n') : GOk w' ρ' n' := by
  intro g hg
  obtain ⟨h1, m, h2⟩ := h g hg
  have hlt : g < w.heap.size := by
    apply Decidable.byContradiction
    intro hn
    have hnone : w.heap[g]? = none := by simp; omega
    simp [World.cell?, hnone] at h2
  exact ⟨fun ho => (hf.own g ho).elim h1 fun h3 => by omega, m, by rw [World.cell?_of_block (hf.keep g hlt h1)]; exact h2⟩

structure HRel (w : World) (X : Nat → Prop) (ρ : Nat → Loc) (H : AHeap) : Prop where
  objs : ∀ (r : Nat) (o : HO), H[r]? = some o → ObjOk w (Mut X ρ H.length) ρ H.length (ρ r) o
  inj : ∀ (r r' b o b' o' : Nat), r < H.length → r' < H.length → r ≠ r' → (ρ r).blk = some (b, o) → (ρ r').blk = some (b', o') → b ≠ b'
  lt : ∀ (r b o : Nat), r < H.length → (ρ r).blk = some (b, o) → b < w.heap.size ∧ ¬ X b
  xlt : ∀ (b : Nat), X b → b < w.heap.size
  gl : GOk w ρ H.length

/-- It has a body. -/
def Enter (P : Program) (k : FuncId) : Prop := ∃ fn, P.funcs[k]? = some fn ∧ fn.body.isNone = false ∧ (fn.name == "runtime.NumGoroutine") = false

/-- A call with these values, from these objects: it returns, and what it hands back and leaves is as R says. -/
def ACall (P : Program) (k : FuncId) (args : List AV) (H : AHeap) (R : AV → AHeap → Prop) : Prop :=
  Enter P k ∧ ∀ X ρ w vs, HRel w X ρ H → RepL w (Mut X ρ H.length) ρ H.length args vs →
    Calls P k vs w fun e w' => ∃ v x H' ρ', e = .returned v ∧ R x H' ∧ HRel w' X ρ' H' ∧ Rep w' (Mut X ρ' H'.length) ρ' H'.length x v ∧ Fut w ρ H.length w' ρ' H'.length

/-- It computes x out of args, and touches nothing. -/
def APure (P : Program) (k : FuncId) (args : List AV) (x : AV) : Prop := ACall P k args [] fun y H' => y = x ∧ H' = []

theorem ACall.mono {P : Program} {k : FuncId} {args : List AV} {H : AHeap} {R R' : AV → AHeap → Prop} (h : ACall P k args H R) (hR : ∀ x H', R x H' → R' x H') : ACall P k args H R' :=
  ⟨h.1, fun X ρ w vs a b => (h.2 X ρ w vs a b).mono fun _ _ ⟨v, x, H', ρ', e, r, c⟩ => ⟨v, x, H', ρ', e, hR _ _ r, c⟩⟩

end Go.Ax
