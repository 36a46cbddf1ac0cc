/- Parts,merged by a program (wip/tools/merge2.py): Ax1 Ax2 Ax4 Ax5 Ax6 Ax7 Ax8 Ax9 Ax10 Ax11 Ax12 Ax13 Ax14. -/
import Derived.WalkKit
import Derived.RangeFuncSeq
import Derived.Lib.ItoaNum
import Derived.WideKeyRuns
namespace Go.Ax
open Go Go.RowKit
set_option linter.defProp false
set_option linter.unusedSimpArgs false
def zYT := @Option.some.injEq
def zYU := @List.getElem?_eq_some_iff
def zYV := @List.length_map
def zYW := @Bool.and_self
def zYX := @Bool.and_eq_true
def zYY := @List.getElem?_append_right
def zYZ := @List.length_cons
def zY0 := @Nat.le_of_ble_eq_true
def zY1 := @And.intro
def zY2 := @List.getElem?_append_left
def zY3 := @List.length_append
def zY4 := @List.length_nil
def zY5 := @decide_eq_true_eq
def zY6 := @List.getElem?_cons_zero
def zY7 := @List.getElem?_cons_succ
def zY8 := @Array.getElem?_eq_some_iff
def zY9 := @List.cons_append
def zZa := @Nat.le_refl
def zZb := @List.all_eq_true
def zZc := @List.length_set
def zZd := @List.getD_eq_getElem?_getD
def zZe := @List.getElem?_eq_getElem
def zZf := @List.set_cons_succ
def zZg := @List.set_cons_zero
def zZh := @List.length_eq_zero_iff
def zZi := @Prod.mk.injEq
def zZj := @List.getElem?_set_ne
def zZk := @List.nil_append
def zZl := @Nat.lt_of_lt_of_le
def zZm := @Nat.zero_le
def zZn := @Bool.false_eq_true
def zZo := @Classical.byContradiction
def zZp := @List.mem_of_getElem?
def zZq := @Array.getD_eq_getD_getElem?
def zZr := @List.mem_cons
def zZs := @List.getElem?_set_self
def zZt := @Option.map_some
def zZu := @List.take_of_length_le
def zZv := @List.mem_append
def zZw := @Nat.zero_add
def zZx := @List.append_assoc
def zZy := @List.getElem?_map
def zZz := @decide_eq_true
def zZA := @List.append_nil
def zZB := @Nat.mul_le_mul_right
def zZC := @List.getElem?_append
def zZD := @Array.getElem?_append
def zZE := @List.mem_range
def zZF := @List.eq_nil_of_length_eq_zero
def zZG := @List.map_cons
def zZH := @Nat.beq_eq
def zZI := @cond_true
def zZJ := @Nat.add_zero
def zZK := @List.mem_map
def zZL := @Bool.not_eq_true'
def zZM := @Bool.or_eq_true
def zZN := @List.mem_cons_of_mem
def zZO := @Nat.add_mul
def zZP := @List.getElem?_take
def zZQ := @List.getElem?_drop
def zZR := @Option.getD_some
def zZS := @List.eq_nil_iff_forall_not_mem
def zZT := @Array.getElem?_toList
def zZU := @Nat.eq_of_beq_eq_true
def zZV := @List.drop_eq_getElem_cons
def zZW := @Array.getElem?_setIfInBounds_ne
def zZX := @List.mem_of_mem_take
def zZY := @List.mem_iff_getElem
def zZZ := @List.getElem?_eq_none
def zZ0 := @List.filter_cons_of_pos
def zZ1 := @List.not_mem_nil
def zZ2 := @Int.toNat_natCast
def zZ3 := @Nat.le_trans
def zZ4 := @Array.ext'
def zZ5 := @List.mem_singleton
def zZ6 := @List.findIdx?_eq_some_iff_getElem
def zZ7 := @List.take_append_drop
def zZ8 := @Nat.blt_eq
def zZ9 := @of_decide_eq_true
def zzaa := @List.mem_of_mem_drop
def zzab := @Array.getElem?_append_left
def zzac := @Bool.eq_iff_iff
def zzad := @decide_eq_false
def zzae := @Nat.ble_eq
def zzaf := @Classical.choose_spec
def zzag := @Int.add_assoc
def zzah := @List.mem_filter
def zzai := @List.length_drop
def zzaj := @List.filter_cons_of_neg
def zzak := @Array.getElem?_eq_none
def zzal := @List.drop_zero
def zzam := @List.getD_cons_succ
def zzan := @Array.getElem?_eq_getElem
def zzao := @List.set_append_right
def zzap := @List.length_take
def zzaq := @Option.bind_some
def zzar := @Nat.add_assoc
def zzas := @Nat.lt_or_ge
def zzat := @List.set_append_left
def zzau := @Int.ofNat_eq_natCast
def zzav := @List.isEmpty_iff
def zzaw := @List.range'_succ
def zzax := @beq_iff_eq
def zzay := @List.take_zero
def zzaz := @List.getElem?_toArray
def zzaA := @List.map_append
def zzaB := @List.ext_getElem?
def zzaC := @List.map_nil
def zzaD := @List.map_congr_left
def zzaE := @List.getD_cons_zero
def zzaF := @List.take_length
def zzaG := @Array.foldl_toList
def zzaH := @Array.append_assoc
def zzaI := @List.drop_eq_nil_of_le
def zzaJ := @Option.map_eq_some_iff
def zzaK := @Nat.sub_zero
def zzaL := @List.foldl_cons
def zzaM := @Array.getElem?_modify
def zzaN := @Bool.eq_false_iff
def zzaO := @List.getElem_mem
def zzaP := @List.extract_eq_take_drop
def zzaQ := @List.findIdx?_eq_none_iff
def zzaR := @List.drop_succ_cons
def zzaS := @List.take_succ_cons
def zzaT := @List.takeWhile_cons
def zzaU := @List.nodup_cons
def zzaV := @Nat.add_comm
def zzaW := @Nat.le_of_not_lt
def zzaX := @Array.eq_empty_of_size_eq_zero
def zzaY := @List.all_cons
def zzaZ := @List.headD_cons
def zzba := @Option.some.inj
def zzbb := @Array.getElem?_append_right
def zzbc := @Nat.sub_self
def zzbd := @Nat.pow_succ
def zzbe := @Nat.add_mul_mod_self_right
def zzbf := @Bool.false_ne_true
def zzbg := @List.mem_or_eq_of_mem_set
def zzbh := @Array.mapM_eq_mapM_toList
def zzbi := @List.getElem?_set
def zzbj := @Nat.lt_trichotomy
def zzbk := @List.size_toArray
def zzbl := @Bool.and_true
def zzbm := @List.take_nil
def zzbn := @List.append_cancel_right
def zzbo := @Nat.lt_succ_self
def zzbp := @Option.bind_none
def zzbq := @List.mem_flatMap
def zzbr := @List.drop_length
def zzbs := @Nat.zero_mul
def zzbt := @List.mem_range'
def zzbu := @List.take_left'
def zzbv := @List.cons.injEq
def zzbw := @Bool.not_false
def zzbx := @Nat.mul_one
def zzby := @Array.size_map
inductive AV where
 | any
 | v (x : Value)
 | agg (cs : List AV)
 | tup (cs : List AV)
 | sl (sz : Nat) (xs : List (List AV))
 | vp (cs : List AV) (off : Nat)
 | fn (f : Fn) (first caps : List AV)
 | mp (ks : List Value) (vs : List AV)
 | os (r ver off len : Nat)
 | ptr (r ver off : Nat)
 | pe (r ver i off : Nat)
 | om (r ver : Nat)
 | nc
 | bnil (t : TypeId)
 deriving Inhabited
structure Loc where
 blk : Option (Nat × Nat) := none
 ext : Nat := 0
 ver : Nat := 0
 sz : Nat := 0
inductive zRp where
 | ready
 | busy
 | done (o : Option Nat)
 deriving Inhabited
def zQ5 : Option Nat → Code
 | none => .ret
 | some id => .exit id
def zCk (lr : Go.Loop) : zRp → Go.Loop
 | .ready => lr
 | .busy => { lr with state := .busy }
 | .done o => { lr with state := .done,pending := some (zQ5 o) }
inductive HO where
 | dead
 | box (cs : List AV)
 | arr (ver sz : Nat) (xs : List (List AV))
 | map (ver : Nat) (ks : List Value) (vs : List AV)
 | iter (s : ByteArray) (pos : Nat)
 | lp (b : Nat) (lr : Go.Loop) (e : Nat → AV) (st : zRp)
 | barr (t : TypeId) (ver : Nat) (l : List UInt8)
 | mit (ks : List Value) (vs : List AV) (left : List Nat) (cur : Option Nat)
 deriving Inhabited
abbrev zA := List HO
def zXe (l : Loc) (off len : Nat) (val : Value) : Prop :=
 ∃ a cap,val = .slice a len cap ∧ len ≤ cap ∧ (cap = 0 ∨ ∃ b o,l.blk = some (b,o) ∧ a = some ⟨b,o + off * l.sz,none⟩ ∧ (off + cap) * l.sz ≤ l.ext)
def zXd (l : Loc) (off : Nat) (val : Value) : Prop := ∃ b o,l.blk = some (b,o) ∧ val = .pointer (some ⟨b,o + off,none⟩)
def OmOk (l : Loc) (val : Value) : Prop := ∃ b o,l.blk = some (b,o) ∧ val = .map (some b)
def zXg (ks : List Value) (es : Array MapEntry) (clock : Nat) : Prop := ks = es.toList.map (·.key) ∧ (∀ e ∈ es.toList,e.born < clock) ∧ (es.toList.map (·.born)).Nodup
def zV4 (es : Array MapEntry) (clock since : Nat) (seen : Array Nat) (c0 : Nat) (left : List Nat) (cur : Option Nat) : Prop :=
 (∀ e ∈ es.toList,e.born < since) ∧ (since ≤ c0 ∧ since ≤ clock) ∧ (∀ i,i ∈ left ↔ ∃ e,es[i]? = some e ∧ seen.contains e.born = false) ∧ ∀ i,cur = some i → ∃ (e : MapEntry) (seen0 : Array Nat),es[i]? = some e ∧ seen = seen0.push e.born ∧ c0 = clock
def one : Value → Bool
 | .agg _ | .tuple _ => false
 | _ => true
inductive Rep (w : World) (M : Nat → Prop) (ρ : Nat → Loc) : Nat → AV → Value → Prop
 | any (n : Nat) (u : Value) : Rep w M ρ n .any u
 | v (n : Nat) (x : Value) : Rep w M ρ n (.v x) x
 | agg (n : Nat) (cs : List AV) (us : Array Value) : cs.length = us.size → (∀ (i : Nat) (x : AV) (u : Value),cs[i]? = some x → us[i]? = some u → Rep w M ρ n x u) → Rep w M ρ n (.agg cs) (.agg us)
 | tup (n : Nat) (cs : List AV) (us : Array Value) : cs.length = us.size → (∀ (i : Nat) (x : AV) (u : Value),cs[i]? = some x → us[i]? = some u → Rep w M ρ n x u) → Rep w M ρ n (.tup cs) (.tuple us)
 | nc (n : Nat) (a : Option Addr) : Rep w M ρ n .nc (.slice a 0 0)
 | bnil (n : Nat) (t : TypeId) : Rep w M ρ n (.bnil t) (.pointer none)
 | slE (n sz : Nat) (a : Option Addr) (cap : Nat) : Rep w M ρ n (.sl sz []) (.slice a 0 cap)
 | slN (n sz : Nat) (xs : List (List AV)) (b o cap : Nat) (c : Nat → Nat → Value) : ¬ M b → b < w.heap.size → xs.length ≤ cap → (∀ x ∈ xs,x.length = sz) →
   (∀ (i j : Nat) (x : List AV) (y : AV),xs[i]? = some x → x[j]? = some y → w.cell? ⟨b,o + i * sz + j,none⟩ = some (c i j) ∧ one (c i j) = true) →
   (∀ (i j : Nat) (x : List AV) (y : AV),xs[i]? = some x → x[j]? = some y → Rep w M ρ 0 y (c i j)) → Rep w M ρ n (.sl sz xs) (.slice (some ⟨b,o,none⟩) xs.length cap)
 | vp (n : Nat) (cs : List AV) (off b o : Nat) (c : Nat → Value) : ¬ M b → b < w.heap.size → (∀ (j : Nat) (y : AV),cs[j]? = some y → w.cell? ⟨b,o + j,none⟩ = some (c j) ∧ one (c j) = true) →
   (∀ (j : Nat) (y : AV),cs[j]? = some y → Rep w M ρ 0 y (c j)) → Rep w M ρ n (.vp cs off) (.pointer (some ⟨b,o + off,none⟩))
 | fn (n : Nat) (f : Fn) (first caps : List AV) (fs us : Array Value) : first.length = fs.size → caps.length = us.size → (∀ (i : Nat) (x : AV) (u : Value),first[i]? = some x → fs[i]? = some u → Rep w M ρ n x u) →
   (∀ (i : Nat) (x : AV) (u : Value),caps[i]? = some x → us[i]? = some u → Rep w M ρ n x u) → Rep w M ρ n (.fn f first caps) (.func f fs us)
 | mp (n : Nat) (ks : List Value) (vs : List AV) (b : Nat) (es : Array MapEntry) (clock : Nat) : ¬ M b → b < w.heap.size → w.heap[b]? = some (.map es clock) → zXg ks es clock → vs.length = es.size →
   (∀ (i : Nat) (x : AV) (e : MapEntry),vs[i]? = some x → es[i]? = some e → Rep w M ρ 0 x e.val) → Rep w M ρ n (.mp ks vs) (.map (some b))
 | os (n r ver off len : Nat) (u : Value) : r < n → ver ≤ (ρ r).ver → one u = true → (ver = (ρ r).ver → zXe (ρ r) off len u) → Rep w M ρ n (.os r ver off len) u
 | ptr (n r ver off : Nat) (u : Value) : r < n → ver ≤ (ρ r).ver → one u = true → (ver = (ρ r).ver → zXd (ρ r) off u) → Rep w M ρ n (.ptr r ver off) u
 | pe (n r ver i off : Nat) (u : Value) : r < n → ver ≤ (ρ r).ver → one u = true → (ver = (ρ r).ver → zXd (ρ r) (i * (ρ r).sz + off) u) → Rep w M ρ n (.pe r ver i off) u
 | om (n r ver : Nat) (u : Value) : r < n → ver ≤ (ρ r).ver → one u = true → (ver = (ρ r).ver → OmOk (ρ r) u) → Rep w M ρ n (.om r ver) u
def Own (ρ : Nat → Loc) (n : Nat) (b : Nat) : Prop := ∃ r o,r < n ∧ (ρ r).blk = some (b,o)
def Mut (X : Nat → Prop) (ρ : Nat → Loc) (n : Nat) (b : Nat) : Prop := X b ∨ Own ρ n b
structure Fut (w : World) (ρ : Nat → Loc) (n : Nat) (w' : World) (ρ' : Nat → Loc) (n' : Nat) : Prop where
 os : w'.os = w.os
 tape : w'.tape = w.tape
 output : w'.output = w.output
 size : w.heap.size ≤ w'.heap.size
 keep : ∀ b,b < w.heap.size → ¬ Own ρ n b → w'.heap[b]? = w.heap[b]?
 own : ∀ b,Own ρ' n' b → Own ρ n b ∨ w.heap.size ≤ b
 len : n ≤ n'
 loc : ∀ r,r < n → ρ' r = ρ r ∨ (ρ r).ver < (ρ' r).ver
theorem Fut.refl (w : World) (ρ : Nat → Loc) (n : Nat) : Fut w ρ n w ρ n :=
 ⟨rfl,rfl,rfl,zZa _,fun _ _ _ => rfl,fun _ h => .inl h,zZa _,fun _ _ => .inl rfl⟩
theorem Fut.trans {w w1 w2 : World} {ρ ρ1 ρ2 : Nat → Loc} {n n1 n2 : Nat} (h : Fut w ρ n w1 ρ1 n1) (k : Fut w1 ρ1 n1 w2 ρ2 n2) : Fut w ρ n w2 ρ2 n2 where
 os := k.os.trans h.os
 tape := k.tape.trans h.tape
 output := k.output.trans h.output
 size := zZ3 h.size k.size
 keep := fun b hb ho => by
  rw [k.keep b (zZl hb h.size),h.keep b hb ho]
  intro h1
  rcases h.own b h1 with h2 | h2
  ·exact ho h2
  ·omega
 own := fun b hb => by
  rcases k.own b hb with h1 | h1
  ·exact h.own b h1
  ·exact .inr (zZ3 h.size h1)
 len := zZ3 h.len k.len
 loc := fun r hr => by
  rcases h.loc r hr with h1 | h1 <;> rcases k.loc r (zZl hr h.len) with h2 | h2
  ·exact .inl (h2.trans h1)
  ·exact .inr (by rw [h1] at h2; exact h2)
  ·exact .inr (by rw [h2]; exact h1)
  ·exact .inr (Nat.lt_trans h1 h2)
theorem Rep.fut {w w' : World} {M M' : Nat → Prop} {ρ ρ' : Nat → Loc} {n0 n1 : Nat} (hf : Fut w ρ n0 w' ρ' n1) (hM : ∀ b,b < w.heap.size → ¬ M b → ¬ M' b) (hO : ∀ b,¬ M b → ¬ Own ρ n0 b)
  {k : Nat} {x : AV} {u : Value} (h : Rep w M ρ k x u) : k ≤ n0 → Rep w' M' ρ' k x u := by
 have hc : ∀ b o,b < w.heap.size → ¬ M b → w'.cell? ⟨b,o,none⟩ = w.cell? ⟨b,o,none⟩ := fun b o hb hm => World.cell?_of_block (hf.keep b hb (hO b hm))
 have hv : ∀ r ver (P : Loc → Prop),r < n0 → ver ≤ (ρ r).ver → (ver = (ρ r).ver → P (ρ r)) → ver ≤ (ρ' r).ver ∧ (ver = (ρ' r).ver → P (ρ' r)) := by
  intro r ver P hr hle hp
  rcases hf.loc r hr with h1 | h1
  ·rw [h1]; exact ⟨hle,hp⟩
  ·exact ⟨by omega,fun h => by omega⟩
 induction h with
 | any => intro _; exact .any _ _
 | v => intro _; exact .v _ _
 | agg n cs us hl _ ih => intro hk; exact .agg _ _ _ hl fun i x u hx hu => ih i x u hx hu hk
 | tup n cs us hl _ ih => intro hk; exact .tup _ _ _ hl fun i x u hx hu => ih i x u hx hu hk
 | nc => intro _; exact .nc _ _
 | bnil => intro _; exact .bnil _ _
 | slE => intro _; exact .slE _ _ _ _
 | slN n sz xs b o cap c hm hb hcap hsz hcell _ ih =>
  intro _
  exact .slN _ _ _ _ _ _ c (hM b hb hm) (zZl hb hf.size) hcap hsz (fun i j x y hx hy => ⟨by rw [hc b _ hb hm]; exact (hcell i j x y hx hy).1,(hcell i j x y hx hy).2⟩) (fun i j x y hx hy => ih i j x y hx hy (zZm _))
 | vp n cs off b o c hm hb hcell _ ih =>
  intro _
  exact .vp _ _ _ _ _ c (hM b hb hm) (zZl hb hf.size) (fun j y hy => ⟨by rw [hc b _ hb hm]; exact (hcell j y hy).1,(hcell j y hy).2⟩) (fun j y hy => ih j y hy (zZm _))
 | fn n f first caps fs us h1 h2 _ _ ih1 ih2 => intro hk; exact .fn _ _ _ _ _ _ h1 h2 (fun i x u hx hu => ih1 i x u hx hu hk) (fun i x u hx hu => ih2 i x u hx hu hk)
 | mp n ks vs b es clock hm hb hh hks hvs _ ih =>
  intro _
  exact .mp _ _ _ _ es clock (hM b hb hm) (zZl hb hf.size) (by rw [hf.keep b hb (hO b hm)]; exact hh) hks hvs (fun i x e hx he => ih i x e hx he (zZm _))
 | os n r ver off len u hr hle h1 hp =>
  intro hk
  obtain ⟨a,b⟩ := hv r ver (fun l => zXe l off len u) (zZl hr hk) hle hp
  exact .os _ _ _ _ _ _ hr a h1 b
 | ptr n r ver off u hr hle h1 hp =>
  intro hk
  obtain ⟨a,b⟩ := hv r ver (fun l => zXd l off u) (zZl hr hk) hle hp
  exact .ptr _ _ _ _ _ hr a h1 b
 | pe n r ver i off u hr hle h1 hp =>
  intro hk
  obtain ⟨a,b⟩ := hv r ver (fun l => zXd l (i * l.sz + off) u) (zZl hr hk) hle hp
  exact .pe _ _ _ _ _ _ hr a h1 b
 | om n r ver u hr hle h1 hp =>
  intro hk
  obtain ⟨a,b⟩ := hv r ver (fun l => OmOk l u) (zZl hr hk) hle hp
  exact .om _ _ _ _ hr a h1 b
theorem Rep.mono {w : World} {M : Nat → Prop} {ρ : Nat → Loc} {k k' : Nat} {x : AV} {u : Value} (h : Rep w M ρ k x u) : k ≤ k' → Rep w M ρ k' x u := by
 revert k'
 induction h with
 | any => intro _ _; exact .any _ _
 | v => intro _ _; exact .v _ _
 | agg n cs us hl _ ih => intro k' hk; exact .agg _ _ _ hl fun i x u hx hu => ih i x u hx hu hk
 | tup n cs us hl _ ih => intro k' hk; exact .tup _ _ _ hl fun i x u hx hu => ih i x u hx hu hk
 | nc => intro _ _; exact .nc _ _
 | bnil => intro _ _; exact .bnil _ _
 | slE => intro _ _; exact .slE _ _ _ _
 | slN n sz xs b o cap c hm hb hcap hsz hcell h0 _ => intro _ _; exact .slN _ _ _ _ _ _ c hm hb hcap hsz hcell h0
 | vp n cs off b o c hm hb hcell h0 _ => intro _ _; exact .vp _ _ _ _ _ c hm hb hcell h0
 | fn n f first caps fs us h1 h2 _ _ ih1 ih2 => intro k' hk; exact .fn _ _ _ _ _ _ h1 h2 (fun i x u hx hu => ih1 i x u hx hu hk) (fun i x u hx hu => ih2 i x u hx hu hk)
 | mp n ks vs b es clock hm hb hh hks hvs h0 _ => intro _ _; exact .mp _ _ _ _ es clock hm hb hh hks hvs h0
 | os n r ver off len u hr hle h1 hp => intro k' hk; exact .os _ _ _ _ _ _ (zZl hr hk) hle h1 hp
 | ptr n r ver off u hr hle h1 hp => intro k' hk; exact .ptr _ _ _ _ _ (zZl hr hk) hle h1 hp
 | pe n r ver i off u hr hle h1 hp => intro k' hk; exact .pe _ _ _ _ _ _ (zZl hr hk) hle h1 hp
 | om n r ver u hr hle h1 hp => intro k' hk; exact .om _ _ _ _ (zZl hr hk) hle h1 hp
theorem Rep.closed {w : World} {M : Nat → Prop} {ρ : Nat → Loc} {x : AV} {u : Value} {k : Nat} (h : Rep w M ρ k x u) : k = 0 → ∀ (ρ' : Nat → Loc) (k' : Nat),Rep w M ρ' k' x u := by
 induction h with
 | any => intro _ _ _; exact .any _ _
 | v => intro _ _ _; exact .v _ _
 | agg n cs us hl _ ih => intro hk ρ' k'; exact .agg _ _ _ hl fun i x u hx hu => ih i x u hx hu hk ρ' k'
 | tup n cs us hl _ ih => intro hk ρ' k'; exact .tup _ _ _ hl fun i x u hx hu => ih i x u hx hu hk ρ' k'
 | nc => intro _ _ _; exact .nc _ _
 | bnil => intro _ _ _; exact .bnil _ _
 | slE => intro _ _ _; exact .slE _ _ _ _
 | slN n sz xs b o cap c hm hb hcap hsz hcell _ ih => intro _ ρ' _; exact .slN _ _ _ _ _ _ c hm hb hcap hsz hcell fun i j x y hx hy => ih i j x y hx hy rfl ρ' 0
 | vp n cs off b o c hm hb hcell _ ih => intro _ ρ' _; exact .vp _ _ _ _ _ c hm hb hcell fun j y hy => ih j y hy rfl ρ' 0
 | fn n f first caps fs us h1 h2 _ _ ih1 ih2 => intro hk ρ' k'; exact .fn _ _ _ _ _ _ h1 h2 (fun i x u hx hu => ih1 i x u hx hu hk ρ' k') (fun i x u hx hu => ih2 i x u hx hu hk ρ' k')
 | mp n ks vs b es clock hm hb hh hks hvs _ ih => intro _ ρ' _; exact .mp _ _ _ _ es clock hm hb hh hks hvs fun i x e hx he => ih i x e hx he rfl ρ' 0
 | os n r ver off len u hr hle h1 hp => intro hk _ _; omega
 | ptr n r ver off u hr hle h1 hp => intro hk _ _; omega
 | pe n r ver i off u hr hle h1 hp => intro hk _ _; omega
 | om n r ver u hr hle h1 hp => intro hk _ _; omega
mutual
def AV.cl : AV → Bool
 | .agg cs => clL cs
 | .tup cs => clL cs
 | .fn _ a b => clL a && clL b
 | .os .. => false
 | .ptr .. => false
 | .pe .. => false
 | .om .. => false
 | _ => true
def clL : List AV → Bool
 | [] => true
 | x :: l => x.cl && clL l
end
theorem zDn {l : List AV} (h : clL l = true) : ∀ {i : Nat} {x : AV},l[i]? = some x → x.cl = true := by
 induction l with
 | nil => intro i x hx; simp at hx
 | cons y l ih =>
  intro i x hx
  simp only [clL,zYX] at h
  cases i with
  | zero => simp at hx; subst hx; exact h.1
  | succ i => simp at hx; exact ih h.2 hx
theorem Rep.of_cl {w : World} {M : Nat → Prop} {ρ : Nat → Loc} {x : AV} {u : Value} {k : Nat} (h : Rep w M ρ k x u) : x.cl = true → Rep w M ρ 0 x u := by
 induction h with
 | any => intro _; exact .any _ _
 | v => intro _; exact .v _ _
 | agg n cs us hl _ ih => intro hc; simp only [AV.cl] at hc; exact .agg _ _ _ hl fun i x u hx hu => ih i x u hx hu (zDn hc hx)
 | tup n cs us hl _ ih => intro hc; simp only [AV.cl] at hc; exact .tup _ _ _ hl fun i x u hx hu => ih i x u hx hu (zDn hc hx)
 | nc => intro _; exact .nc _ _
 | bnil => intro _; exact .bnil _ _
 | slE => intro _; exact .slE _ _ _ _
 | slN n sz xs b o cap c hm hb hcap hsz hcell h0 _ => intro _; exact .slN _ _ _ _ _ _ c hm hb hcap hsz hcell h0
 | vp n cs off b o c hm hb hcell h0 _ => intro _; exact .vp _ _ _ _ _ c hm hb hcell h0
 | fn n f first caps fs us h1 h2 _ _ ih1 ih2 =>
  intro hc; simp only [AV.cl,zYX] at hc
  exact .fn _ _ _ _ _ _ h1 h2 (fun i x u hx hu => ih1 i x u hx hu (zDn hc.1 hx)) (fun i x u hx hu => ih2 i x u hx hu (zDn hc.2 hx))
 | mp n ks vs b es clock hm hb hh hks hvs h0 _ => intro _; exact .mp _ _ _ _ es clock hm hb hh hks hvs h0
 | os => intro hc; simp [AV.cl] at hc
 | ptr => intro hc; simp [AV.cl] at hc
 | pe => intro hc; simp [AV.cl] at hc
 | om => intro hc; simp [AV.cl] at hc
def RepL (w : World) (M : Nat → Prop) (ρ : Nat → Loc) (n : Nat) (xs : List AV) (us : Array Value) : Prop :=
 xs.length = us.size ∧ ∀ (i : Nat) (x : AV) (u : Value),xs[i]? = some x → us[i]? = some u → Rep w M ρ n x u
def zMg (fr : Nat × Nat) (n : Nat) : Prop := fr.1 = fr.2 ∨ n ≤ fr.1
def zYP (cs : List AV) (e : TypeId) (fr : Nat × Nat) (n : Nat) : Prop := zMg fr n ∧ ∀ t,cs[0]? = some (.bnil t) → e = t ∧ fr = (0,0)
def ObjOk (w : World) (M : Nat → Prop) (ρ : Nat → Loc) (n : Nat) (l : Loc) : HO → Prop
 | .dead => True
 | .box cs => l.ver = 0 ∧ ∃ b c e fr,l.blk = some (b,0) ∧ w.heap[b]? = some (.cells c e fr) ∧ cs.length = c.size ∧ zYP cs e fr c.size ∧
   ∀ (j : Nat) (y : AV) (u : Value),cs[j]? = some y → c[j]? = some u → Rep w M ρ n y u ∧ one u = true
 | .arr ver sz xs => l.ver = ver ∧ l.sz = sz ∧ 0 < sz ∧ (∀ x ∈ xs,x.length = sz) ∧ xs.length * sz ≤ l.ext ∧
   match l.blk with
   | none => xs = []
   | some (b,o) => ∃ c e fr,w.heap[b]? = some (.cells c e fr) ∧ o + l.ext ≤ c.size ∧ zMg fr c.size ∧
     ∀ (i j : Nat) (x : List AV) (y : AV) (u : Value),xs[i]? = some x → x[j]? = some y → c[o + i * sz + j]? = some u → Rep w M ρ n y u ∧ one u = true
 | .map ver ks vs => l.ver = ver ∧ ∃ b es clock,l.blk = some (b,0) ∧ w.heap[b]? = some (.map es clock) ∧ zXg ks es clock ∧ vs.length = es.size ∧
   ∀ (i : Nat) (x : AV) (e : MapEntry),vs[i]? = some x → es[i]? = some e → Rep w M ρ 0 x e.val
 | .iter s pos => l.ver = 0 ∧ ∃ b,l.blk = some (b,0) ∧ w.heap[b]? = some (.stringIter s pos)
 | .lp b lr e st => l.ver = 0 ∧ l.blk = some (b,0) ∧ w.heap[b]? = some (.loop (zCk lr st)) ∧ ∀ (t : Nat) (u : Value),lr.tmps[t]? = some u → Rep w M ρ n (e t) u
 | .mit ks vs left cur => l.ver = 0 ∧ ∃ b m es clock since seen c0,l.blk = some (b,0) ∧ w.heap[b]? = some (.mapIter (some m) since seen c0) ∧ w.heap[m]? = some (.map es clock) ∧ Rep w M ρ 0 (.mp ks vs) (.map (some m)) ∧ zV4 es clock since seen c0 left cur
 | .barr t ver bl => l.ver = ver ∧ l.sz = 1 ∧ bl.length ≤ l.ext ∧
   match l.blk with
   | none => bl = []
   | some (b,o) => ∃ c fr,w.heap[b]? = some (.cells c t fr) ∧ o + l.ext ≤ c.size ∧ zMg fr c.size ∧ ∀ (i : Nat) (x : UInt8),bl[i]? = some x → c[o + i]? = some (.int .u8 x.toNat)
def glbs : List Nat := [2]
def zLQ : List Nat := [3]
def GVal (w : World) (g : Nat) : Prop := (g ∈ glbs → ∃ m,w.cell? ⟨g,0,none⟩ = some (.int .i64 m)) ∧ (g ∈ zLQ → ∃ t fr,w.heap[g]? = some (.cells ((Lib.pow10Tab.map fun z => Value.int .u64 z).toArray) t fr))
def GOk (w : World) (ρ : Nat → Loc) (n : Nat) : Prop := ∀ g,(g ∈ glbs ∨ g ∈ zLQ) → ¬ Own ρ n g ∧ GVal w g
theorem GVal.lt {w : World} {g : Nat} (hg : g ∈ glbs ∨ g ∈ zLQ) (h : GVal w g) : g < w.heap.size := by
 apply Decidable.byContradiction
 intro hn
 have hnone : w.heap[g]? = none := by simp; omega
 rcases hg with hg | hg
 ·obtain ⟨m,h2⟩ := h.1 hg
  simp [World.cell?,hnone] at h2
 ·obtain ⟨t,fr,h2⟩ := h.2 hg
  simp [hnone] at h2
theorem GVal.keep {w w' : World} {g : Nat} (h : GVal w g) (he : w'.heap[g]? = w.heap[g]?) : GVal w' g :=
 ⟨fun hg => (h.1 hg).imp fun m hm => by rw [World.cell?_of_block he]; exact hm,fun hg => by rw [he]; exact h.2 hg⟩
theorem GOk.fut {w w' : World} {ρ ρ' : Nat → Loc} {n n' : Nat} (h : GOk w ρ n) (hf : Fut w ρ n w' ρ' n') : GOk w' ρ' n' := by
 intro g hg
 obtain ⟨h1,h2⟩ := h g hg
 have hlt := h2.lt hg
 exact ⟨fun ho => (hf.own g ho).elim h1 fun h3 => by omega,h2.keep (hf.keep g hlt h1)⟩
structure HRel (w : World) (X : Nat → Prop) (ρ : Nat → Loc) (H : zA) : Prop where
 objs : ∀ (r : Nat) (o : HO),H[r]? = some o → ObjOk w (Mut X ρ H.length) ρ H.length (ρ r) o
 inj : ∀ (r r' b o b' o' : Nat),r < H.length → r' < H.length → r ≠ r' → (ρ r).blk = some (b,o) → (ρ r').blk = some (b',o') → b ≠ b'
 lt : ∀ (r b o : Nat),r < H.length → (ρ r).blk = some (b,o) → b < w.heap.size ∧ ¬ X b
 xlt : ∀ (b : Nat),X b → b < w.heap.size
 gl : GOk w ρ H.length
def zFl (P : Program) (k : FuncId) : Prop := ∃ fn, P.funcs[k]? = some fn ∧ fn.body.isNone = false ∧ (fn.name == "runtime.NumGoroutine") = false
def ACall (P : Program) (k : FuncId) (args : List AV) (H : zA) (R : AV → zA → Prop) : Prop :=
 zFl P k ∧ ∀ X ρ w vs,HRel w X ρ H → RepL w (Mut X ρ H.length) ρ H.length args vs →
  Calls P k vs w fun e w' => ∃ v x H' ρ',e = .returned v ∧ R x H' ∧ HRel w' X ρ' H' ∧ Rep w' (Mut X ρ' H'.length) ρ' H'.length x v ∧ Fut w ρ H.length w' ρ' H'.length
def ACallX (P : Program) (k : FuncId) (args : List AV) (H : zA) (R : AV → zA → Prop) (Z : Value → zA → Prop) : Prop :=
 zFl P k ∧ ∀ X ρ w vs,HRel w X ρ H → RepL w (Mut X ρ H.length) ρ H.length args vs →
  Calls P k vs w fun e w' => (∃ v x H' ρ',e = .returned v ∧ R x H' ∧ HRel w' X ρ' H' ∧ Rep w' (Mut X ρ' H'.length) ρ' H'.length x v ∧ Fut w ρ H.length w' ρ' H'.length) ∨
   ∃ z H' ρ',e = .panicked [{ v := z,recovered := false }] ∧ Z z H' ∧ HRel w' X ρ' H' ∧ Fut w ρ H.length w' ρ' H'.length
def APure (P : Program) (k : FuncId) (args : List AV) (x : AV) : Prop := ACall P k args [] fun y H' => y = x ∧ H' = []
theorem ACall.mono {P : Program} {k : FuncId} {args : List AV} {H : zA} {R R' : AV → zA → Prop} (h : ACall P k args H R) (hR : ∀ x H',R x H' → R' x H') : ACall P k args H R' :=
 ⟨h.1,fun X ρ w vs a b => (h.2 X ρ w vs a b).mono fun _ _ ⟨v,x,H',ρ',e,r,c⟩ => ⟨v,x,H',ρ',e,hR _ _ r,c⟩⟩
theorem ACallX.mono {P : Program} {k : FuncId} {args : List AV} {H : zA} {R R' : AV → zA → Prop} {Z Z' : Value → zA → Prop} (h : ACallX P k args H R Z) (hR : ∀ x H',R x H' → R' x H') (hZ : ∀ z H',Z z H' → Z' z H') : ACallX P k args H R' Z' :=
 ⟨h.1,fun X ρ w vs a b => (h.2 X ρ w vs a b).mono fun _ _ h => h.elim (fun ⟨v,x,H',ρ',e,r,c⟩ => .inl ⟨v,x,H',ρ',e,hR _ _ r,c⟩) fun ⟨z,H',ρ',e,r,c⟩ => .inr ⟨z,H',ρ',e,hZ _ _ r,c⟩⟩
theorem ACall.x {P : Program} {k : FuncId} {args : List AV} {H : zA} {R : AV → zA → Prop} (h : ACall P k args H R) (Z : Value → zA → Prop) : ACallX P k args H R Z :=
 ⟨h.1,fun X ρ w vs a b => (h.2 X ρ w vs a b).mono fun _ _ h => .inl h⟩
theorem ACallX.calm {P : Program} {k : FuncId} {args : List AV} {H : zA} {R : AV → zA → Prop} (h : ACallX P k args H R fun _ _ => False) : ACall P k args H R :=
 ⟨h.1,fun X ρ w vs a b => (h.2 X ρ w vs a b).mono fun _ _ h => h.elim id fun ⟨_,_,_,_,f,_⟩ => f.elim⟩
def AYield (P : Program) (l : Nat) (args : List AV) (H : zA) (R : AV → zA → Prop) : Prop :=
 ∀ X ρ w vs,HRel w X ρ H → RepL w (Mut X ρ H.length) ρ H.length args vs →
  YieldAt Fence.wide 0 P l vs w fun e w' => ∃ v x H' ρ',e = .returned v ∧ R x H' ∧ HRel w' X ρ' H' ∧ Rep w' (Mut X ρ' H'.length) ρ' H'.length x v ∧ Fut w ρ H.length w' ρ' H'.length
theorem AYield.mono {P : Program} {l : Nat} {args : List AV} {H : zA} {R R' : AV → zA → Prop} (h : AYield P l args H R) (hR : ∀ x H',R x H' → R' x H') : AYield P l args H R' :=
 fun X ρ w vs a b => let ⟨fn,tmps,asg,bdy,h1,h2⟩ := h X ρ w vs a b
  ⟨fn,tmps,asg,bdy,h1,h2.mono fun _ _ ⟨v,x,H',ρ',e,r,c⟩ => ⟨v,x,H',ρ',e,hR _ _ r,c⟩⟩
abbrev Env := Nat → AV
def up (e : Env) (d : Nat) (x : AV) : Env := fun t => if t = d then x else e t
def e0 : Env := fun _ => .any
def ups (e : Env) : Option Nat → AV → Env
 | some d,x => up e d x
 | none,_ => e
def zC6 : List AV → Nat → Env
 | [],_ => e0
 | x :: l,i => up (zC6 l (i + 1)) i x
abbrev int (n : Int) : AV := .v (.int .i64 n)
abbrev u8 (n : Int) : AV := .v (.int .u8 n)
abbrev bool (b : Bool) : AV := .v (.bool b)
def mkS (l : List UInt8) : ByteArray := ⟨l.toArray⟩
def bs (s : ByteArray) : List UInt8 := s.data.toList
abbrev str (l : List UInt8) : AV := .v (.string (mkS l))
abbrev zAk : AV := .v (.tuple #[])
abbrev zAI : AV := .v (.slice none 0 0)
inductive LX where
 | t (n : Nat)
 | c (x : AV)
 deriving Inhabited
def ev (e : Env) : LX → AV
 | .t n => e n
 | .c x => x
inductive Cv where
 | toInt (k : IntKind)
 | same
 | strBytes
 | bytesStr
 | runeStr
 | sameB
 deriving Inhabited
inductive KD where
 | int
 | str
 | bool
 | fn
 | agg (ks : List KD)
 deriving Inhabited
inductive LK where
 | str
 | slc
 | map
 deriving Inhabited
inductive LOp where
 | mv (x : LX)
 | pick (c a b : LX)
 | alloc (zs : List AV)
 | allocb (t : TypeId) (zs : List AV)
 | box (imm : Bool) (x : LX)
 | build (zs : List AV) (ps : List (Nat × Nat × LX))
 | bsl (imm : Bool) (sz len : Nat) (zs : List AV) (ps : List (Nat × LX))
 | mkmap
 | ins (kd : KD) (m k x : LX)
 | load (ag : Bool) (n : Nat) (p : LX)
 | loadb (ag : Bool) (n : Nat) (p : LX)
 | store (n : Nat) (p x : LX)
 | nilchk (x : LX)
 | bin (kd : KD) (op : BinOp) (x y : LX)
 | not (x : LX)
 | neg (x : LX)
 | conv (c : Cv) (x : LX)
 | mkfn (f : Fn) (first caps : List LX)
 | msl (sz bytes : Nat) (zs : List AV) (len cap : LX)
 | slice (lk : LK) (n : Nat) (x : LX) (lo hi : Option LX)
 | slicev (lk : LK) (n : Nat) (x : LX) (lo hi : Option LX)
 | faddr (off : Nat) (p : LX)
 | faddrb (off : Nat) (p : LX)
 | fld (ag : Bool) (off n : Nat) (x : LX)
 | iaddr (sz : Nat) (x i : LX)
 | iaddrv (sz : Nat) (x i : LX)
 | idx (x i : LX)
 | look (kd : KD) (zero : AV) (ok : Bool) (m k : LX)
 | ext (x : LX) (i : Nat)
 | len (lk : LK) (x : LX)
 | append (sz bytes : Nat) (s x : LX)
 | appendb (t : TypeId) (s x : LX)
 | copy (sz : Nat) (s x : LX)
 | min2 (x y : LX)
 | max2 (x y : LX)
 | max3 (x y z : LX)
 | call (f : LX) (args : List LX)
 | callh (f : LX) (args : List LX)
 | frz (x : LX)
 | own (sz : Nat) (x : LX)
 | frzf (sz off : Nat) (x : LX)
 | isnil (neg : Bool) (x : LX)
 | nili (neg : Bool) (x : LX)
 | asrt (t : TypeId) (z : AV) (x : LX)
 | rangem (x : LX)
 | nextm (x : LX)
 | entrym (x : LX)
 | mkif (t : TypeId) (x : LX)
 | panicv (x : LX)
 | stchk (n : Nat) (p x : LX)
 | bad
 deriving Inhabited
structure LO where
 d : Option Nat
 g : Option (Nat × Bool)
 op : LOp
 deriving Inhabited
inductive LCode where
 | skip
 | ops (l : List LO)
 | draw (hd tl : List LO)
 | drawM (hd pre mid post : List LO)
 | drawA (hd : List LO) (tl : List (LO × List Nat)) (gs : List LO)
 | seq (a b : LCode)
 | cond (x : LX) (a b : LCode)
 | block (id : Nat) (c : LCode)
 | loop (c : LCode)
 | range (g : LX) (ps : List Nat) (a b : LCode)
 | exit (id : Nat)
 | ret
 | callp (d : Option Nat) (f : LX) (args : List LX)
 | pan (d : Nat) (t : TypeId) (x : LX)
 | ti (o : LO)
 | drawX (hd : List LO) (tl : List (LO × Bool × List Nat)) (gs : List LO)
 deriving Inhabited
structure Res where
 ok : Prop
 x : AV
 H : zA
abbrev Res.no (H : zA) : Res := ⟨False,.any,H⟩
def cellsOf : AV → List AV
 | .agg cs => cs
 | x => [x]
def c1 : AV → Bool
 | .v x => one x
 | .any => false
 | .agg _ => false
 | .tup _ => false
 | .bnil _ => false
 | _ => true
def zFd : AV → Bool
 | .v (.pointer none) => true
 | _ => false
def cellsV (ag : Bool) (n : Nat) (cs : List AV) : AV := if ag then .agg (cs.take n) else cs.headD .any
def splice (cs : List AV) (off : Nat) (new : List AV) : List AV := cs.take off ++ new ++ cs.drop (off + new.length)
def c1s (cs : List AV) : Bool := cs.all c1
def rBox (imm : Bool) (x : AV) (H : zA) : Res :=
 if imm then ⟨c1s (cellsOf x) = true ∧ clL (cellsOf x) = true,.vp (cellsOf x) 0,H⟩
 else ⟨c1s (cellsOf x) = true,.ptr H.length 0 0,H ++ [.box (cellsOf x)]⟩
def fillA : List AV → List (Nat × Nat × AV) → Prop × List AV
 | cs,[] => (True,cs)
 | cs,(off,n,x) :: ps => let r := fillA (splice cs off (cellsOf x)) ps; (((cellsOf x).length = n ∧ off + n ≤ cs.length ∧ c1s (cellsOf x) = true) ∧ r.1,r.2)
def rBuild (zs : List AV) (ps : List (Nat × Nat × AV)) (H : zA) : Res := ⟨(fillA zs ps).1,.agg (fillA zs ps).2,H⟩
def fillS (sz : Nat) : List (List AV) → List (Nat × AV) → Prop × List (List AV)
 | xs,[] => (True,xs)
 | xs,(i,x) :: ps => let r := fillS sz (xs.set i (cellsOf x)) ps; (((cellsOf x).length = sz ∧ i < xs.length ∧ c1s (cellsOf x) = true ∧ clL (cellsOf x) = true) ∧ r.1,r.2)
def rBsl (imm : Bool) (sz len : Nat) (zs : List AV) (ps : List (Nat × AV)) (H : zA) : Res :=
 let r := fillS sz (List.replicate len zs) ps
 if imm then ⟨r.1,if len = 0 then .nc else .sl sz r.2,H⟩
 else ⟨r.1,.os H.length 0 0 len,H ++ [.arr 0 sz r.2]⟩
def zW2 : List Value → List Value → Bool
 | [.int _ a,.int _ b],[.int _ c,.int _ d] => a == c && b == d
 | _,_ => false
def zSB : List Value → List Value → Bool
 | [.int k _,.int l _],[.int k' _,.int l' _] => k == k' && l == l'
 | _,_ => false
def zYq : List Value → Bool
 | [.int _ _,.int _ _] => true
 | _ => false
def zKK : AV → AV
 | .agg [.v a,.v b] => .v (.agg #[a,b])
 | x => x
def kEq : Value → Value → Bool
 | .agg a,.agg b => zW2 a.toList b.toList
 | .int k a,.int k' b => k == k' && a == b
 | .string a,.string b => bs a == bs b
 | .bool a,.bool b => a == b
 | _,_ => false
def kCmp : Value → Value → Bool
 | .agg a,.agg b => zSB a.toList b.toList
 | .int k _,.int k' _ => k == k'
 | .string _,.string _ => true
 | .bool _,.bool _ => true
 | _,_ => false
def kIs : KD → Value → Bool
 | .agg [.int,.int],.agg a => zYq a.toList
 | .int,.int _ _ => true
 | .str,.string _ => true
 | .bool,.bool _ => true
 | _,_ => false
def rIns (kd : KD) (m k x : AV) (H : zA) : Res :=
 match m,k with
 | .om r ver,.v k =>
  match H[r]? with
  | some (.map ver' ks vs) => ⟨ver = ver' ∧ (∀ k' ∈ ks,kCmp k k' = true ∧ kEq k k' = false) ∧ kIs kd k = true ∧ x.cl = true,.any,H.set r (.map ver (ks ++ [k]) (vs ++ [x]))⟩
  | _ => .no H
 | _,_ => .no H
def rLoadO (ag : Bool) (n i off : Nat) (H : zA) : Option HO → Res
 | some (.box cs) => ⟨off + n ≤ cs.length ∧ (ag = true ∨ n = 1),cellsV ag n (cs.drop off),H⟩
 | some (.arr _ sz xs) => ⟨i < xs.length ∧ off + n ≤ sz ∧ (ag = true ∨ n = 1),cellsV ag n ((xs.getD i []).drop off),H⟩
 | _ => .no H
def isVer (ver : Nat) : Option HO → Prop
 | some (.box _) => ver = 0
 | some (.arr v _ _) => ver = v
 | some (.map v _ _) => ver = v
 | _ => False
def isBox : Option HO → Prop
 | some (.box _) => True
 | _ => False
def isArr : Option HO → Prop
 | some (.arr _ _ _) => True
 | _ => False
def Res.also (p : Prop) (r : Res) : Res := ⟨p ∧ r.ok,r.x,r.H⟩
def rLoad (ag : Bool) (n : Nat) (p : AV) (H : zA) : Res :=
 match p with
 | .ptr r ver off => (rLoadO ag n 0 off H H[r]?).also (isBox H[r]? ∧ isVer ver H[r]?)
 | .pe r ver i off => (rLoadO ag n i off H H[r]?).also (isArr H[r]? ∧ isVer ver H[r]?)
 | .vp cs off => ⟨off + n ≤ cs.length ∧ (ag = true ∨ n = 1),cellsV ag n (cs.drop off),H⟩
 | _ => .no H
def zCn (ag : Bool) (n : Nat) (p : AV) (H : zA) : Res :=
 match p with
 | .pe _ _ _ _ => .no H
 | p => rLoad ag n p H
def rStoreO (n i off r : Nat) (x : AV) (H : zA) : Option HO → Res
 | some (.box cs) => ⟨off + n ≤ cs.length ∧ (cellsOf x).length = n ∧ c1s (cellsOf x) = true,.any,H.set r (.box (splice cs off (cellsOf x)))⟩
 | some (.arr ver sz xs) => ⟨i < xs.length ∧ off + n ≤ sz ∧ (cellsOf x).length = n ∧ c1s (cellsOf x) = true,.any,H.set r (.arr ver sz (xs.set i (splice (xs.getD i []) off (cellsOf x))))⟩
 | _ => .no H
def rStore (n : Nat) (p x : AV) (H : zA) : Res :=
 match p with
 | .ptr r ver off => (rStoreO n 0 off r x H H[r]?).also (isBox H[r]? ∧ isVer ver H[r]?)
 | .pe r ver i off => (rStoreO n i off r x H H[r]?).also (isArr H[r]? ∧ isVer ver H[r]?)
 | _ => .no H
def zFT (n : Nat) (p x : AV) (H : zA) : Res :=
 match p with
 | .ptr r ver off => ⟨(rStore n (.ptr r ver off) x H).ok,.any,H⟩
 | _ => .no H
def rNil (x : AV) (H : zA) : Res :=
 match x with
 | .vp _ _ => ⟨True,x,H⟩
 | .mp _ _ => ⟨True,x,H⟩
 | .fn (.func f) a b => ⟨True,.fn (.func f) a b,H⟩
 | .ptr _ ver _ => ⟨isVer ver (match x with | .ptr r _ _ => H[r]? | _ => none),x,H⟩
 | .pe _ ver _ _ => ⟨isVer ver (match x with | .pe r _ _ _ => H[r]? | _ => none),x,H⟩
 | _ => .no H
def cEq : List KD → List AV → List AV → Prop × Bool
 | [],[],[] => (True,true)
 | k :: ks,.v a :: l,.v b :: m => let r := cEq ks l m; ((kIs k a = true ∧ kIs k b = true ∧ kCmp a b = true) ∧ r.1,kEq a b && r.2)
 | _,_,_ => (False,false)
def iBin (op : BinOp) (k k' : IntKind) (a b : Int) (H : zA) : Res :=
 match op with
 | .add => ⟨k = k',.v (.int k (k.wrap (a + b))),H⟩
 | .sub => ⟨k = k',.v (.int k (k.wrap (a - b))),H⟩
 | .mul => ⟨k = k',.v (.int k (k.wrap (a * b))),H⟩
 | .quo => ⟨k = k' ∧ b ≠ 0,.v (.int k (k.wrap (a.tdiv b))),H⟩
 | .rem => ⟨k = k' ∧ b ≠ 0,.v (.int k (a.tmod b)),H⟩
 | .and => ⟨k = k',.v (.int k (k.wrap (BitVec.ofInt k.bits a &&& BitVec.ofInt k.bits b).toNat)),H⟩
 | .or => ⟨k = k',.v (.int k (k.wrap (BitVec.ofInt k.bits a ||| BitVec.ofInt k.bits b).toNat)),H⟩
 | .xor => ⟨k = k',.v (.int k (k.wrap (BitVec.ofInt k.bits a ^^^ BitVec.ofInt k.bits b).toNat)),H⟩
 | .eql => ⟨k = k',bool (decide (a = b)),H⟩
 | .neq => ⟨k = k',bool (!decide (a = b)),H⟩
 | .lss => ⟨k = k',bool (decide (a < b)),H⟩
 | .leq => ⟨k = k',bool (decide (a ≤ b)),H⟩
 | .gtr => ⟨k = k',bool (decide (b < a)),H⟩
 | .geq => ⟨k = k',bool (decide (b ≤ a)),H⟩
 | .shl => ⟨0 ≤ b,.v (.int k (k.wrap (a * 2 ^ (min b.toNat k.bits)))),H⟩
 | .shr => ⟨0 ≤ b,.v (.int k (a.fdiv (2 ^ (min b.toNat k.bits)))),H⟩
 | _ => .no H
def sBin (op : BinOp) (a b : List UInt8) (H : zA) : Res :=
 match op with
 | .add => ⟨((a.length + b.length : Nat) : Int) ≤ 9223372036854775807,str (a ++ b),H⟩
 | .eql => ⟨True,bool (decide (a = b)),H⟩
 | .neq => ⟨True,bool (!decide (a = b)),H⟩
 | .lss => ⟨True,bool (Op.bytesLess a b),H⟩
 | .leq => ⟨True,bool (Op.bytesLess a b || decide (a = b)),H⟩
 | .gtr => ⟨True,bool (!(Op.bytesLess a b || decide (a = b))),H⟩
 | .geq => ⟨True,bool (!Op.bytesLess a b),H⟩
 | _ => .no H
def eqRes (op : BinOp) (p : Prop) (b : Bool) (H : zA) : Res :=
 match op with
 | .eql => ⟨p,bool b,H⟩
 | .neq => ⟨p,bool (!b),H⟩
 | _ => .no H
def isKD : KD → KD → Bool
 | .int,.int => true
 | .str,.str => true
 | .bool,.bool => true
 | .fn,.fn => true
 | _,_ => false
def rBin (kd : KD) (op : BinOp) (x y : AV) (H : zA) : Res :=
 match x,y with
 | .v (.int k a),.v (.int k' b) => iBin op k k' a b H
 | .v (.string a),.v (.string b) => sBin op (bs a) (bs b) H
 | .v (.bool a),.v (.bool b) => eqRes op (isKD kd .bool = true) (decide (a = b)) H
 | .agg xs,.agg ys => match kd with
  | .agg ks => eqRes op (cEq ks xs ys).1 (cEq ks xs ys).2 H
  | _ => .no H
 | .fn _ _ _,.v .nilFunc => eqRes op (isKD kd .fn = true) false H
 | .v .nilFunc,.v .nilFunc => eqRes op (isKD kd .fn = true) true H
 | _,_ => .no H
def rNot (x : AV) (H : zA) : Res :=
 match x with
 | .v (.bool b) => ⟨True,bool (!b),H⟩
 | _ => .no H
def rNeg (x : AV) (H : zA) : Res :=
 match x with
 | .v (.int k n) => ⟨True,.v (.int k (k.wrap (0 - n))),H⟩
 | _ => .no H
def zBv (b : UInt8) : List AV := [u8 b.toNat]
def zAH : List (List AV) → Option (List UInt8)
 | [] => some []
 | [.v (.int .u8 n)] :: l => (zAH l).map (UInt8.ofNat n.toNat :: ·)
 | _ => none
def osRows (r ver off len : Nat) (H : zA) : Option (List (List AV)) :=
 match H[r]? with
 | some (.arr ver' _ xs) => if ver = ver' ∧ off + len ≤ xs.length then some ((xs.drop off).take len) else none
 | _ => none
def rowsOf (H : zA) : AV → Option (List (List AV))
 | .sl _ xs => some xs
 | .os r ver off len => osRows r ver off len H
 | .v (.slice none 0 0) => some []
 | .nc => some []
 | .v (.string s) => some ((bs s).map zBv)
 | _ => none
def szOk (H : zA) (sz : Nat) : AV → Prop
 | .sl sz' xs => sz' = sz ∨ xs = []
 | .os r _ _ _ => match H[r]? with | some (.arr _ sz' _) => sz' = sz | _ => False
 | .v (.slice none 0 0) => True
 | .nc => True
 | .v (.string _) => sz = 1
 | _ => False
def rConv (c : Cv) (x : AV) (H : zA) : Res :=
 match c,x with
 | .toInt k,.v (.int _ n) => ⟨True,.v (.int k (k.wrap n)),H⟩
 | .same,.v (.string s) => ⟨True,.v (.string s),H⟩
 | .strBytes,.v (.string s) => ⟨((bs s).length : Int) < 9223372036854775808,.sl 1 ((bs s).map zBv),H⟩
 | .bytesStr,.v (.string _) => .no H
 | .bytesStr,y => ⟨szOk H 1 y ∧ ((rowsOf H y).bind zAH).isSome = true,str (((rowsOf H y).bind zAH).getD []),H⟩
 | .sameB,.os r ver off len => ⟨0 < len ∧ isArr H[r]? ∧ isVer ver H[r]?,.os r ver off len,H⟩
 | .runeStr,.v (.int _ n) => ⟨True,.v (.string (Utf8.encode n)),H⟩
 | _,_ => .no H
def rMsl (sz bytes : Nat) (zs : List AV) (len cap : AV) (H : zA) : Res :=
 match len,cap with
 | .v (.int .i64 n),.v (.int .i64 c) => ⟨0 ≤ n ∧ n ≤ c ∧ c * bytes ≤ 140737488355328 ∧ c ≤ 140737488355328 ∧ zs.length = sz,.os H.length 0 0 n.toNat,H ++ [.arr 0 sz (List.replicate c.toNat zs)]⟩
 | _,_ => .no H
def bnd (d : Int) : Option AV → Option Int
 | none => some d
 | some (.v (.int _ n)) => some n
 | _ => none
def rSliceN (x : AV) (lo hi : Option Int) (H : zA) : Res :=
 match x,lo,hi with
 | .v (.string s),some l,some h => ⟨0 ≤ l ∧ l ≤ h ∧ h ≤ (bs s).length,str (((bs s).drop l.toNat).take (h.toNat - l.toNat)),H⟩
 | .sl sz xs,some l,some h => ⟨0 ≤ l ∧ l ≤ h ∧ h ≤ xs.length,.sl sz ((xs.drop l.toNat).take (h.toNat - l.toNat)),H⟩
 | .os r ver off len,some l,some h => ⟨0 ≤ l ∧ l ≤ h ∧ h ≤ len ∧ isArr H[r]? ∧ isVer ver H[r]?,.os r ver (off + l.toNat) (h.toNat - l.toNat),H⟩
 | .v (.slice none 0 0),some l,some h => ⟨l = 0 ∧ h = 0,zAI,H⟩
 | _,_,_ => .no H
def lenOf : AV → Option Nat
 | .v (.string s) => some (bs s).length
 | .sl _ xs => some xs.length
 | .os _ _ _ len => some len
 | .v (.slice none 0 0) => some 0
 | .nc => some 0
 | .mp ks _ => some ks.length
 | .v (.map none) => some 0
 | _ => none
def lkOk : LK → AV → Bool
 | .str,.v (.string _) => true
 | .slc,.sl _ _ => true
 | .slc,.os _ _ _ _ => true
 | .slc,.nc => true
 | .slc,.v (.slice none 0 0) => true
 | .map,.mp _ _ => true
 | .map,.v (.map none) => true
 | _,_ => false
def rSlice (lk : LK) (n : Nat) (x : AV) (lo hi : Option AV) (H : zA) : Res := (rSliceN x (bnd 0 lo) (bnd ((lenOf x).getD 0) hi) H).also (lkOk lk x = true ∧ szOk H n x)
def zDg (lk : LK) (n : Nat) (x : AV) (lo hi : Option AV) (H : zA) : Res :=
 match x with
 | .sl a b => rSlice lk n (.sl a b) lo hi H
 | .v v => rSlice lk n (.v v) lo hi H
 | _ => .no H
def verOk (H : zA) : AV → Prop
 | .os r ver _ _ => isArr H[r]? ∧ isVer ver H[r]?
 | _ => True
def rLen (lk : LK) (x : AV) (H : zA) : Res := ⟨lkOk lk x = true ∧ verOk H x,int ((lenOf x).getD 0),H⟩
def rFaddr (off : Nat) (p : AV) (H : zA) : Res :=
 match p with
 | .ptr r ver o => ⟨isBox H[r]? ∧ isVer ver H[r]?,.ptr r ver (o + off),H⟩
 | .pe r ver i o => ⟨isArr H[r]? ∧ isVer ver H[r]?,.pe r ver i (o + off),H⟩
 | .vp cs o => ⟨True,.vp cs (o + off),H⟩
 | _ => .no H
def zBB (off : Nat) (p : AV) (H : zA) : Res :=
 match p with
 | .pe _ _ _ _ => .no H
 | p => rFaddr off p H
def rFld (ag : Bool) (off n : Nat) (x : AV) (H : zA) : Res :=
 match x with
 | .agg cs => ⟨off + n ≤ cs.length ∧ (ag = true ∨ n = 1),cellsV ag n (cs.drop off),H⟩
 | _ => .no H
def rIaddr (sz : Nat) (x i : AV) (H : zA) : Res :=
 match x,i with
 | .sl sz' xs,.v (.int _ n) => ⟨sz' = sz ∧ 0 ≤ n ∧ n < xs.length,.vp (xs.getD n.toNat []) 0,H⟩
 | .os r ver off len,.v (.int _ n) => ⟨0 ≤ n ∧ n < len ∧ szOk H sz (.os r ver off len) ∧ isVer ver H[r]?,.pe r ver (off + n.toNat) 0,H⟩
 | _,_ => .no H
def zDh (sz : Nat) (x i : AV) (H : zA) : Res :=
 match x with
 | .sl a b => rIaddr sz (.sl a b) i H
 | _ => .no H
def rIdx (x i : AV) (H : zA) : Res :=
 match x,i with
 | .v (.string s),.v (.int _ n) => ⟨0 ≤ n ∧ n < (bs s).length,u8 ((bs s).getD n.toNat 0).toNat,H⟩
 | _,_ => .no H
def zFc (k : Value) : List Value → List AV → Option AV
 | k' :: ks,x :: vs => if kEq k k' = true then some x else zFc k ks vs
 | _,_ => none
def lookV (zero : AV) (ok : Bool) : Option AV → AV
 | some x => if ok then .tup [x,bool true] else x
 | none => if ok then .tup [zero,bool false] else zero
def rLookN (kd : KD) (zero : AV) (ok : Bool) (k : Value) (ks : List Value) (vs : List AV) (H : zA) : Res :=
 ⟨(∀ k' ∈ ks,kCmp k k' = true) ∧ kIs kd k = true,lookV zero ok (zFc k ks vs),H⟩
def rLook (kd : KD) (zero : AV) (ok : Bool) (m k : AV) (H : zA) : Res :=
 match m,k with
 | .mp ks vs,.v k => rLookN kd zero ok k ks vs H
 | .om r ver,.v k => match H[r]? with
  | some (.map ver' ks vs) => (rLookN kd zero ok k ks vs H).also (ver = ver')
  | _ => .no H
 | _,_ => .no H
def rExt (x : AV) (i : Nat) (H : zA) : Res :=
 match x with
 | .tup xs => ⟨i < xs.length,xs.getD i .any,H⟩
 | _ => .no H
def rAppendO (sz bytes : Nat) (r ver len : Nat) (ys : Option (List (List AV))) (H : zA) : Option HO → Res
 | some (.arr ver' sz' xs) => match ys with
  | some ys => ⟨ver = ver' ∧ sz' = sz ∧ len ≤ xs.length ∧ (len + ys.length) * bytes ≤ 140737488355328 ∧ len + ys.length ≤ 140737488355328,.os r (ver + 1) 0 (len + ys.length),H.set r (.arr (ver + 1) sz (xs.take len ++ ys))⟩
  | none => .no H
 | _ => .no H
def rAppendN (sz bytes : Nat) (ys : Option (List (List AV))) (H : zA) : Res :=
 match ys with
 | some ys => ⟨0 < sz ∧ ys.length * bytes ≤ 140737488355328 ∧ ys.length ≤ 140737488355328,.os H.length 0 0 ys.length,H ++ [.arr 0 sz ys]⟩
 | none => .no H
def rAppendC (sz bytes : Nat) (ys : Option (List (List AV))) (H : zA) : Res :=
 match ys with
 | some [] => ⟨0 < sz,.nc,H⟩
 | ys => rAppendN sz bytes ys H
def rAppend (sz bytes : Nat) (s x : AV) (H : zA) : Res :=
 match s with
 | .os r ver 0 len => (rAppendO sz bytes r ver len (rowsOf H x) H H[r]?).also (szOk H sz x)
 | .v (.slice none 0 0) => (rAppendN sz bytes (rowsOf H x) H).also (szOk H sz x)
 | .nc => (rAppendC sz bytes (rowsOf H x) H).also (szOk H sz x)
 | _ => .no H
def zB8 (t : TypeId) (r ver len : Nat) (y : List UInt8) (H : zA) : Option HO → Res
 | some (.barr t' ver' l) => ⟨ver = ver' ∧ t = t' ∧ len = l.length ∧ len + y.length ≤ 140737488355328,.os r (ver + 1) 0 (len + y.length),H.set r (.barr t (ver + 1) (l ++ y))⟩
 | _ => .no H
def zB6 (t : TypeId) (y : List UInt8) (H : zA) : Res := if y = [] then ⟨True,zAI,H⟩ else ⟨y.length ≤ 140737488355328,.os H.length 0 0 y.length,H ++ [.barr t 0 y]⟩
def zB7 (t : TypeId) (s : AV) (y : List UInt8) (H : zA) : Res :=
 match s with
 | .os r ver 0 len => zB8 t r ver len y H H[r]?
 | .v (.slice none 0 0) => zB6 t y H
 | _ => .no H
def zCI (t : TypeId) (s x : AV) (H : zA) : Res :=
 match x with
 | .v (.string y) => zB7 t s (bs y) H
 | _ => .no H
def rCopy (sz : Nat) (s x : AV) (H : zA) : Res :=
 match s,rowsOf H x with
 | .os r ver off len,some ys => match H[r]? with
  | some (.arr ver' sz' xs) => ⟨ver = ver' ∧ sz' = sz ∧ szOk H sz x ∧ off + len ≤ xs.length,int (min ys.length len : Nat),H.set r (.arr ver sz (xs.take off ++ ys.take (min ys.length len) ++ xs.drop (off + min ys.length len)))⟩
  | _ => .no H
 | _,_ => .no H
def rMin (x y : AV) (H : zA) : Res :=
 match x,y with
 | .v (.int k a),.v (.int _ b) => ⟨True,.v (.int k (if b < a then b else a)),H⟩
 | _,_ => .no H
def rMax (x y : AV) (H : zA) : Res :=
 match x,y with
 | .v (.int k a),.v (.int _ b) => ⟨True,.v (.int k (if a < b then b else a)),H⟩
 | _,_ => .no H
def rMax3 (x y z : AV) (H : zA) : Res :=
 match x,y,z with
 | .v (.int k a),.v (.int _ b),.v (.int _ c) => ⟨True,.v (.int k (if (if a < b then b else a) < c then c else (if a < b then b else a))),H⟩
 | _,_,_ => .no H
def zHl : List AV → Option (List Value)
 | [] => some []
 | .v v :: l => (zHl l).map (v :: ·)
 | _ => none
def zO5 : AV → Option Value
 | .v v => some v
 | .agg cs => (zHl cs).map fun l => .agg l.toArray
 | _ => none
def rMkif (t : TypeId) (x : AV) (H : zA) : Res :=
 match zO5 x with
 | some v => ⟨True,.v (.iface t v),H⟩
 | none => .no H
def rNilI (neg : Bool) (x : AV) (H : zA) : Res :=
 match x with
 | .v .nilIface => ⟨True,bool (!neg),H⟩
 | .v (.iface _ _) => ⟨True,bool neg,H⟩
 | _ => .no H
def vA : Value → AV
 | .agg cs => .agg (cs.toList.map .v)
 | v => .v v
def rAsrt (t : TypeId) (z x : AV) (H : zA) : Res :=
 match x with
 | .v .nilIface => ⟨True,.tup [z,bool false],H⟩
 | .v (.iface t' v) => ⟨True,if t' = t then .tup [vA v,bool true] else .tup [z,bool false],H⟩
 | _ => .no H
def rRangeM (x : AV) (H : zA) : Res :=
 match x with
 | .mp ks vs => ⟨True,.ptr H.length 0 0,H ++ [.mit ks vs (List.range ks.length) none]⟩
 | _ => .no H
def rEntryO (H : zA) : Option HO → Res
 | some (.mit ks vs _ (some i)) => ⟨i < ks.length,.tup [.v (ks.getD i default),vs.getD i .any],H⟩
 | _ => .no H
def rEntryM (x : AV) (H : zA) : Res :=
 match x with
 | .ptr r 0 0 => rEntryO H H[r]?
 | _ => .no H
def zSq (r : Nat) (H : zA) (K : AV → zA → Prop) : Option HO → Prop
 | some (.mit ks vs left _) => (left = [] → K (.tup [bool false]) H) ∧ ∀ i ∈ left,K (.tup [bool true,.v (ks.getD i default),vs.getD i .any]) (H.set r (.mit ks vs (left.filter fun j => !decide (j = i)) (some i)))
 | _ => False
def nextA (x : AV) (H : zA) (K : AV → zA → Prop) : Prop :=
 match x with
 | .ptr r 0 0 => zSq r H K H[r]?
 | _ => False
def zHa (xs : List (List AV)) : Bool := xs.all clL
def rFrz (x : AV) (H : zA) : Res :=
 match x with
 | .os r ver off len => match H[r]? with
  | some (.arr ver' sz xs) => ⟨ver = ver' ∧ off + len ≤ xs.length ∧ zHa xs = true,.sl sz ((xs.drop off).take len),H.set r .dead⟩
  | _ => .no H
 | .om r ver => match H[r]? with
  | some (.map ver' ks vs) => ⟨ver = ver',.mp ks vs,H.set r .dead⟩
  | _ => .no H
 | .ptr r ver off => match H[r]? with
  | some (.box cs) => ⟨ver = 0 ∧ clL cs = true,.vp cs off,H.set r .dead⟩
  | _ => .no H
 | .v (.slice none 0 0) => ⟨True,.sl 0 [],H⟩
 | .sl sz xs => ⟨True,.sl sz xs,H⟩
 | .nc => ⟨True,.sl 0 [],H⟩
 | _ => .no H
def rFrzN (sz : Nat) (y : AV) (H : zA) : Res :=
 match y with
 | .v (.slice none 0 0) => ⟨True,.sl sz [],H⟩
 | .os r ver off len => rFrz (.os r ver off len) H
 | .sl sz' xs => ⟨True,.sl sz' xs,H⟩
 | _ => .no H
def rFrzO (cs : List AV) (off : Nat) (r : Res) : Res := ⟨r.ok,.agg (cs.set off r.x),r.H⟩
def rFrzfO (sz off : Nat) (cs : List AV) (y : Option AV) (H : zA) : Res :=
 match y with
 | some y => rFrzO cs off (rFrzN sz y H)
 | none => .no H
def rFrzP (r j : Nat) (cs : List AV) (p : AV) (q : Res) : Res := ⟨q.ok,p,q.H.set r (.box (cs.set j q.x))⟩
def rFrzQ (sz r j : Nat) (cs : List AV) (p : AV) (y : Option AV) (H : zA) : Res :=
 match y with
 | some y => rFrzP r j cs p (rFrzN sz y H)
 | none => .no H
def rFrzB (sz r ver off o : Nat) (b : Option HO) (H : zA) : Res :=
 match b with
 | some (.box cs) => (rFrzQ sz r (o + off) cs (.ptr r ver o) cs[o + off]? H).also (ver = 0)
 | _ => .no H
def rFrzf (sz off : Nat) (x : AV) (H : zA) : Res :=
 match x with
 | .agg cs => rFrzfO sz off cs cs[off]? H
 | .ptr r ver o => rFrzB sz r ver off o H[r]? H
 | _ => .no H
def rOwn (sz : Nat) (x : AV) (H : zA) : Res :=
 match x with
 | .v (.slice none 0 0) => ⟨0 < sz,.os H.length 0 0 0,H ++ [.arr 0 sz []]⟩
 | _ => .no H
def nilOk (x : AV) (b : Bool) : Prop :=
 match x with
 | .v (.slice none 0 0) => b = true
 | .sl _ xs => b = true → xs = []
 | .os _ _ _ len => b = true → len = 0
 | _ => True
def slcK (H : zA) : AV → Prop
 | .v (.slice none 0 0) => True
 | .sl _ _ => True
 | .os r ver _ _ => isArr H[r]? ∧ isVer ver H[r]?
 | .nc => True
 | _ => False
def zAW (op : LOp) (e : Env) (H : zA) : Res :=
 match op with
 | .mv x => ⟨True,ev e x,H⟩
 | .pick _ _ _ => .no H
 | .alloc zs => ⟨c1s zs = true,.ptr H.length 0 0,H ++ [.box zs]⟩
 | .allocb t zs => ⟨zFd (zs.headD .any) = true ∧ c1s zs = true,.ptr H.length 0 0,H ++ [.box (.bnil t :: zs.drop 1)]⟩
 | .box imm x => rBox imm (ev e x) H
 | .build zs ps => rBuild zs (ps.map fun (o,n,x) => (o,n,ev e x)) H
 | .bsl imm sz len zs ps => rBsl imm sz len zs (ps.map fun (i,x) => (i,ev e x)) H
 | .mkmap => ⟨True,.om H.length 0,H ++ [.map 0 [] []]⟩
 | .ins kd m k x => rIns kd (ev e m) (zKK (ev e k)) (ev e x) H
 | .load ag n p => rLoad ag n (ev e p) H
 | .loadb ag n p => zCn ag n (ev e p) H
 | .store n p x => rStore n (ev e p) (ev e x) H
 | .nilchk x => rNil (ev e x) H
 | .bin kd op x y => rBin kd op (ev e x) (ev e y) H
 | .not x => rNot (ev e x) H
 | .neg x => rNeg (ev e x) H
 | .conv c x => rConv c (ev e x) H
 | .mkfn f first caps => ⟨True,.fn f (first.map (ev e)) (caps.map (ev e)),H⟩
 | .msl sz bytes zs len cap => rMsl sz bytes zs (ev e len) (ev e cap) H
 | .slice lk n x lo hi => rSlice lk n (ev e x) (lo.map (ev e)) (hi.map (ev e)) H
 | .slicev lk n x lo hi => zDg lk n (ev e x) (lo.map (ev e)) (hi.map (ev e)) H
 | .faddr off p => rFaddr off (ev e p) H
 | .faddrb off p => zBB off (ev e p) H
 | .fld ag off n x => rFld ag off n (ev e x) H
 | .iaddr sz x i => rIaddr sz (ev e x) (ev e i) H
 | .iaddrv sz x i => zDh sz (ev e x) (ev e i) H
 | .idx x i => rIdx (ev e x) (ev e i) H
 | .look kd zero ok m k => rLook kd zero ok (ev e m) (zKK (ev e k)) H
 | .ext x i => rExt (ev e x) i H
 | .len lk x => rLen lk (ev e x) H
 | .append sz bytes s x => rAppend sz bytes (ev e s) (ev e x) H
 | .appendb t s x => zCI t (ev e s) (ev e x) H
 | .copy sz s x => rCopy sz (ev e s) (ev e x) H
 | .min2 x y => rMin (ev e x) (ev e y) H
 | .max2 x y => rMax (ev e x) (ev e y) H
 | .max3 x y z => rMax3 (ev e x) (ev e y) (ev e z) H
 | .call _ _ => .no H
 | .callh _ _ => .no H
 | .frz x => rFrz (ev e x) H
 | .own sz x => rOwn sz (ev e x) H
 | .frzf sz off x => rFrzf sz off (ev e x) H
 | .isnil _ _ => .no H
 | .nili neg x => rNilI neg (ev e x) H
 | .asrt t z x => rAsrt t z (ev e x) H
 | .rangem x => rRangeM (ev e x) H
 | .nextm _ => .no H
 | .entrym x => rEntryM (ev e x) H
 | .mkif t x => rMkif t (ev e x) H
 | .panicv _ => .no H
 | .stchk n p x => zFT n (ev e p) (ev e x) H
 | .bad => .no H
inductive Out where
 | normal
 | exit (id : Nat)
 | ret
 | pan (v : Value)
def zGA (P : Program) (f : AV) (args : List AV) (H : zA) (K : AV → zA → Prop) : Prop :=
 match f with
 | .fn (.func k) first caps => ACall P k (first ++ args ++ caps) H K
 | .v (.func (.yield l) ⟨[]⟩ ⟨[]⟩) => AYield P l args H K
 | _ => False
def zEc (P : Program) (f : AV) (args : List AV) (H : zA) (K : AV → zA → Prop) (Z : Value → zA → Prop) : Prop :=
 match f with
 | .fn (.func k) first caps => ACallX P k (first ++ args ++ caps) H K Z
 | _ => False
def aop (P : Program) (op : LOp) (e : Env) (H : zA) (K : AV → zA → Prop) : Prop :=
 match op with
 | .call f args => zGA P (ev e f) (args.map (ev e)) H K
 | .callh f args => zGA P (ev e f) (args.map (ev e)) H K
 | .pick c a b => match ev e c with
  | .v (.bool t) => if t = true then K (ev e a) H else K (ev e b) H
  | _ => False
 | .isnil neg x => slcK H (ev e x) ∧ ∀ b,nilOk (ev e x) b → K (bool (b ^^ neg)) H
 | .nextm x => nextA (ev e x) H K
 | op => (zAW op e H).ok ∧ K (zAW op e H).x (zAW op e H).H
def zAi (P : Program) : List LO → Env → zA → (Env → zA → Prop) → Prop
 | [],e,H,K => K e H
 | o :: l,e,H,K =>
  match o.g with
  | none => aop P o.op e H fun x H' => zAi P l (ups e o.d x) H' K
  | some (t,want) =>
   match e t with
   | .v (.bool b) => if b = true then (if want = true then aop P o.op (up e t (bool true)) H fun x H' => zAi P l (ups (up e t (bool true)) o.d x) H' K else zAi P l (ups (up e t (bool true)) o.d zAk) H K)
     else (if want = true then zAi P l (ups (up e t (bool false)) o.d zAk) H K else aop P o.op (up e t (bool false)) H fun x H' => zAi P l (ups (up e t (bool false)) o.d x) H' K)
   | .v (.tuple _) => zAi P l (ups e o.d zAk) H K
   | _ => False
def zDb (P : Program) (op : LOp) (e : Env) (H : zA) (K : AV → Prop) : Prop :=
 match op with
 | .call f args => match ev e f with
  | .fn (.func k) first caps => ∃ x,APure P k (first ++ args.map (ev e) ++ caps) x ∧ clL (first ++ args.map (ev e) ++ caps) = true ∧ K x
  | _ => False
 | .callh f args => match ev e f with
  | .fn (.func k) first caps => ∃ x,ACall P k (first ++ args.map (ev e) ++ caps) H (fun y H' => y = x ∧ H' = H) ∧ K x
  | _ => False
 | .pick c a b => match ev e c with
  | .v (.bool t) => if t = true then K (ev e a) else K (ev e b)
  | _ => False
 | .frz _ => False
 | .own _ _ => False
 | .frzf _ _ _ => False
 | .isnil _ _ => False
 | .rangem _ => False
 | .nextm _ => False
 | .entrym _ => False
 | op => (zAW op e H).ok ∧ (zAW op e H).H = H ∧ K (zAW op e H).x
def zAF (P : Program) : List LO → Env → zA → (Env → Prop) → Prop
 | [],e,_,K => K e
 | o :: l,e,H,K =>
  match o.g with
  | none => zDb P o.op e H fun x => zAF P l (ups e o.d x) H K
  | some (t,want) =>
   match e t with
   | .v (.bool b) => if b = true then (if want = true then zDb P o.op (up e t (bool true)) H fun x => zAF P l (ups (up e t (bool true)) o.d x) H K else zAF P l (ups (up e t (bool true)) o.d zAk) H K)
     else (if want = true then zAF P l (ups (up e t (bool false)) o.d zAk) H K else zDb P o.op (up e t (bool false)) H fun x => zAF P l (ups (up e t (bool false)) o.d x) H K)
   | .v (.tuple _) => zAF P l (ups e o.d zAk) H K
   | _ => False
def zHB (e : Env) (x : LX) (b : Bool) : Env :=
 match x with
 | .t n => up e n (bool b)
 | .c _ => e
def upL : Env → List Nat → List AV → Env
 | e,p :: ps,x :: xs => upL (up e p x) ps xs
 | e,_,_ => e
def zLC : zRp → (Out → Prop) → Prop
 | .ready,K => K .normal
 | .busy,_ => False
 | .done none,K => K .ret
 | .done (some id),K => K (.exit id)
def zQG (l : Nat) (lr : Go.Loop) (e : Env) (r : Nat) (R : AV → zA → Prop) (o : Out) (_ : Env) (H : zA) : Prop :=
 H[r]? = some (.lp l lr e .busy) ∧ match o with
  | .normal => R (bool true) (H.set r (.lp l lr e .ready))
  | .exit id => R (bool false) (H.set r (.lp l lr e (.done (some id))))
  | .ret => R (bool false) (H.set r (.lp l lr e (.done none)))
  | .pan _ => False
def zC2 (P : Program) (hd : List LO) (e1 : Env) (H : zA) (js : List Nat) : Prop := ∀ j ∈ js,zAF P [hd.getD j default] e1 H fun e' => e' = e1
def zDa (P : Program) (hd : List LO) (e1 : Env) : List (LO × List Nat) → Env → zA → (Env → zA → Prop) → Prop
 | [],e,H,K => K e H
 | (o,js) :: l,e,H,K => zAi P [o] e H fun e' H' => zC2 P hd e1 H' js ∧ zDa P hd e1 l e' H' K
def zGr (g : Option (Nat × Bool)) (e : Env) (A B : Prop) : Prop :=
 match g with
 | none => A
 | some (t,want) => match e t with
  | .v (.bool b) => if b = want then A else B
  | .v (.tuple _) => B
  | _ => False
def aTI (P : Program) (c : Bool) (o : LO) (e : Env) (H : zA) (K : Env → zA → Prop) (Z : Value → zA → Prop) : Prop :=
 match c,o.op with
 | true,.call f args => zGr o.g e (zEc P (ev e f) (args.map (ev e)) H (fun x H' => K (ups e o.d x) H') Z) (K (ups e o.d zAk) H)
 | true,.panicv x => zGr o.g e (∃ t z,ev e x = .v (.iface t z) ∧ Z (.iface t z) H) (K (ups e o.d zAk) H)
 | _,_ => zAi P [o] e H K
def zEI (P : Program) (hd : List LO) (e1 : Env) : List (LO × Bool × List Nat) → Env → zA → (Env → zA → Prop) → (Value → zA → Prop) → Prop
 | [],e,H,K,_ => K e H
 | (o,c,js) :: l,e,H,K,Z => aTI P c o e H (fun e' H' => zC2 P hd e1 H' js ∧ zEI P hd e1 l e' H' K Z) Z
def zNB (e : Env) (l : List (Option Nat)) : Env := fun t => if l.contains (some t) then .any else e t
def zPT (e : Env) (hd : List LO) (tl : List (LO × Bool × List Nat)) : Env := zNB e (hd.map (·.d) ++ tl.map (·.1.d))
def awp (P : Program) : LCode → Env → zA → (Out → Env → zA → Prop) → Prop
 | .skip,e,H,K => K .normal e H
 | .ops l,e,H,K => zAi P l e H (K .normal)
 | .draw hd tl,e,H,K => zAF P hd e H fun e' => zAi P tl e' H (K .normal)
 | .drawM hd pre mid post,e,H,K => zAF P hd e H fun e' => ∀ σ : List LO,σ.Perm mid → zAi P (pre ++ σ ++ post) e' H (K .normal)
 | .drawA hd tl gs,e,H,K => zAF P hd e H fun e1 => zDa P hd e1 tl e1 H fun e' H' => zAi P gs e' H' (K .normal)
 | .seq a b,e,H,K => awp P a e H fun o e' H' => match o with | .normal => awp P b e' H' K | o => K o e' H'
 | .cond x a b,e,H,K => match ev e x with
  | .v (.bool t) => if t = true then awp P a (zHB e x true) H K else awp P b (zHB e x false) H K
  | _ => False
 | .block id c,e,H,K => awp P c e H fun o e' H' => match o with | .exit j => if j = id then K .normal e' H' else K (.exit j) e' H' | o => K o e' H'
 | .loop c,e,H,K => ∃ (I : Env → zA → Prop) (μ : Env → zA → Nat),I e H ∧ ∀ e H,I e H → awp P c e H fun o e' H' => match o with | .normal => I e' H' ∧ μ e' H' < μ e H | o => K o e' H'
 | .range g ps la lb,e,H,K => match ev e g with
  | .fn (.func k) first caps => ∀ (l : Nat) (lr : Go.Loop),
    (∀ (args : List AV) (H1 : zA) (r : Nat) (R : AV → zA → Prop),args.length = ps.length → H1[r]? = some (.lp l lr e .ready) →
     (awp P la (upL e ps args) H1 fun o e1 H2 => match o with
      | .normal => H2[r]? = some (.lp l lr e .ready) ∧ awp P lb e1 (H2.set r (.lp l lr e .busy)) (zQG l lr e r R)
      | _ => False) → AYield P l args H1 R) →
    ACall P k (first ++ [.v (.func (.yield l) #[] #[])] ++ caps) (H ++ [.lp l lr e .ready]) fun _ H' => ∃ st,H'[H.length]? = some (.lp l lr e st) ∧ zLC st fun o => K o e (H'.set H.length .dead)
  | _ => False
 | .exit id,e,H,K => K (.exit id) e H
 | .ret,e,H,K => K .ret e H
 | .callp d f args,e,H,K => zEc P (ev e f) (args.map (ev e)) H (fun x H' => K .normal (ups e d x) H') fun v H' => K (.pan v) e H'
 | .ti o,e,H,K => aTI P true o e H (fun e' H' => K .normal e' H') fun v H' => K (.pan v) e H'
 | .drawX hd tl gs,e,H,K => zAF P hd e H fun e1 => zEI P hd e1 tl e1 H (fun e' H' => zAi P gs e' H' (K .normal)) fun v H' => K (.pan v) (zPT e hd tl) H'
 | .pan d t x,e,H,K => ∃ v,zO5 (ev e x) = some v ∧ K (.pan (.iface t v)) (up e d (.v (.iface t v))) H
inductive RV where
 | tmp (t : Nat)
 | cell (t : Nat) (ag : Bool) (n : Nat)
def zCH (e : Env) (H : zA) : RV → Res
 | .tmp t => ⟨True,e t,H⟩
 | .cell t ag n => rLoad ag n (e t) H
def zAA (e : Env) (H : zA) (l : List RV) : Res :=
 match l with
 | [r] => zCH e H r
 | l => ⟨∀ r ∈ l,(zCH e H r).ok,.tup (l.map fun r => (zCH e H r).x),H⟩
structure LFn where
 n : Nat
 res : List RV
 body : LCode
def zUD (res : List RV) (R : AV → zA → Prop) : Out → Env → zA → Prop
 | .exit _,_,_ => False
 | .pan _,_,_ => False
 | _,e,H => (zAA e H res).ok ∧ R (zAA e H res).x H
def zLs (res : List RV) (R : AV → zA → Prop) (Z : Value → zA → Prop) : Out → Env → zA → Prop
 | .exit _,_,_ => False
 | .pan v,_,H => Z v H
 | _,e,H => (zAA e H res).ok ∧ R (zAA e H res).x H
inductive zEp where
 | code (c : LCode)
 | ops (l : List LO)
 | opq (l tl : List LO)
 | blk (id : Nat)
 | bgn (l : Nat) (lr : Go.Loop) (e : Env) (r : Nat)
 | lp (R : Env → zA → Prop)
 | opx (hd : List LO) (tl : List (LO × Bool × List Nat)) (gs : List LO) (em : Env)
 | keepx (hd : List LO) (e1 : Env) (js : List Nat) (tl : List (LO × Bool × List Nat)) (gs : List LO) (em : Env)
def zU (P : Program) : List zEp → (Out → Env → zA → Prop) → Out → Env → zA → Prop
 | [],Q,o,e,H => Q o e H
 | .code c :: k,Q,.normal,e,H => awp P c e H (zU P k Q)
 | .code _ :: k,Q,o,e,H => zU P k Q o e H
 | .ops l :: k,Q,.normal,e,H => zAi P l e H (zU P k Q .normal)
 | .ops _ :: k,Q,o,e,H => zU P k Q o e H
 | .opq l tl :: k,Q,.normal,e,H => zAF P l e H fun e' => zAi P tl e' H (zU P k Q .normal)
 | .opq _ _ :: k,Q,o,e,H => zU P k Q o e H
 | .blk id :: k,Q,o,e,H => match o with | .exit j => if j = id then zU P k Q .normal e H else zU P k Q (.exit j) e H | o => zU P k Q o e H
 | .bgn l lr e0 r :: k,Q,.normal,e,H => H[r]? = some (.lp l lr e0 .ready) ∧ zU P k Q .normal e (H.set r (.lp l lr e0 .busy))
 | .bgn _ _ _ _ :: _,_,_,_,_ => False
 | .lp R :: k,Q,o,e,H => match o with | .normal => R e H | o => zU P k Q o e H
 | .opx hd tl gs em :: k,Q,.normal,e,H => zEI P hd e tl e H (fun e' H' => zAi P gs e' H' (zU P k Q .normal)) fun v H' => zU P k Q (.pan v) em H'
 | .opx _ _ _ _ :: k,Q,o,e,H => zU P k Q o e H
 | .keepx hd e1 js tl gs em :: k,Q,.normal,e,H => zC2 P hd e1 H js ∧ zEI P hd e1 tl e H (fun e' H' => zAi P gs e' H' (zU P k Q .normal)) fun v H' => zU P k Q (.pan v) em H'
 | .keepx _ _ _ _ _ _ :: k,Q,o,e,H => zU P k Q o e H
inductive HK where
 | imm
 | pre (d : Nat) (op : LOp)
 | tail
 | perm (l : List Nat)
 | many (m : Nat)
 | cut
 | drw (l : List Nat)
 | late
 | chn (a b : Nat)
 | var (b : Nat)
 deriving Inhabited
structure Hn where
 reg : Nat
 idx : Nat
 k : HK
 deriving Inhabited
def zRe : Value → AV
 | .agg us => .agg (us.toList.map .v)
 | v => .v v
def lx (n : Nat) : Operand → Option LX
 | .tmp t => if t < n then some (.t t) else none
 | .const v => some (.c (zRe v))
 | .func f => some (.c (.fn (.func f) [] []))
 | .global _ => none
def lxs (n : Nat) : List Operand → Option (List LX)
 | [] => some []
 | x :: l => match lx n x,lxs n l with
  | some y,some m => some (y :: m)
  | _,_ => none
def lxo (n : Nat) : Option Operand → Option (Option LX)
 | none => some none
 | some x => (lx n x).map some
def zCB (P : Program) (t : TypeId) : Option Nat := (P.info? t).map (·.size)
def zE9 (P : Program) (t : TypeId) : Option Bool :=
 match P.underlying t with
 | some (.struct _) => some true
 | some (.array _ _) => some true
 | some _ => some false
 | none => none
def zA2 (P : Program) (t : TypeId) : Option Value := (P.info? t).bind (·.zero)
def avs (l : List Value) : List AV := l.map .v
def zJc : Value → AV
 | .agg cs => .agg (avs cs.toList)
 | z => .v z
def zIS (P : Program) (g : TypeId → Option (List KD)) : List KD → List Field → Option (List KD)
 | l,[] => some l
 | l,f :: fs => match g f.type,zCB P f.type,zE9 P f.type with
  | some m, some n, some _ => if f.name ≠ "_" ∧ f.offset = l.length ∧ m.length = n then zIS P g (l ++ m) fs else none
  | _,_,_ => none
def zEE (P : Program) : Nat → TypeId → Option (List KD)
 | 0,_ => none
 | d + 1,t =>
  match P.underlying t with
  | some (.int _) => some [.int]
  | some .string => some [.str]
  | some .bool => some [.bool]
  | some (.struct fs) => if P.stoodInHeld t then none else zIS P (zEE P d) [] fs.toList
  | _ => none
def zRa (P : Program) (t : TypeId) : Bool := match P.underlying t with | some (.int _) => true | _ => false
def zIi (P : Program) (t : TypeId) : Option KD :=
 match P.underlying t with
 | some (.int _) => some .int
 | some .string => some .str
 | some .bool => some .bool
 | some (.func _ _ _) => some .fn
 | some (.struct _) => if P.eqGuardType P.depth t then none else (zEE P 8 t).map .agg
 | _ => none
def zF4 (P : Program) (t : TypeId) : Option KD :=
 match P.underlying t with
 | some (.array n e) => if n = 2 ∧ zRa P e = true ∧ P.cellsOf e = 1 then some (.agg [.int,.int]) else none
 | some (.struct _) => none
 | _ => zIi P t
def zHD (n : Nat) (place : Nat → Option (Nat × Nat)) : List (Nat × Operand) → Option (List (Nat × Nat × LX))
 | [] => some []
 | (i,x) :: l => match place i,lx n x,zHD n place l with
  | some (off,sz),some y,some m => some ((off,sz,y) :: m)
  | _,_,_ => none
def zJK (n : Nat) : List (Nat × Operand) → Option (List (Nat × LX))
 | [] => some []
 | (i,x) :: l => match lx n x,zJK n l with
  | some y,some m => some ((i,y) :: m)
  | _,_ => none
def zCJ (P : Program) (fs : List Field) : Option (List (Nat × Nat)) :=
 match fs with
 | [] => some []
 | f :: l => match zCB P f.type,zCJ P l with
  | some n,some m => some ((f.offset,n) :: m)
  | _,_ => none
def zFw (P : Program) (n : Nat) (t : TypeId) (ps : List (Nat × Operand)) : Option LOp :=
 match zA2 P t,P.underlying t with
 | some (.agg z),some (.struct fs) => match zCJ P fs.toList with
  | some pl => (zHD n (fun i => pl[i]?) ps).map (.build (avs z.toList))
  | none => none
 | some (.agg z),some (.array _ el) => match zCB P el with
  | some sz => (zHD n (fun i => some (i * sz,sz)) ps).map (.build (avs z.toList))
  | none => none
 | _,_ => none
def zKF (P : Program) (n : Nat) (imm : Bool) (t : TypeId) (len : Nat) (ps : List (Nat × Operand)) : Option LOp :=
 match P.underlying t with
 | some (.slice el) => match zCB P el,zA2 P el,zJK n ps with
  | some sz,some z,some m => if 0 < sz ∧ z.cells.size = sz ∧ len * sz ≤ 16777216 ∧ z.cells.toList.all one then some (.bsl imm sz len (avs z.cells.toList) m) else none
  | _,_,_ => none
 | _ => none
def zF1 (P : Program) (n : Nat) (src dst : TypeId) (x : Operand) : Option LOp :=
 match P.underlying src,P.underlying dst,lx n x with
 | some (.int _),some (.int k),some y => some (.conv (.toInt k) y)
 | some .string,some .string,some y => some (.conv .same y)
 | some (.int _),some .string,some y => some (.conv .runeStr y)
 | some .string,some (.slice e),some y => match P.underlying e with
  | some (.int .u8) => some (.conv .strBytes y)
  | _ => none
 | some (.slice e),some .string,some y => match P.underlying e,zCB P e with
  | some (.int .u8),some 1 => some (.conv .bytesStr y)
  | _,_ => none
 | some (.slice e),some (.slice _),some y => match P.underlying e with
  | some (.int .u8) => if (src == dst) = true then some (.conv .sameB y) else none
  | _ => none
 | _,_,_ => none
def zDj (P : Program) (n : Nat) (c : Call) : Option LOp :=
 match c.callee with
 | .value f => match lx n f,lxs n c.args.toList with
  | some g,some m => some (.call g m)
  | _,_ => none
 | .builtin .len => match lxs n c.args.toList,c.argTypes.toList with
  | some [x],[t] => match P.underlying t with
   | some .string => some (.len .str x)
   | some (.slice _) => some (.len .slc x)
   | some (.map _ _) => some (.len .map x)
   | _ => none
  | _,_ => none
 | .builtin .append => match lxs n c.args.toList,c.argTypes.toList with
  | some [s,x],[t,u] => match P.underlying t with
   | some (.slice el) => match P.info? el,P.underlying u with
    | some i,some (.slice _) => if 0 < i.size ∧ (i.zero.map (·.cells.size)) = some i.size then some (.append i.size i.bytes s x) else none
    | some i,some .string => if i.size = 1 ∧ (i.zero.map (·.cells.size)) = some 1 then some (.append i.size i.bytes s x) else none
    | _,_ => none
   | _ => none
  | _,_ => none
 | .builtin .copy => match lxs n c.args.toList,c.argTypes.toList with
  | some [s,x],[t,_] => match P.underlying t with
   | some (.slice el) => (zCB P el).bind fun sz => if 0 < sz then some (.copy sz s x) else none
   | _ => none
  | _,_ => none
 | .builtin .min => match lxs n c.args.toList with
  | some [x,y] => some (.min2 x y)
  | _ => none
 | .builtin .max => match lxs n c.args.toList with
  | some [x,y] => some (.max2 x y)
  | some [x,y,z] => some (.max3 x y z)
  | _ => none
 | _ => none
def zCK (P : Program) (n : Nat) (c : Call) : Option LOp :=
 match c.callee with
 | .value f => match lx n f,lxs n c.args.toList with
  | some g,some m => some (.callh g m)
  | _,_ => none
 | .builtin .append => match lxs n c.args.toList,c.argTypes.toList with
  | some [s,x],[t,u] => match P.underlying t,P.underlying u with
   | some (.slice el),some .string => match P.info? el with
    | some i => if i.size = 1 ∧ i.bytes = 1 ∧ (i.zero.map (·.cells.size)) = some 1 then some (.appendb el s x) else none
    | none => none
   | _,_ => none
  | _,_ => none
 | _ => none
def zKN : Operand → Bool
 | .const (.slice none 0 0) => true
 | _ => false
def zNU : Operand → Bool
 | .const .nilIface => true
 | _ => false
def zOX : BinOp → Option Bool
 | .eql => some false
 | .neq => some true
 | _ => none
def zKG (P : Program) (n : Nat) (op : BinOp) (t : TypeId) (x y : Operand) : Option LOp :=
 match P.underlying t with
 | some (.slice _) => match zOX op,lx n x with
  | some neg,some x => if zKN y then some (.isnil neg x) else none
  | _,_ => none
 | some (.interface _) => match zOX op,lx n x with
  | some neg,some x => if zNU y then some (.nili neg x) else none
  | _,_ => none
 | _ => match zIi P t,lx n x,lx n y with
  | some kd,some x,some y => some (.bin kd op x y)
  | _,_,_ => none
def zFv : TypeDesc → Bool
 | .interface _ => false
 | _ => true
def zDF (P : Program) (n : Nat) (imm : Bool) (o : Oper) : Option LOp :=
 match o.op with
 | .move x => (lx n x).map .mv
 | .assign x => (lx n x).map .mv
 | .pick c a b => match lx n c,lx n a,lx n b with
  | some c,some a,some b => some (.pick c a b)
  | _,_,_ => none
 | .alloc t => match zA2 P t with
  | some z => some (if imm then .allocb t (avs z.cells.toList) else .alloc (avs z.cells.toList))
  | none => none
 | .box _ x => (lx n x).map (.box imm)
 | .build t ps => zFw P n t ps.toList
 | .buildSlice t len ps => zKF P n imm t len ps.toList
 | .makeMap _ none => some .mkmap
 | .insert t m k x | .mapUpdate t m k x => match P.underlying t,lx n m,lx n k,lx n x with
  | some (.map kt _),some m,some k,some x => (zF4 P kt).map fun kd => .ins kd m k x
  | _,_,_,_ => none
 | .load t p => match zE9 P t,zCB P t,lx n p with
  | some ag,some sz,some p => some (if imm then .loadb ag sz p else .load ag sz p)
  | _,_,_ => none
 | .store t p x => match zCB P t,lx n p,lx n x with
  | some sz,some p,some x => some (.store sz p x)
  | _,_,_ => none
 | .nilCheck x => (lx n x).map .nilchk
 | .binOp op t x y _ => zKG P n op t x y
 | .unOp .not _ x => (lx n x).map .not
 | .unOp .neg _ x => (lx n x).map .neg
 | .convert src dst x => zF1 P n src dst x
 | .makeFunc f first caps => match lxs n first.toList,lxs n caps.toList with
  | some a,some b => some (.mkfn f a b)
  | _,_ => none
 | .makeSlice t l c => match P.underlying t,lx n l,lx n c with
  | some (.slice el),some l,some c => match P.info? el with
   | some i => match i.zero with
    | some z => if 0 < i.size ∧ z.cells.size = i.size ∧ z.cells.toList.all one then some (.msl i.size i.bytes (avs z.cells.toList) l c) else none
    | none => none
   | none => none
  | _,_,_ => none
 | .slice t x lo hi none => match P.underlying t,lx n x,lxo n lo,lxo n hi with
  | some .string,some x,some lo,some hi => some (.slice .str 1 x lo hi)
  | some (.slice el),some x,some lo,some hi => (zCB P el).map fun n => if imm then .slicev .slc n x lo hi else .slice .slc n x lo hi
  | _,_,_,_ => none
 | .fieldAddr s p f => match P.underlying s,lx n p with
  | some (.struct fs),some p => match fs[f]? with
   | some fd => match zCB P fd.type with
    | some 0 => none
    | some _ => some (if imm then .faddrb fd.offset p else .faddr fd.offset p)
    | none => none
   | none => none
  | _,_ => none
 | .field s x f => match P.underlying s,lx n x with
  | some (.struct fs),some x => match fs[f]? with
   | some fd => match zE9 P fd.type,zCB P fd.type with
    | some ag,some sz => some (.fld ag fd.offset sz x)
    | _,_ => none
   | none => none
  | _,_ => none
 | .indexAddr t x i => match P.underlying t,lx n x,lx n i with
  | some (.slice el),some x,some i => (zCB P el).map fun sz => if imm then .iaddrv sz x i else .iaddr sz x i
  | _,_,_ => none
 | .index t x i => match P.underlying t,lx n x,lx n i with
  | some .string,some x,some i => some (.idx x i)
  | _,_,_ => none
 | .lookup t m k ok => match P.underlying t,lx n m,lx n k with
  | some (.map kt el),some m,some k => match zF4 P kt,zA2 P el with
   | some kd,some z => some (.look kd (zJc z) ok m k)
   | _,_ => none
  | _,_,_ => none
 | .extract x i => (lx n x).map (.ext · i)
 | .call c => if imm then zCK P n c else zDj P n c
 | .typeAssert x _ t true => match P.underlying t with
  | some (.interface _) => none
  | some _ => match lx n x,zA2 P t with
   | some x,some z => some (.asrt t (zJc z) x)
   | _,_ => none
  | none => none
 | .range t x => match P.underlying t with
  | some (.map _ _) => (lx n x).map .rangem
  | _ => none
 | .next x false => (lx n x).map .nextm
 | .entry x => (lx n x).map .entrym
 | .panic x => (lx n x).map .panicv
 | .makeInterface t x => match lx n x,P.underlying t with
  | some x,some u => if zFv u = true then some (.mkif t x) else none
  | _,_ => none
 | _ => none
def zIJ (P : Program) (n : Nat) (imm : Bool) (o : Oper) : LOp := (zDF P n imm o).getD .bad
def zVq (ops : Array Oper) (n : Nat) : Option (Nat × Bool) → Option (Option (Nat × Bool))
 | none => some none
 | some (j,want) => match (ops[j]?).bind (·.dst) with
  | some t => if t < n then some (some (t,want)) else none
  | none => none
def zAZ (hs : List Hn) (reg i : Nat) : Bool := hs.any fun h => h.reg == reg && h.idx == i && (match h.k with | .imm => true | _ => false)
def zAb (hs : List Hn) (reg i : Nat) : List LO := hs.filterMap fun h => if h.reg == reg && h.idx == i then (match h.k with | .pre d op => some ⟨some d,none,op⟩ | _ => none) else none
def zSJ (d : Option Nat) : LOp → Bool
 | .frz (.t t) => d == some t
 | .own _ (.t t) => d == some t
 | .frzf _ _ (.t t) => d == some t
 | _ => false
def zC5 (n : Nat) (l : List LO) : Bool := l.all fun o => o.g.isNone && zSJ o.d o.op && (match o.d with | some d => decide (d < n) | none => false)
def zUd (hs : List Hn) (reg : Nat) (n : Nat) : Nat := ((hs.find? fun h => h.reg == reg && (match h.k with | .tail => true | _ => false)).map (·.idx)).getD n
def zVL (n : Nat) : Option Nat → Bool
 | some d => decide (d < n)
 | none => true
def zAy (P : Program) (n : Nat) (imm : Bool) (ops : Array Oper) (o : Oper) : Option LO :=
 match zVq ops n o.guard with
 | some g => if zVL n o.dst then some ⟨o.dst,g,zIJ P n imm o⟩ else none
 | none => none
def zBi (P : Program) (n : Nat) (hs : List Hn) (reg : Nat) (ops : Array Oper) : Nat → List Oper → Option (List LO)
 | i,[] => if zC5 n (zAb hs reg i) then some (zAb hs reg i) else none
 | i,o :: l => match zAy P n (zAZ hs reg i) ops o,zBi P n hs reg ops (i + 1) l with
  | some lo,some m => if zC5 n (zAb hs reg i) then some (zAb hs reg i ++ lo :: m) else none
  | _,_ => none
def zGx (P : Program) (n : Nat) (hs : List Hn) (reg : Nat) (ops : Array Oper) : Nat → List Oper → Option (List LO)
 | _,[] => some []
 | i,o :: l => match zAy P n (zAZ hs reg i) ops o,zGx P n hs reg ops (i + 1) l with
  | some lo,some m => some (lo :: m)
  | _,_ => none
def LX.rd : LX → List Nat
 | .t n => [n]
 | .c _ => []
def rdL (l : List LX) : List Nat := l.flatMap LX.rd
def rdO : Option LX → List Nat
 | some x => x.rd
 | none => []
def LOp.rd : LOp → List Nat
 | .mv x => x.rd
 | .pick c a b => c.rd ++ a.rd ++ b.rd
 | .alloc _ => []
 | .allocb _ _ => []
 | .box _ x => x.rd
 | .build _ ps => ps.flatMap (·.2.2.rd)
 | .bsl _ _ _ _ ps => ps.flatMap (·.2.rd)
 | .mkmap => []
 | .ins _ m k x => m.rd ++ k.rd ++ x.rd
 | .load _ _ p => p.rd
 | .loadb _ _ p => p.rd
 | .store _ p x => p.rd ++ x.rd
 | .nilchk x => x.rd
 | .bin _ _ x y => x.rd ++ y.rd
 | .not x => x.rd
 | .neg x => x.rd
 | .conv _ x => x.rd
 | .mkfn _ a b => rdL a ++ rdL b
 | .msl _ _ _ l c => l.rd ++ c.rd
 | .slice _ _ x lo hi => x.rd ++ rdO lo ++ rdO hi
 | .slicev _ _ x lo hi => x.rd ++ rdO lo ++ rdO hi
 | .faddr _ p => p.rd
 | .faddrb _ p => p.rd
 | .fld _ _ _ x => x.rd
 | .iaddr _ x i => x.rd ++ i.rd
 | .iaddrv _ x i => x.rd ++ i.rd
 | .idx x i => x.rd ++ i.rd
 | .look _ _ _ m k => m.rd ++ k.rd
 | .ext x _ => x.rd
 | .len _ x => x.rd
 | .append _ _ s x => s.rd ++ x.rd
 | .appendb _ s x => s.rd ++ x.rd
 | .copy _ s x => s.rd ++ x.rd
 | .min2 x y => x.rd ++ y.rd
 | .max2 x y => x.rd ++ y.rd
 | .max3 x y z => x.rd ++ y.rd ++ z.rd
 | .call f args => f.rd ++ rdL args
 | .callh f args => f.rd ++ rdL args
 | .frz x => x.rd
 | .own _ x => x.rd
 | .frzf _ _ x => x.rd
 | .isnil _ x => x.rd
 | .nili _ x => x.rd
 | .asrt _ _ x => x.rd
 | .rangem x => x.rd
 | .nextm x => x.rd
 | .entrym x => x.rd
 | .mkif _ x => x.rd
 | .stchk _ p x => p.rd ++ x.rd
 | .panicv x => x.rd
 | .bad => []
def LO.rd (o : LO) : List Nat := (match o.g with | some (t,_) => [t] | none => []) ++ o.op.rd
def zTN (d : Option Nat) (l : List Nat) : Bool :=
 match d with
 | some t => l.contains t
 | none => false
def zZ (a b : LO) : Bool := zTN a.d b.rd || zTN b.d a.rd || (a.d.isSome && a.d == b.d)
def zG4 (ops : Array Oper) (hd : List LO) (h : Nat) : Bool :=
 let b := Region.before ops
 (List.range ops.size).all fun j => (List.range j).all fun i =>
  (b.getD j 0).testBit i || (decide (j < h) && !zZ (hd.getD i default) (hd.getD j default))
def zAg (ops : Array Oper) : Bool := (List.range ops.size).all fun i => ((ops[i]?).map (·.after.all fun e => !Region.binds .any e || decide (e.on < i))).getD true
def zDA : LOp → Bool
 | .mv _ => true
 | .pick _ _ _ => true
 | .box imm _ => imm
 | .build _ _ => true
 | .bsl imm _ _ _ _ => imm
 | .load _ _ _ => true
 | .loadb _ _ _ => true
 | .nilchk _ => true
 | .bin _ _ _ _ => true
 | .not _ => true
 | .neg _ => true
 | .conv _ _ => true
 | .mkfn _ _ _ => true
 | .slice _ _ _ _ _ => true
 | .slicev _ _ _ _ _ => true
 | .faddr _ _ => true
 | .faddrb _ _ => true
 | .fld _ _ _ _ => true
 | .iaddr _ _ _ => true
 | .iaddrv _ _ _ => true
 | .idx _ _ => true
 | .look _ _ _ _ _ => true
 | .ext _ _ => true
 | .len _ _ => true
 | .min2 _ _ => true
 | .max2 _ _ => true
 | .max3 _ _ _ => true
 | .call _ _ => true
 | .mkif _ _ => true
 | _ => false
def zBc : LOp → Bool
 | .mv _ => true
 | .pick _ _ _ => true
 | .build _ _ => true
 | .bin _ _ _ _ => true
 | .not _ => true
 | .neg _ => true
 | .mkfn _ _ _ => true
 | .fld _ _ _ _ => true
 | .idx _ _ => true
 | .ext _ _ => true
 | .min2 _ _ => true
 | .max2 _ _ => true
 | .max3 _ _ _ => true
 | .call _ _ => true
 | .box imm _ => imm
 | .bsl imm _ _ _ _ => imm
 | .iaddrv _ _ _ => true
 | .slicev _ _ _ _ _ => true
 | .mkif _ _ => true
 | _ => false
def zF7 : LOp → Bool
 | .alloc _ => true
 | .box imm _ => !imm
 | .bsl imm _ _ _ _ => !imm
 | .mkmap => true
 | .msl _ _ _ _ _ => true
 | _ => false
def zAn (P : Program) (n : Nat) (hs : List Hn) (reg : Nat) (ops : Array Oper) (j : Nat) : LO :=
 match ops[j]? with
 | some o => (zAy P n (zAZ hs reg j) ops o).getD default
 | none => default
def zNV : LOp → Bool
 | .loadb _ _ _ => true
 | .faddrb _ _ => true
 | _ => false
def zHJ : LOp → Bool
 | .ins _ _ _ _ => true
 | _ => false
def zLM : LOp → Bool
 | .append _ _ _ _ => true
 | _ => false
def zW3 : LOp → Bool
 | .mv _ => true
 | _ => false
def zRf (a b : LOp) : Bool := zBc a || zF7 b || (zNV a && (zHJ b || zLM b)) || zW3 b
def zJZ (P : Program) (n : Nat) (hs : List Hn) (reg : Nat) (ops : Array Oper) (hd : List LO) (h : Nat) : Bool :=
 let b := Region.before ops
 (List.range ops.size).all fun j => (List.range j).all fun i =>
  (b.getD j 0).testBit i || (decide (j < h) && !zZ (hd.getD i default) (hd.getD j default)) ||
   (decide (i < h) && decide (h ≤ j) && (zAb hs reg j).isEmpty && zDA (hd.getD i default).op && !zZ (hd.getD i default) (zAn P n hs reg ops j) && zRf (hd.getD i default).op (zAn P n hs reg ops j).op)
def zHQ (P : Program) (n : Nat) (hs : List Hn) (reg : Nat) (ops : Array Oper) (hd : List LO) (h p1 p2 : Nat) : Bool :=
 let b := Region.before ops
 ((List.range ops.size).all fun j => (List.range j).all fun i =>
  (b.getD j 0).testBit i || (decide (j < h) && !zZ (hd.getD i default) (hd.getD j default)) ||
   (decide (i < h) && decide (h ≤ j) && (zAb hs reg j).isEmpty && zDA (hd.getD i default).op && !zZ (hd.getD i default) (zAn P n hs reg ops j) && zRf (hd.getD i default).op (zAn P n hs reg ops j).op) ||
   (decide (p1 ≤ i) && decide (j < p2))) &&
 (List.range p2).all fun j => decide (j < h) || ((zAn P n hs reg ops j).g.isNone && (zAb hs reg j).isEmpty &&
  ((ops[j]?).map fun o => (zAy P n (zAZ hs reg j) ops o).isSome) == some true &&
  (if j < p1 then zF7 (zAn P n hs reg ops j).op else zHJ (zAn P n hs reg ops j).op && (zAn P n hs reg ops j).d.isNone))
def zHv (π : List Nat) (o : Oper) : Oper := { o with after := o.after.map fun e => { e with on := π.idxOf e.on },guard := o.guard.map fun jb => (π.idxOf jb.1,jb.2) }
def zBV (π : List Nat) (ops : Array Oper) : Array Oper := (π.map fun i => zHv π (ops.getD i default)).toArray
def zCV (π : List Nat) (n : Nat) : Bool := decide (π.length = n) && (List.range n).all fun k => decide (π.getD k 0 < n) && decide (π.idxOf (π.getD k 0) = k) && decide (π.idxOf k < n) && decide (π.getD (π.idxOf k) 0 = k)
def zUO (hs : List Hn) (reg : Nat) : Option (List Nat) := hs.findSome? fun h => if h.reg == reg then (match h.k with | .perm l => some l | _ => none) else none
def zIA (hs : List Hn) (reg : Nat) (ops : Array Oper) : Array Oper := match zUO hs reg with
 | some π => if zCV π ops.size then zBV π ops else ops
 | none => ops
def zVp (hs : List Hn) (reg : Nat) : Option (Nat × Nat) := hs.findSome? fun h => if h.reg == reg then (match h.k with | .many m => some (h.idx,h.idx + m) | _ => none) else none
def zFj : LO := ⟨none,none,.mv (.c .any)⟩
def zYA (hs : List Hn) (reg : Nat) : Option (List Nat) := hs.findSome? fun h => if h.reg == reg then (match h.k with | .drw l => some l | _ => none) else none
def zLK : LOp → Bool
 | .mv _ => true
 | .ext _ _ => true
 | _ => false
def zEh (ops : Array Oper) (h : Nat) : Bool :=
 decide (h ≤ ops.size) && ((List.range ops.size).all fun j => decide (j < h) || (List.range h).all fun i => ((Region.before ops).getD j 0).testBit i) &&
  (List.range h).all fun i => ((ops[i]?).map fun o => o.guard.all fun jb => decide (jb.1 < h)).getD true
def zIM (P : Program) (n : Nat) (hs : List Hn) (reg : Nat) (ops : Array Oper) (h : Nat) : Bool :=
 ((List.range ops.size).all fun j => decide (j < h) || (((ops[j]?).map fun o => (zAy P n (zAZ hs reg j) ops o).isSome) == some true && (zAn P n hs reg ops j).g.isNone && zLK (zAn P n hs reg ops j).op)) &&
  (List.range ops.size).all fun j => (List.range j).all fun i => decide (i < h) || ((Region.before ops).getD j 0).testBit i || !zZ (zAn P n hs reg ops i) (zAn P n hs reg ops j)
def zDG (hs : List Hn) (reg sz : Nat) : Nat := (hs.findSome? fun h => if h.reg == reg then (match h.k with | .late => some h.idx | _ => none) else none).getD sz
def zOZ (zs : List AV) : Bool := zs.all fun x => match x with | .v _ => true | _ => false
def zQQ (a b : LO) : Bool := match a,b with
 | ⟨some d0,none,.alloc z0⟩,⟨some d1,none,.alloc z1⟩ => !(d0 == d1) && zOZ z0 && zOZ z1
 | _,_ => false
def zIB (P : Program) (n : Nat) (hs : List Hn) (reg : Nat) (ops : Array Oper) (h : Nat) : Bool :=
 decide (h + 2 ≤ ops.size) && ((List.range ops.size).all fun j => decide (j < h) || (decide (h + 2 ≤ j) || ((ops[j]?).map fun o => (zAy P n (zAZ hs reg j) ops o).isSome) == some true)) && zQQ (zAn P n hs reg ops h) (zAn P n hs reg ops (h + 1)) &&
  (List.range ops.size).all fun j => (List.range j).all fun i => decide (i < h ∨ j < h + 2) || ((Region.before ops).getD j 0).testBit i
def hdA (P : Program) (n : Nat) (hs : List Hn) (reg : Nat) (ops : Array Oper) (T : List Nat) : List LO := (List.range ops.size).map fun i => if T.contains i then zFj else zAn P n hs reg ops i
def zCc (hd : List LO) (T : List Nat) (b : Nat) : List Nat := (List.range hd.length).filter fun j => !T.contains j && !zBc (hd.getD j default).op && !(b.testBit j)
def prA (P : Program) (n : Nat) (hs : List Hn) (reg : Nat) (ops : Array Oper) (T : List Nat) (i : Nat) : LO × List Nat := (zAn P n hs reg ops i,zCc (hdA P n hs reg ops T) T ((Region.before ops).getD i 0))
def tlA (P : Program) (n : Nat) (hs : List Hn) (reg : Nat) (ops : Array Oper) (T : List Nat) (q : Nat) : List (LO × List Nat) := ((List.range' q (ops.size - q)).filter fun i => T.contains i).map (prA P n hs reg ops T)
def zTn (hd : List LO) (j : Nat) : Bool := (hd.getD j default).d.isSome && (List.range hd.length).all fun k => decide (k < j) || (!zTN (hd.getD k default).d (hd.getD j default).rd && (decide (k = j) || !((hd.getD k default).d.isSome && (hd.getD k default).d == (hd.getD j default).d)))
def zCT (P : Program) (n : Nat) (hs : List Hn) (reg : Nat) (ops : Array Oper) (T : List Nat) : Bool :=
 let b := Region.before ops
 let hd := hdA P n hs reg ops T
 ((List.range ops.size).all fun i => ((ops[i]?).map fun o => (zAy P n (zAZ hs reg i) ops o).isSome && (zAb hs reg i).isEmpty) == some true) &&
 ((List.range ops.size).all fun j => (List.range j).all fun i =>
  if T.contains i then (if T.contains j then (b.getD j 0).testBit i else !zZ (hd.getD j default) (zAn P n hs reg ops i))
  else if T.contains j then (b.getD j 0).testBit i || !zZ (hd.getD i default) (zAn P n hs reg ops j)
  else (b.getD j 0).testBit i || !zZ (hd.getD i default) (hd.getD j default)) &&
 ((List.range ops.size).all fun j => T.contains j || zBc (hd.getD j default).op || zTn hd j)
def hdF (f : Nat → LO) (sz : Nat) (T : List Nat) : List LO := (List.range sz).map fun i => if T.contains i then zFj else f i
def prF (f : Nat → LO) (ops : Array Oper) (T : List Nat) (i : Nat) : LO × List Nat := (f i,zCc (hdF f ops.size T) T ((Region.before ops).getD i 0))
def tlF (f : Nat → LO) (ops : Array Oper) (T : List Nat) (q : Nat) : List (LO × List Nat) := ((List.range' q (ops.size - q)).filter fun i => T.contains i).map (prF f ops T)
def zEn (f : Nat → LO) (ops : Array Oper) (T : List Nat) : Bool :=
 let b := Region.before ops
 let hd := hdF f ops.size T
 ((List.range ops.size).all fun j => (List.range j).all fun i =>
  if T.contains i then (if T.contains j then (b.getD j 0).testBit i else !zZ (hd.getD j default) (f i))
  else if T.contains j then (b.getD j 0).testBit i || !zZ (hd.getD i default) (f j)
  else (b.getD j 0).testBit i || !zZ (hd.getD i default) (hd.getD j default)) &&
 ((List.range ops.size).all fun j => T.contains j || zBc (hd.getD j default).op || zTn hd j)
def nr : LCode → Bool
 | .seq a b => nr a && nr b
 | .cond _ a b => nr a && nr b
 | .block _ c => nr c
 | .loop c => nr c
 | .range _ _ _ _ => false
 | _ => true
def zKP (hs : List Hn) (reg i : Nat) : Bool := hs.any fun h => h.reg == reg && h.idx == i && (match h.k with | .cut => true | _ => false)
def zRo (hs : List Hn) (reg : Nat) : Bool := hs.any fun h => h.reg == reg && (match h.k with | .cut => true | _ => false)
def zNH (n : Nat) (o : Oper) : Option LCode :=
 match o.op,o.guard with
 | .call ⟨.value f,args,_⟩,none => match lx n f,lxs n args.toList with
  | some f,some args => if zVL n o.dst then some (.callp o.dst f args) else none
  | _,_ => none
 | _,_ => none
def zND (P : Program) (n : Nat) (o q : Oper) : Option LCode :=
 match o.op,o.guard,o.dst,q.op,q.guard with
 | .makeInterface t x,none,some d,.panic (.tmp d'),none => match lx n x,P.underlying t with
  | some x,some u => if d = d' ∧ d < n ∧ zFv u = true then some (.pan d t x) else none
  | _,_ => none
 | _,_,_,_,_ => none
def zSE : LOp → Bool
 | .call _ _ => true
 | _ => false
def prX (P : Program) (n : Nat) (hs : List Hn) (reg : Nat) (ops : Array Oper) (T : List Nat) (i : Nat) : LO × Bool × List Nat := (zAn P n hs reg ops i,zKP hs reg i,zCc (hdA P n hs reg ops T) T ((Region.before ops).getD i 0))
def tlX (P : Program) (n : Nat) (hs : List Hn) (reg : Nat) (ops : Array Oper) (T : List Nat) (q : Nat) : List (LO × Bool × List Nat) := ((List.range' q (ops.size - q)).filter fun i => T.contains i).map (prX P n hs reg ops T)
def zEk (P : Program) (n : Nat) (hs : List Hn) (reg : Nat) (ops : Array Oper) : Nat → List Oper → Option LCode
 | i,[] => if zC5 n (zAb hs reg i) then some (.ops (zAb hs reg i)) else none
 | i,o :: l =>
  if zC5 n (zAb hs reg i) then
   if zKP hs reg i then
    match zNH n o,zEk P n hs reg ops (i + 1) l with
    | some c,some m => some (.seq (.ops (zAb hs reg i)) (.seq c m))
    | _,_ => match l.head?.bind (zND P n o) with
     | some c => some (.seq (.ops (zAb hs reg i)) c)
     | none => match zAy P n false ops o,zEk P n hs reg ops (i + 1) l with
      | some lo,some m => if zSE lo.op then some (.seq (.ops (zAb hs reg i)) (.seq (.ti lo) m)) else none
      | _,_ => none
   else match zAy P n (zAZ hs reg i) ops o,zEk P n hs reg ops (i + 1) l with
    | some lo,some m => some (.seq (.ops (zAb hs reg i ++ [lo])) m)
    | _,_ => none
  else none
def chF (P : Program) (n : Nat) (hs : List Hn) (reg : Nat) (ops : Array Oper) (k : Nat) : Nat → LO := fun j =>
 if j = k then (match (zAn P n hs reg ops k).op with
  | .store sz p _ => ⟨some n,none,.stchk sz p (.c (.v (.bool false)))⟩
  | _ => default) else zAn P n hs reg ops j
def zOu (n : Nat) (a b c z : LO) : Bool := match a,b,c,z with
 | ⟨some d1,none,.iaddr _ _ _⟩,⟨none,none,.store _ (.t d2) _⟩,⟨none,none,.store 1 (.t tp) (.t tv)⟩,⟨some d3,none,.append _ _ _ _⟩ => d1 == d2 && !(d1 == tp) && !(d1 == tv) && decide (tp < n) && decide (tv < n) && d3 == tv
 | _,_,_,_ => false
def zOt (P : Program) (n : Nat) (hs : List Hn) (reg : Nat) (ops : Array Oper) (k : Nat) : Nat := match (zAn P n hs reg ops k).op with
 | .store _ _ (.t tv) => ((List.range k).find? fun j => (zAn P n hs reg ops j).d == some tv).getD k
 | _ => k
def zHX (P : Program) (n : Nat) (hs : List Hn) (reg : Nat) (ops : Array Oper) (ia ib k : Nat) : Bool :=
 decide (k + 1 = ops.size ∧ ia < ib ∧ ib < k) &&
 ((List.range ops.size).all fun i => ((ops[i]?).map fun o => (zAy P n (zAZ hs reg i) ops o).isSome) == some true) &&
 zOu n (zAn P n hs reg ops ia) (zAn P n hs reg ops ib) (zAn P n hs reg ops k) (zAn P n hs reg ops (zOt P n hs reg ops k)) &&
 ((List.range k).all fun i => decide (i = ia ∨ i = ib) || ((Region.before ops).getD k 0).testBit i) && ((Region.before ops).getD ib 0).testBit ia &&
 ((List.range ops.size).all fun i => (decide (i = ia) || !((zAn P n hs reg ops i).d == (zAn P n hs reg ops ia).d)) && (decide (i = zOt P n hs reg ops k) || !((zAn P n hs reg ops i).d == (zAn P n hs reg ops (zOt P n hs reg ops k)).d))) &&
 decide (zOt P n hs reg ops k < k)
def zYF (hs : List Hn) (reg : Nat) : Option (Nat × Nat × Nat) := hs.findSome? fun h => if h.reg == reg then (match h.k with | .chn a b => some (a,b,h.idx) | _ => none) else none
def zRh (P : Program) (n : Nat) (hs : List Hn) (id : Nat) (ops : Array Oper) (T : List Nat) (c : Nat × Nat × Nat) : Option LCode :=
 if zEn (chF P n hs id ops c.2.2) ops T && zAg ops && zHX P n hs id ops c.1 c.2.1 c.2.2 && P.follows .mixedOrders then
  some (.drawA (hdF (chF P n hs id ops c.2.2) ops.size T) (tlF (chF P n hs id ops c.2.2) ops T 0) [zAn P n hs id ops c.2.2]) else none
def zLa (P : Program) (n : Nat) (hs : List Hn) (reg : Nat) (ops : Array Oper) (ia is : Nat) : Nat → LO := fun j =>
 if j = ia then zFj else if j = is then (match (zAn P n hs reg ops is).op with
  | .store sz _ x => ⟨some n,none,.build (List.replicate sz (.v (.bool false))) [(0,sz,x)]⟩
  | _ => default) else zAn P n hs reg ops j
def zKa (P : Program) (n : Nat) (hs : List Hn) (reg : Nat) (ops : Array Oper) (ia is : Nat) : LO := match (zAn P n hs reg ops is).op with
 | .store _ _ x => ⟨(zAn P n hs reg ops ia).d,none,.box false x⟩
 | _ => default
def zJ9 (n : Nat) (a c : LO) : Bool := match a,c with
 | ⟨some d0,none,.alloc zs⟩,⟨none,none,.store sz (.t d1) (.t tv)⟩ => d0 == d1 && decide (d0 < n) && (zOZ zs && c1s zs) && decide (zs.length = sz) && !(tv == d0) && decide (tv < n)
 | _,_ => false
def zO1 (P : Program) (n : Nat) (hs : List Hn) (reg : Nat) (ops : Array Oper) (ia is : Nat) : Bool :=
 decide (ia < is ∧ is < ops.size) &&
 ((List.range ops.size).all fun i => ((ops[i]?).map fun o => (zAy P n (zAZ hs reg i) ops o).isSome) == some true) &&
 zJ9 n (zAn P n hs reg ops ia) (zAn P n hs reg ops is) && ((Region.before ops).getD is 0).testBit ia &&
 ((List.range ops.size).all fun i => decide (i = ia ∨ i = is) || (match (zAn P n hs reg ops ia).d with
  | some d0 => !((zAn P n hs reg ops i).d == some d0) && !((zAn P n hs reg ops i).rd.contains d0) && (match (zAn P n hs reg ops is).op with
   | .store _ _ x => ((Region.before ops).getD is 0).testBit i || x.rd.all fun t => !((zAn P n hs reg ops i).d == some t)
   | _ => false)
  | none => false))
def zXn (hs : List Hn) (reg : Nat) : Option (Nat × Nat) := hs.findSome? fun h => if h.reg == reg then (match h.k with | .var b => some (h.idx,b) | _ => none) else none
def varC (P : Program) (n : Nat) (hs : List Hn) (id : Nat) (ops : Array Oper) (T : List Nat) (c : Nat × Nat) : Option LCode :=
 if zEn (zLa P n hs id ops c.1 c.2) ops T && zAg ops && zO1 P n hs id ops c.1 c.2 && P.follows .mixedOrders then
  some (.drawA (hdF (zLa P n hs id ops c.1 c.2) ops.size T) (tlF (zLa P n hs id ops c.1 c.2) ops T 0) [zKa P n hs id ops c.1 c.2]) else none
def zUQ (P : Program) (n : Nat) (hs : List Hn) (id : Nat) (ops : Array Oper) (h : Nat) (T : List Nat) : Option LCode :=
 match zBi P n hs id ops (h + 2) (ops.toList.drop (h + 2)) with
 | some los => if zCT P n hs id (ops.extract 0 h) T && zAg (ops.extract 0 h) && zAg ops && zEh ops h && zIB P n hs id ops h && (zAb hs id h).isEmpty && P.follows .mixedOrders then
   some (.seq (.drawA (hdA P n hs id (ops.extract 0 h) T) (tlA P n hs id (ops.extract 0 h) T 0) []) (.ops (zAn P n hs id ops h :: zAn P n hs id ops (h + 1) :: los))) else none
 | none => none
def zEq (P : Program) (n : Nat) (hs : List Hn) : Code → Option LCode
 | .skip => some .skip
 | .region id ops false => if zRo hs id then zEk P n hs id ops 0 ops.toList else (zBi P n hs id ops 0 ops.toList).map .ops
 | .region id ops0 true =>
  let ops := zIA hs id ops0
  match zYA hs id with
  | some T => match zYF hs id with
   | some c => zRh P n hs id ops T c
   | none => match zXn hs id with
   | some c => varC P n hs id ops T c
   | none => if zDG hs id ops.size < ops.size then (if zCT P n hs id (ops.extract 0 (zDG hs id ops.size)) T && zAg (ops.extract 0 (zDG hs id ops.size)) && zAg ops && zEh ops (zDG hs id ops.size) && zIM P n hs id ops (zDG hs id ops.size) && (zAb hs id (zDG hs id ops.size)).isEmpty && P.follows .mixedOrders && zC5 n (zAb hs id ops.size) then
     some (.seq (.drawX (hdA P n hs id (ops.extract 0 (zDG hs id ops.size)) T) (tlX P n hs id (ops.extract 0 (zDG hs id ops.size)) T 0) []) (.ops ((List.range' (zDG hs id ops.size) (ops.size - zDG hs id ops.size)).map (zAn P n hs id ops) ++ zAb hs id ops.size))) else zUQ P n hs id ops (zDG hs id ops.size) T)
   else if zRo hs id then (if zCT P n hs id ops T && zAg ops && P.follows .mixedOrders && zC5 n (zAb hs id ops.size) then some (.drawX (hdA P n hs id ops T) (tlX P n hs id ops T 0) (zAb hs id ops.size)) else none)
   else if zCT P n hs id ops T && zAg ops && P.follows .mixedOrders && zC5 n (zAb hs id ops.size) then some (.drawA (hdA P n hs id ops T) (tlA P n hs id ops T 0) (zAb hs id ops.size)) else none
  | none =>
  let h := zUd hs id ops.size
  match zVp hs id with
  | some (p1,p2) =>
   match zGx P n hs id ops 0 (ops.toList.take h),zBi P n hs id ops p2 (ops.toList.drop p2) with
   | some hd,some post => if zHQ P n hs id ops hd h p1 p2 && zAg ops && P.follows .mixedOrders && decide (h ≤ p1) && decide (p1 ≤ p2) && decide (p2 ≤ ops.size) then
     some (.drawM hd ((List.range' h (p1 - h)).map (zAn P n hs id ops)) ((List.range' p1 (p2 - p1)).map (zAn P n hs id ops)) post) else none
   | _,_ => none
  | none =>
  match zGx P n hs id ops 0 (ops.toList.take h),zBi P n hs id ops h (ops.toList.drop h) with
  | some hd,some tl => if (zG4 ops hd h || zJZ P n hs id ops hd h) && zAg ops && P.follows .mixedOrders && decide (h ≤ ops.size) then some (.draw hd tl) else none
  | _,_ => none
 | .seq a b => match zEq P n hs a,zEq P n hs b with
  | some a,some b => some (.seq a b)
  | _,_ => none
 | .cond c a b => match lx n c,zEq P n hs a,zEq P n hs b with
  | some c,some a,some b => some (.cond c a b)
  | _,_,_ => none
 | .block id c => (zEq P n hs c).map (.block id)
 | .loop c => (zEq P n hs c).map .loop
 | .rangeFunc g ps a b => match lx n g,zEq P n hs a,zEq P n hs b with
  | some g,some a,some b => if nr a && nr b && ps.toList.all (fun p => decide (p < n)) then some (.range g ps.toList a b) else none
  | _,_,_ => none
 | .exit id => some (.exit id)
 | .ret => some .ret
 | _ => none
def zEj (P : Program) (n : Nat) : List ResultVar → Option (List RV)
 | [] => some []
 | .tmp t :: l => match zEj P n l with
  | some m => if t < n then some (.tmp t :: m) else none
  | none => none
 | .cell t ty :: l => match zEj P n l,zE9 P ty,zCB P ty with
  | some m,some ag,some sz => if t < n then some (.cell t ag sz :: m) else none
  | _,_,_ => none
def zAv (P : Program) (fn : Func) (hs : List Hn) : Option LFn :=
 match fn.body,zEj P fn.ntmps fn.results.toList with
 | some c,some rs => match zEq P fn.ntmps hs c with
  | some b => if fn.params.size + fn.nfree ≤ fn.ntmps ∧ (fn.name == "runtime.NumGoroutine") = false then some ⟨fn.ntmps, rs, b⟩ else none
  | none => none
 | _,_ => none
inductive LD where
 | seq (a : LCode) (b : LD)
 | cut (los : List LO) (f : LX) (args : List LX) (body : LCode)
def zNG (n : Nat) (o : Oper) : Option (LX × List LX) :=
 match o.op,o.guard,o.dst with
 | .defer ⟨.value f,args,_⟩,none,none => match lx n f,lxs n args.toList with
  | some f,some args => some (f,args)
  | _,_ => none
 | _,_,_ => none
def zHE (P : Program) (n : Nat) (ops : Array Oper) : List Oper → Option (List LO × LX × List LX)
 | [] => none
 | o :: l => match l with
  | [] => (zNG n o).map fun p => ([],p.1,p.2)
  | _ :: _ => match zAy P n false ops o,zHE P n ops l with
   | some lo,some p => some (lo :: p.1,p.2.1,p.2.2)
   | _,_ => none
def zQm (P : Program) (n : Nat) : Code → Option (List LO × LX × List LX)
 | .region _ ops false => zHE P n ops ops.toList
 | _ => none
def zWX (P : Program) (n : Nat) (hs : List Hn) : Code → Option LD
 | .seq a b => match zQm P n a with
  | some p => (zEq P n hs b).map fun m => .cut p.1 p.2.1 p.2.2 m
  | none => match zEq P n hs a,zWX P n hs b with
   | some a,some b => some (.seq a b)
   | _,_ => none
 | _ => none
structure zT3 where
 n : Nat
 res : List RV
 body : LD
def zNF (P : Program) (fn : Func) (hs : List Hn) : Option zT3 :=
 match fn.body,zEj P fn.ntmps fn.results.toList with
 | some c,some rs => match zWX P fn.ntmps hs c with
  | some b => if fn.params.size + fn.nfree ≤ fn.ntmps ∧ (fn.name == "runtime.NumGoroutine") = false then some ⟨fn.ntmps, rs, b⟩ else none
  | none => none
 | _,_ => none
def zFk (P : Program) (n : Nat) (hs : List Hn) : Code → Option LCode
 | .seq a b => match zFk P n hs a,zFk P n hs b with
  | some a,some b => some (.seq a b)
  | _,_ => none
 | .block id c => (zFk P n hs c).map (.block id)
 | .rangeFunc g ps a b => match lx n g,zEq P n hs a,zFk P n hs b with
  | some g,some a,some b => if nr a && ps.toList.all (fun p => decide (p < n)) then some (.range g ps.toList a b) else none
  | _,_,_ => none
 | c => match zEq P n hs c with
  | some lc => if nr lc = true then some lc else none
  | none => none
def zPV (P : Program) (n : Nat) (hs : List Hn) : Code → Option LD
 | .seq a b => match zQm P n a with
  | some p => (zFk P n hs b).map fun m => .cut p.1 p.2.1 p.2.2 m
  | none => match zEq P n hs a,zPV P n hs b with
   | some a,some b => some (.seq a b)
   | _,_ => none
 | _ => none
def zJM (P : Program) (fn : Func) (hs : List Hn) : Option zT3 :=
 match fn.body,zEj P fn.ntmps fn.results.toList with
 | some c,some rs => match zPV P fn.ntmps hs c with
  | some b => if fn.params.size + fn.nfree ≤ fn.ntmps ∧ (fn.name == "runtime.NumGoroutine") = false then some ⟨fn.ntmps, rs, b⟩ else none
  | none => none
 | _,_ => none
def zMQ (o : Oper) : Option Nat :=
 match o.op,o.guard,o.dst with
 | .call ⟨.builtin .recover,_,_⟩,none,some d => some d
 | _,_,_ => none
def zSt (d : Nat) (o : Oper) : Option Nat :=
 match o.op,o.guard,o.dst with
 | .move (.tmp d'),none,some d2 => if d' = d then some d2 else none
 | .assign (.tmp d'),none,some d2 => if d' = d then some d2 else none
 | _,_,_ => none
def zQM (ops : List Oper) : Option (List Nat) :=
 match ops with
 | [o] => (zMQ o).map fun d => [d]
 | [o,o1] => match zMQ o with
  | some d => (zSt d o1).map fun d2 => [d,d2]
  | none => none
 | _ => none
structure zXf where
 n : Nat
 sl : List Nat
 body : LCode
def zKE (P : Program) (fn : Func) (hs : List Hn) : Option zXf :=
 match fn.body with
 | some (.seq (.region _ ops false) rest) => match zQM ops.toList,zEq P fn.ntmps hs rest with
  | some sl,some b => if nr b = true ∧ fn.results.toList = [] ∧ sl.all (fun d => decide (d < fn.ntmps)) = true then some ⟨fn.ntmps,sl,b⟩ else none
  | _,_ => none
 | _ => none
section
variable {w w' : World} {X : Nat → Prop} {ρ ρ' : Nat → Loc} {H : zA}
theorem Own.lt (h : HRel w X ρ H) {b : Nat} (hb : Own ρ H.length b) : b < w.heap.size := by
 obtain ⟨r,o,hr,hb⟩ := hb
 exact (h.lt r b o hr hb).1
theorem zPR {n n' : Nat} (hf : Fut w ρ n w' ρ' n') : ∀ b,b < w.heap.size → ¬ Mut X ρ n b → ¬ Mut X ρ' n' b := by
 intro b hb hm hm'
 rcases hm' with hx | ho
 ·exact hm (.inl hx)
 ·rcases hf.own b ho with h1 | h1
  ·exact hm (.inr h1)
  ·omega
theorem zSs {n : Nat} : ∀ b,¬ Mut X ρ n b → ¬ Own ρ n b := fun _ hm ho => hm (.inr ho)
theorem Rep.next {n n' k : Nat} (hf : Fut w ρ n w' ρ' n') {x : AV} {u : Value} (h : Rep w (Mut X ρ n) ρ k x u) (hk : k ≤ n) : Rep w' (Mut X ρ' n') ρ' k x u :=
 h.fut hf (zPR hf) zSs hk
theorem Rep.nextN {n n' : Nat} (hf : Fut w ρ n w' ρ' n') {x : AV} {u : Value} (h : Rep w (Mut X ρ n) ρ n x u) : Rep w' (Mut X ρ' n') ρ' n' x u :=
 (h.next hf (zZa _)).mono hf.len
theorem ObjOk.next {n n' : Nat} {l : Loc} {o : HO} (h : ObjOk w (Mut X ρ n) ρ n l o) (hf : Fut w ρ n w' ρ' n') (hb : ∀ b o',l.blk = some (b,o') → w'.heap[b]? = w.heap[b]?) :
  ObjOk w' (Mut X ρ' n') ρ' n' l o := by
 cases o with
 | dead => trivial
 | box cs =>
  obtain ⟨h1,b,c,e,fr,h2,h3,h4,h5,h6⟩ := h
  exact ⟨h1,b,c,e,fr,h2,by rw [hb b 0 h2]; exact h3,h4,h5,fun j y u hy hu => ⟨(h6 j y u hy hu).1.nextN hf,(h6 j y u hy hu).2⟩⟩
 | arr ver sz xs =>
  obtain ⟨h1,h2,h3,h4,h5,h6⟩ := h
  refine ⟨h1,h2,h3,h4,h5,?_⟩
  split
  ·rename_i hl; rw [hl] at h6; exact h6
  ·rename_i b o hl
   rw [hl] at h6
   obtain ⟨c,e,fr,g1,g2,g3,g4⟩ := h6
   exact ⟨c,e,fr,by rw [hb b o hl]; exact g1,g2,g3,fun i j x y u hx hy hu => ⟨(g4 i j x y u hx hy hu).1.nextN hf,(g4 i j x y u hx hy hu).2⟩⟩
 | map ver ks vs =>
  obtain ⟨h1,b,es,clock,h2,h3,h4,h5,h6⟩ := h
  exact ⟨h1,b,es,clock,h2,by rw [hb b 0 h2]; exact h3,h4,h5,fun i x e hx he => (h6 i x e hx he).next hf (zZm _)⟩
 | iter s pos =>
  obtain ⟨h1,b,h2,h3⟩ := h
  exact ⟨h1,b,h2,by rw [hb b 0 h2]; exact h3⟩
 | lp b lr e st =>
  obtain ⟨h1,h2,h3,h4⟩ := h
  exact ⟨h1,h2,by rw [hb b 0 h2]; exact h3,fun t u hu => (h4 t u hu).nextN hf⟩
 | mit ks vs left cur =>
  obtain ⟨h1,b,m,es,clock,since,seen,c0,h2,h3,h4,h5,h6⟩ := h
  refine ⟨h1,b,m,es,clock,since,seen,c0,h2,by rw [hb b 0 h2]; exact h3,?_,h5.next hf (zZm _),h6⟩
  cases h5 with
  | mp _ _ _ _ _ _ hm hlt _ _ _ _ => rw [hf.keep m hlt fun ho => hm (.inr ho)]; exact h4
 | barr t ver bl =>
  obtain ⟨h1,h2,h3,h4⟩ := h
  refine ⟨h1,h2,h3,?_⟩
  split
  ·rename_i hl; rw [hl] at h4; exact h4
  ·rename_i b o hl
   rw [hl] at h4
   obtain ⟨c,fr,g1,g2,g3,g4⟩ := h4
   exact ⟨c,fr,by rw [hb b o hl]; exact g1,g2,g3,g4⟩
structure Same (w w' : World) : Prop where
 os : w'.os = w.os
 tape : w'.tape = w.tape
 output : w'.output = w.output
 size : w.heap.size ≤ w'.heap.size
theorem Same.refl (w : World) : Same w w := ⟨rfl,rfl,rfl,zZa _⟩
theorem Same.drew (w : World) : Same w w.drew := ⟨rfl,rfl,rfl,zZa _⟩
theorem Same.alloc (w : World) (o : Obj) : Same w (w.alloc o) := ⟨rfl,rfl,rfl,by simp⟩
theorem Same.trans {a b c : World} (h : Same a b) (k : Same b c) : Same a c := ⟨k.os.trans h.os,k.tape.trans h.tape,k.output.trans h.output,zZ3 h.size k.size⟩
theorem HRel.more (h : HRel w X ρ H) (hs : Same w w') (keep : ∀ b,b < w.heap.size → w'.heap[b]? = w.heap[b]?) : HRel w' X ρ H ∧ Fut w ρ H.length w' ρ H.length := by
 have hf : Fut w ρ H.length w' ρ H.length := ⟨hs.os,hs.tape,hs.output,hs.size,fun b hb _ => keep b hb,fun b hb => .inl hb,zZa _,fun _ _ => .inl rfl⟩
 refine ⟨⟨fun r o hr => ?_,h.inj,fun r b o hr hb => ⟨zZl (h.lt r b o hr hb).1 hs.size,(h.lt r b o hr hb).2⟩,fun b hb => zZl (h.xlt b hb) hs.size,h.gl.fut hf⟩,hf⟩
 have hlt : r < H.length := (zYU.1 hr).1
 exact (h.objs r o hr).next hf fun b o' hb => keep b (h.lt r b o' hlt hb).1
theorem HRel.setAtX (h : HRel w X ρ H) {r : Nat} (hr : r < H.length) (l : Loc) (ho : HO) (hs : Same w w')
  (hl : l = ρ r ∨ (ρ r).ver < l.ver) (hb : ∀ b o,l.blk = some (b,o) → (∃ o',(ρ r).blk = some (b,o')) ∨ (w.heap.size ≤ b ∧ b < w'.heap.size))
  (keep : ∀ b,b < w.heap.size → (∀ o,(ρ r).blk ≠ some (b,o)) → w'.heap[b]? = w.heap[b]?)
  (hobj : ∀ ρ',ρ' = (fun i => if i = r then l else ρ i) → Fut w ρ H.length w' ρ' H.length → ObjOk w' (Mut X ρ' H.length) ρ' H.length l ho) :
  ∃ ρ',ρ' r = l ∧ (∀ i,i ≠ r → ρ' i = ρ i) ∧ HRel w' X ρ' (H.set r ho) ∧ Fut w ρ H.length w' ρ' (H.set r ho).length := by
 refine ⟨fun i => if i = r then l else ρ i,by simp,fun i hi => by simp [hi],?_⟩
 generalize hρ' : (fun i => if i = r then l else ρ i) = ρ'
 have hpr : ρ' r = l := by subst hρ'; simp
 have hpo : ∀ i,i ≠ r → ρ' i = ρ i := fun i hi => by subst hρ'; simp [hi]
 have hxb : ∀ i b o,i < H.length → (ρ' i).blk = some (b,o) → Own ρ H.length b ∨ (w.heap.size ≤ b ∧ b < w'.heap.size) := by
  intro i b o hi hbl
  by_cases hir : i = r
  ·subst hir
   rw [hpr] at hbl
   rcases hb b o hbl with ⟨o',h1⟩ | h1
   ·exact .inl ⟨i,o',hi,h1⟩
   ·exact .inr h1
  ·rw [hpo i hir] at hbl; exact .inl ⟨i,o,hi,hbl⟩
 have hf : Fut w ρ H.length w' ρ' H.length :=
  ⟨hs.os,hs.tape,hs.output,hs.size,fun b hb' ho' => keep b hb' fun o he => ho' ⟨r,o,hr,he⟩,fun b ⟨i,o,hi,hbl⟩ => (hxb i b o hi hbl).imp id (·.1),zZa _,
   fun i hi => by
    by_cases hir : i = r
    ·subst hir; rw [hpr]; exact hl
    ·exact .inl (hpo i hir)⟩
 have hob := hobj ρ' hρ'.symm hf
 have hlen : (H.set r ho).length = H.length := zZc
 rw [hlen]
 refine ⟨⟨?_,?_,?_,fun b hb' => zZl (h.xlt b hb') hs.size,hlen ▸ h.gl.fut hf⟩,hf⟩
 ·intro i o hi
  rw [hlen]
  by_cases hir : i = r
  ·subst hir
   rw [zZs hr] at hi
   simp only [zYT] at hi
   subst hi
   rw [hpr]
   exact hob
  ·rw [zZj (fun e => hir e.symm)] at hi
   have hlt : i < H.length := (zYU.1 hi).1
   rw [hpo i hir]
   exact (h.objs i o hi).next hf fun b o' hbl => keep b (h.lt i b o' hlt hbl).1 fun o'' he => h.inj i r b o' b o'' hlt hr hir hbl he rfl
 ·intro i j b o b' o' hi hj hij hbi hbj
  rw [hlen] at hi hj
  by_cases hir : i = r
  ·have hjr : j ≠ r := fun e => hij (hir.trans e.symm)
   rw [hir,hpr] at hbi
   rw [hpo j hjr] at hbj
   have hlj := (h.lt j b' o' hj hbj).1
   rcases hb b o hbi with ⟨o1,h1⟩ | h1
   ·exact h.inj r j b o1 b' o' hr hj (fun e => hjr e.symm) h1 hbj
   ·omega
  ·rw [hpo i hir] at hbi
   have hli := (h.lt i b o hi hbi).1
   by_cases hjr : j = r
   ·rw [hjr,hpr] at hbj
    rcases hb b' o' hbj with ⟨o1,h1⟩ | h1
    ·exact h.inj i r b o b' o1 hi hr hir hbi h1
    ·omega
   ·rw [hpo j hjr] at hbj
    exact h.inj i j b o b' o' hi hj hij hbi hbj
 ·intro i b o hi hbl
  rw [hlen] at hi
  rcases hxb i b o hi hbl with h1 | ⟨h1,h2⟩
  ·refine ⟨zZl (h1.lt h) hs.size,?_⟩
   obtain ⟨j,o',hj,hbj⟩ := h1
   exact (h.lt j b o' hj hbj).2
  ·exact ⟨h2,fun hx => by have := h.xlt b hx; omega⟩
theorem HRel.setAt (h : HRel w X ρ H) {r : Nat} (hr : r < H.length) (l : Loc) (ho : HO) (hs : Same w w')
  (hl : l = ρ r ∨ (ρ r).ver < l.ver) (hb : ∀ b o,l.blk = some (b,o) → (∃ o',(ρ r).blk = some (b,o')) ∨ (w.heap.size ≤ b ∧ b < w'.heap.size))
  (keep : ∀ b,b < w.heap.size → (∀ o,(ρ r).blk ≠ some (b,o)) → w'.heap[b]? = w.heap[b]?)
  (hobj : ∀ ρ',ρ' = (fun i => if i = r then l else ρ i) → Fut w ρ H.length w' ρ' H.length → ObjOk w' (Mut X ρ' H.length) ρ' H.length l ho) :
  ∃ ρ',ρ' r = l ∧ HRel w' X ρ' (H.set r ho) ∧ Fut w ρ H.length w' ρ' (H.set r ho).length := by
 obtain ⟨ρ',h1,_,h2,h3⟩ := h.setAtX hr l ho hs hl hb keep hobj
 exact ⟨ρ',h1,h2,h3⟩
theorem HRel.push (h : HRel w X ρ H) (l : Loc) (ho : HO) (hs : Same w w') (hb : ∀ b o,l.blk = some (b,o) → w.heap.size ≤ b ∧ b < w'.heap.size)
  (keep : ∀ b,b < w.heap.size → w'.heap[b]? = w.heap[b]?)
  (hobj : ∀ ρ',Fut w ρ H.length w' ρ' (H.length + 1) → ρ' H.length = l → ObjOk w' (Mut X ρ' (H.length + 1)) ρ' (H.length + 1) l ho) :
  ∃ ρ',ρ' H.length = l ∧ HRel w' X ρ' (H ++ [ho]) ∧ Fut w ρ H.length w' ρ' (H ++ [ho]).length := by
 refine ⟨fun i => if i = H.length then l else ρ i,by simp,?_⟩
 generalize hρ' : (fun i => if i = H.length then l else ρ i) = ρ'
 have hpr : ρ' H.length = l := by subst hρ'; simp
 have hpo : ∀ i,i < H.length → ρ' i = ρ i := fun i hi => by subst hρ'; simp [Nat.ne_of_lt hi]
 have hxb : ∀ i b o,i < H.length + 1 → (ρ' i).blk = some (b,o) → Own ρ H.length b ∨ (w.heap.size ≤ b ∧ b < w'.heap.size) := by
  intro i b o hi hbl
  by_cases hir : i = H.length
  ·subst hir
   rw [hpr] at hbl
   exact .inr (hb b o hbl)
  ·rw [hpo i (by omega)] at hbl; exact .inl ⟨i,o,by omega,hbl⟩
 have hf : Fut w ρ H.length w' ρ' (H.length + 1) :=
  ⟨hs.os,hs.tape,hs.output,hs.size,fun b hb' _ => keep b hb',fun b ⟨i,o,hi,hbl⟩ => (hxb i b o hi hbl).imp id (·.1),Nat.le_succ _,fun i hi => .inl (hpo i hi)⟩
 have hob := hobj ρ' hf hpr
 have hlen : (H ++ [ho]).length = H.length + 1 := by simp
 rw [hlen]
 refine ⟨⟨?_,?_,?_,fun b hb' => zZl (h.xlt b hb') hs.size,hlen ▸ h.gl.fut hf⟩,hf⟩
 ·intro i o hi
  rw [hlen]
  by_cases hir : i = H.length
  ·subst hir
   simp at hi
   subst hi
   rw [hpr]
   exact hob
  ·have hlt : i < H.length := by
    have := (zYU.1 hi).1
    simp at this
    omega
   rw [zY2 hlt] at hi
   rw [hpo i hlt]
   exact (h.objs i o hi).next hf fun b o' hbl => keep b (h.lt i b o' hlt hbl).1
 ·intro i j b o b' o' hi hj hij hbi hbj
  rw [hlen] at hi hj
  by_cases hir : i = H.length
  ·rw [hir,hpr] at hbi
   rw [hpo j (by omega)] at hbj
   have hlj := (h.lt j b' o' (by omega) hbj).1
   have := (hb b o hbi).1
   omega
  ·rw [hpo i (by omega)] at hbi
   have hli := (h.lt i b o (by omega) hbi).1
   by_cases hjr : j = H.length
   ·rw [hjr,hpr] at hbj
    have := (hb b' o' hbj).1
    omega
   ·rw [hpo j (by omega)] at hbj
    exact h.inj i j b o b' o' (by omega) (by omega) hij hbi hbj
 ·intro i b o hi hbl
  rw [hlen] at hi
  rcases hxb i b o hi hbl with h1 | ⟨h1,h2⟩
  ·refine ⟨zZl (h1.lt h) hs.size,?_⟩
   obtain ⟨j,o',hj,hbj⟩ := h1
   exact (h.lt j b o' hj hbj).2
  ·exact ⟨h2,fun hx => by have := h.xlt b hx; omega⟩
theorem zAN (w : World) (o : Obj) : ∀ b,b < w.heap.size → (w.alloc o).heap[b]? = w.heap[b]? := fun b hb => Below.heap_alloc w o b hb
end
def zYR (w : World) (M : Nat → Prop) (ρ : Nat → Loc) (k n : Nat) (e : Env) (a : Act) : Prop := ∀ t,t < n → Rep w M ρ k (e t) (a.tmps.getD t undef)
def zAP (P : Program) (s : Sem Value) (w : World) (X : Nat → Prop) (ρ : Nat → Loc) (H : zA) (r : Res) : Prop :=
 r.ok → ∃ u w' ρ',s.run P w = .ok u w' ∧ HRel w' X ρ' r.H ∧ Rep w' (Mut X ρ' r.H.length) ρ' r.H.length r.x u ∧ Fut w ρ H.length w' ρ' r.H.length
def zOP (P : Program) (s : Sem Unit) (w : World) (X : Nat → Prop) (ρ : Nat → Loc) (H : zA) (r : Res) : Prop :=
 r.ok → r.x = .any ∧ ∃ w' ρ',s.run P w = .ok () w' ∧ HRel w' X ρ' r.H ∧ Fut w ρ H.length w' ρ' r.H.length
section
variable {P : Program} {w : World} {X : Nat → Prop} {ρ : Nat → Loc} {H : zA}
theorem zE {s : Sem Value} : zAP P s w X ρ H (.no H) := fun h => h.elim
theorem zR {s : Sem Value} {p : Prop} {x : AV} (h : HRel w X ρ H) (f : p → ∃ u,s.run P w = .ok u w ∧ Rep w (Mut X ρ H.length) ρ H.length x u) : zAP P s w X ρ H ⟨p,x,H⟩ := by
 intro hp
 obtain ⟨u,h1,h2⟩ := f hp
 exact ⟨u,w,ρ,h1,h,h2,Fut.refl _ _ _⟩
theorem zBX {s : Sem Value} {p : Prop} {r : Res} (f : p → zAP P s w X ρ H r) : zAP P s w X ρ H (r.also p) := fun ⟨hp,hr⟩ => f hp hr
theorem zL8 {M : Nat → Prop} {k : Nat} (v : Value) : Rep w M ρ k (zRe v) v := by
 cases v with
 | agg us =>
  refine .agg _ _ _ (by simp) fun i x u hx hu => ?_
  ·rw [zZy,zZT,hu,zZt,zYT] at hx
   subst hx
   exact .v _ _
 | _ => exact .v _ _
theorem zV {M : Nat → Prop} {k n : Nat} {e : Env} {a : Act} (he : zYR w M ρ k n e a) {o : Operand} {x : LX} (h : lx n o = some x) : Rep w M ρ k (ev e x) (a.eval o) := by
 cases o with
 | tmp t =>
  simp only [lx] at h
  split at h
  ·rename_i ht
   simp only [zYT] at h
   subst h
   exact he t ht
  ·cases h
 | const v =>
  simp only [lx,zYT] at h
  subst h
  exact zL8 v
 | func f =>
  simp only [lx,zYT] at h
  subst h
  exact .fn _ _ _ _ _ _ rfl rfl (fun i x u hx _ => by simp at hx) (fun i x u hx _ => by simp at hx)
 | global g => simp [lx] at h
theorem zMO {M : Nat → Prop} {k : Nat} {x : AV} {u : Value} (h : Rep w M ρ k x u) (hc : c1 x = true) : one u = true := by
 cases h <;> first | rfl | assumption | (simp [c1] at hc; done) | exact hc
theorem zB5 {M : Nat → Prop} {k : Nat} {x : AV} {u : Value} (h : Rep w M ρ k x u) (hc : c1s (cellsOf x) = true) :
  (cellsOf x).length = u.cells.size ∧ ∀ (i : Nat) (y : AV) (v : Value),(cellsOf x)[i]? = some y → u.cells[i]? = some v → Rep w M ρ k y v ∧ one v = true := by
 by_cases hx : ∃ cs,x = .agg cs
 ·obtain ⟨cs,rfl⟩ := hx
  cases h with
  | agg n cs us hl hr =>
   refine ⟨hl,fun i y v hy hv => ⟨hr i y v hy hv,?_⟩⟩
   refine zMO (hr i y v hy hv) ?_
   simp only [cellsOf,c1s,zZb] at hc
   exact hc y (zZp hy)
 ·have h1 : cellsOf x = [x] := by
   cases x <;> first | rfl | exact absurd ⟨_,rfl⟩ hx
  rw [h1] at hc ⊢
  have hc1 : c1 x = true := by simpa [c1s] using hc
  have hu := zMO h hc1
  have h2 : u.cells = #[u] := by cases u <;> first | rfl | (simp [one] at hu)
  rw [h2]
  refine ⟨rfl,fun i y v hy hv => ?_⟩
  cases i with
  | zero => simp at hy hv; subst hy; subst hv; exact ⟨h,hu⟩
  | succ i => simp at hy
theorem zFp {t : TypeId} {ag : Bool} (h : zE9 P t = some ag) : (isAgg t).run P w = .ok ag w := by
 unfold zE9 at h
 cases hd : P.underlying t with
 | none => simp [hd] at h
 | some d =>
  simp only [hd] at h
  unfold isAgg
  cases d <;> simp at h <;> subst h <;> simp [run_underlying hd]
theorem zBK {t : TypeId} {n : Nat} (h : zCB P t = some n) : (sizeOf t).run P w = .ok n w := by
 unfold zCB at h
 cases hi : P.info? t with
 | none => simp [hi] at h
 | some i =>
  simp [hi] at h
  subst h
  simp [sizeOf,typeInfo,hi]
theorem zCr {t : TypeId} {ag : Bool} {n : Nat} (hag : zE9 P t = some ag) (hsz : zCB P t = some n) {M : Nat → Prop} {k b o : Nat} {cs : List AV} (hn : n ≤ cs.length) (h1 : ag = true ∨ n = 1) (c : Nat → Value)
  (hc : ∀ j,j < n → w.cell? ⟨b,o + j,none⟩ = some (c j)) (hr : ∀ j y,j < n → cs[j]? = some y → Rep w M ρ k y (c j)) :
  ∃ u,(loadVar t ⟨b,o,none⟩).run P w = .ok u w ∧ Rep w M ρ k (cellsV ag n cs) u := by
 unfold loadVar
 cases ag with
 | true =>
  refine ⟨.agg ((List.range n).map c).toArray,?_,?_⟩
  ·simp only [Sem.run_bind,zFp hag,zBK hsz,Result.andThen_ok,if_true,Sem.run_ite]
   rw [run_loadCells w ⟨b,o,none⟩ n c (fun j hj => by rw [Addr.add_lit]; exact hc j hj)]
   simp
  ·simp only [cellsV,if_true]
   refine .agg _ _ _ (by simp; omega) fun i x u hx hu => ?_
   simp only [zZP] at hx
   split at hx
   ·rename_i hi
    simp [hi] at hu
    subst hu
    exact hr i x hi hx
   ·cases hx
 | false =>
  have hn1 : n = 1 := by simpa using h1
  subst hn1
  refine ⟨c 0,?_,?_⟩
  ·simp only [Sem.run_bind,zFp hag,Result.andThen_ok,zZn,if_false,Sem.run_ite]
   rw [run_load]
   have := hc 0 (by omega)
   simp only [zZJ] at this
   rw [this]
  ·simp only [cellsV,zZn,if_false]
   cases cs with
   | nil => simp at hn
   | cons y cs => exact hr 0 y (by omega) rfl
theorem zAD {b : Nat} {c : Array Value} {el : TypeId} {fr : Nat × Nat} (h : w.heap[b]? = some (.cells c el fr)) (j : Nat) : w.cell? ⟨b,j,none⟩ = c[j]? := by
 simp [World.cell?,h]
theorem zAY {i sz j n : Nat} (hi : i < n) (hj : j < sz) : i * sz + j < n * sz := by
 have : (i + 1) * sz ≤ n * sz := zZB _ hi
 rw [zZO] at this
 omega
theorem zC3 {o : Option HO} (h : isBox o) : ∃ cs,o = some (.box cs) := by
 cases o with
 | none => cases h
 | some x => cases x <;> first | exact ⟨_,rfl⟩ | cases h
theorem zBo {o : Option HO} (h : isArr o) : ∃ v sz xs,o = some (.arr v sz xs) := by
 cases o with
 | none => cases h
 | some x => cases x <;> first | exact ⟨_,_,_,rfl⟩ | cases h
theorem zCQ (h : HRel w X ρ H) {r ver off : Nat} {u : Value} (hx : Rep w (Mut X ρ H.length) ρ H.length (.ptr r ver off) u) {cs : List AV} (ho : H[r]? = some (.box cs)) (hv : ver = 0) :
  r < H.length ∧ ∃ b c e fr,(ρ r).blk = some (b,0) ∧ u = .pointer (some ⟨b,off,none⟩) ∧ w.heap[b]? = some (.cells c e fr) ∧ cs.length = c.size ∧ zMg fr c.size ∧ (ρ r).ver = 0 ∧
   ∀ (j : Nat) (y : AV) (u : Value),cs[j]? = some y → c[j]? = some u → Rep w (Mut X ρ H.length) ρ H.length y u ∧ one u = true := by
 obtain ⟨h1,b,c,e,fr,h2,h3,h4,h5,h6⟩ := h.objs r _ ho
 cases hx with
 | ptr _ _ _ _ _ hr hle hone hp =>
  subst hv
  obtain ⟨b',o',hb,hu⟩ := hp h1.symm
  rw [h2] at hb
  simp only [zYT,zZi] at hb
  obtain ⟨rfl,rfl⟩ := hb
  exact ⟨hr,b,c,e,fr,h2,by simpa using hu,h3,h4,h5.1,h1,h6⟩
theorem zNb (h : HRel w X ρ H) {r ver i off : Nat} {u : Value} (hx : Rep w (Mut X ρ H.length) ρ H.length (.pe r ver i off) u) {v sz : Nat} {xs : List (List AV)} (ho : H[r]? = some (.arr v sz xs)) (hv : ver = v) (_hi : i < xs.length) :
  r < H.length ∧ ∃ b o c e fr,(ρ r).blk = some (b,o) ∧ u = .pointer (some ⟨b,o + (i * sz + off),none⟩) ∧ w.heap[b]? = some (.cells c e fr) ∧ o + (ρ r).ext ≤ c.size ∧ zMg fr c.size ∧ xs.length * sz ≤ (ρ r).ext ∧
   (∀ x ∈ xs,x.length = sz) ∧ 0 < sz ∧ (ρ r).ver = ver ∧ (ρ r).sz = sz ∧ ∀ (i j : Nat) (x : List AV) (y : AV) (u : Value),xs[i]? = some x → x[j]? = some y → c[o + i * sz + j]? = some u → Rep w (Mut X ρ H.length) ρ H.length y u ∧ one u = true := by
 obtain ⟨h1,h2,h3,h4,h5,h6⟩ := h.objs r _ ho
 cases hx with
 | pe _ _ _ _ _ _ hr hle hone hp =>
  subst hv
  obtain ⟨b',o',hb,hu⟩ := hp h1.symm
  rw [hb] at h6
  obtain ⟨c,e,fr,g1,g2,g3,g4⟩ := h6
  rw [h2] at hu
  exact ⟨hr,b',o',c,e,fr,hb,hu,g1,g2,g3,h5,h4,h3,h1,h2,g4⟩
theorem zKl {t : TypeId} {ag : Bool} {n : Nat} (hag : zE9 P t = some ag) (hsz : zCB P t = some n) (h : HRel w X ρ H) {p : AV} {u : Value} (hp : Rep w (Mut X ρ H.length) ρ H.length p u) :
  zAP P (Instr.loadAt t u) w X ρ H (rLoad ag n p H) := by
 have at_ : ∀ a : Addr,Instr.loadAt t (.pointer (some a)) = loadVar t a := fun a => rfl
 cases p with
 | vp cs off =>
  simp only [rLoad]
  refine zR h fun ⟨h1,h2⟩ => ?_
  cases hp with
  | vp _ _ _ b o c hm hb hcell hrep =>
   rw [at_]
   refine zCr hag hsz (cs := cs.drop off) (by simp; omega) h2 (fun j => c (off + j)) (fun j hj => ?_) (fun j y hj hy => ?_)
   ·have hlt : off + j < cs.length := by omega
    have := hcell (off + j) cs[off + j] (by simp [hlt])
    rw [zzar]
    exact this.1
   ·rw [zZQ] at hy
    exact (hrep _ _ hy).mono (zZm _)
 | ptr r ver off =>
  simp only [rLoad]
  refine zBX fun ⟨hb,hv⟩ => ?_
  obtain ⟨cs,ho⟩ := zC3 hb
  rw [ho] at hv ⊢
  simp only [isVer] at hv
  simp only [rLoadO]
  refine zR h fun ⟨h1,h2⟩ => ?_
  obtain ⟨hr,b,c,e,fr,hblk,rfl,hh,hl,hfr,_,hrep⟩ := zCQ h hp ho hv
  rw [at_]
  refine zCr hag hsz (cs := cs.drop off) (by simp; omega) h2 (fun j => c.getD (off + j) undef) (fun j hj => ?_) (fun j y hj hy => ?_)
  ·rw [zAD hh]
   have hlt : off + j < c.size := by omega
   simp [hlt]
  ·rw [zZQ] at hy
   have hlt : off + j < c.size := by omega
   exact (hrep _ _ _ hy (by simp [hlt])).1
 | pe r ver i off =>
  simp only [rLoad]
  refine zBX fun ⟨hb,hv⟩ => ?_
  obtain ⟨v,sz,xs,ho⟩ := zBo hb
  rw [ho] at hv ⊢
  simp only [isVer] at hv
  simp only [rLoadO]
  refine zR h fun ⟨h0,h1,h2⟩ => ?_
  obtain ⟨hr,b,o,c,e,fr,hblk,rfl,hh,hext,hfr,hle,hrow,hsz0,_,_,hrep⟩ := zNb h hp ho hv h0
  rw [at_]
  have hx : xs[i]? = some (xs.getD i []) := by simp [h0]
  have hxl : (xs.getD i []).length = sz := hrow _ (zZp hx)
  have hlt : ∀ j,j < n → o + i * sz + (off + j) < c.size := fun j hj => by
   have := zAY (sz := sz) (j := off + j) h0 (by omega)
   omega
  refine zCr hag hsz (cs := (xs.getD i []).drop off) (by simp only [zzai]; omega) h2 (fun j => c.getD (o + i * sz + (off + j)) undef) (fun j hj => ?_) (fun j y hj hy => ?_)
  ·rw [zAD hh]
   have := hlt j hj
   rw [show o + (i * sz + off) + j = o + i * sz + (off + j) by omega]
   simp [this]
  ·rw [zZQ] at hy
   exact (hrep i (off + j) _ _ _ hx hy (by simp [hlt j hj])).1
 | _ => exact zE
end
section
variable {P : Program} {w : World} {X : Nat → Prop} {ρ : Nat → Loc} {H : zA}
abbrev Rp (w : World) (X : Nat → Prop) (ρ : Nat → Loc) (H : zA) (x : AV) (u : Value) : Prop := Rep w (Mut X ρ H.length) ρ H.length x u
theorem zAJ {x u : Value} (h : Rp w X ρ H (.v x) u) : u = x := by cases h; rfl
theorem zUG {f : Fn} {a b : List AV} {u : Value} (h : Rp w X ρ H (.fn f a b) u) : ∃ fs us,u = .func f fs us := by cases h; exact ⟨_,_,rfl⟩
theorem zFN (s : ByteArray) : s.toList = bs s := by rw [ByteArray.toList_eq]; rfl
theorem zOF (a b : ByteArray) : a ++ b = mkS (bs a ++ bs b) := by
 apply ByteArray.ext
 simp [mkS,bs,ByteArray.data_append]
theorem zA0 {s : Sem Value} {p : Prop} {x : Value} (h : HRel w X ρ H) (f : p → s.run P w = .ok x w) : zAP P s w X ρ H ⟨p,.v x,H⟩ :=
 zR h fun hp => ⟨x,f hp,.v _ _⟩
theorem zRK {x : AV} {u : Value} (h : HRel w X ρ H) (hx : Rp w X ρ H x u) : zAP P (Op.unary .not u) w X ρ H (rNot x H) := by
 cases x with
 | v x =>
  have := zAJ hx; subst this
  cases u <;> first | exact zE | exact zA0 h fun _ => rfl
 | _ => exact zE
theorem zRL {x : AV} {u : Value} (h : HRel w X ρ H) (hx : Rp w X ρ H x u) : zAP P (Op.unary .neg u) w X ρ H (rNeg x H) := by
 cases x with
 | v x =>
  have := zAJ hx; subst this
  cases u <;> first | exact zE | exact zA0 h fun _ => rfl
 | _ => exact zE
theorem zRN {x y : AV} {u v : Value} {ts : Array TypeId} {ty : TypeId} (h : HRel w X ρ H) (hx : Rp w X ρ H x u) (hy : Rp w X ρ H y v) : zAP P (Builtin.min_ ts ty #[u,v]) w X ρ H (rMin x y H) := by
 cases x with
 | v x =>
  have := zAJ hx; subst this
  cases y with
  | v y =>
   have := zAJ hy; subst this
   cases u <;> first | exact zE | skip
   cases v <;> first | exact zE | exact zA0 h fun _ => rfl
  | _ => cases u <;> exact zE
 | _ => exact zE
theorem zRO {x y : AV} {u v : Value} {ts : Array TypeId} {ty : TypeId} (h : HRel w X ρ H) (hx : Rp w X ρ H x u) (hy : Rp w X ρ H y v) : zAP P (Builtin.max_ ts ty #[u,v]) w X ρ H (rMax x y H) := by
 cases x with
 | v x =>
  have := zAJ hx; subst this
  cases y with
  | v y =>
   have := zAJ hy; subst this
   cases u <;> first | exact zE | skip
   cases v <;> first | exact zE | exact zA0 h fun _ => rfl
  | _ => cases u <;> exact zE
 | _ => exact zE
theorem zPl {x y z : AV} {u v t : Value} {ts : Array TypeId} {ty : TypeId} (h : HRel w X ρ H) (hx : Rp w X ρ H x u) (hy : Rp w X ρ H y v) (hz : Rp w X ρ H z t) : zAP P (Builtin.max_ ts ty #[u,v,t]) w X ρ H (rMax3 x y z H) := by
 cases x with
 | v x =>
  have := zAJ hx; subst this
  cases y with
  | v y =>
   have := zAJ hy; subst this
   cases z with
   | v z =>
    have := zAJ hz; subst this
    cases u <;> first | exact zE | skip
    cases v <;> first | exact zE | skip
    cases t <;> first | exact zE | exact zA0 h fun _ => rfl
   | _ => cases u <;> first | exact zE | (cases v <;> exact zE)
  | _ => cases u <;> exact zE
 | _ => exact zE
theorem zRQ {t : TypeId} {x i : AV} {u v : Value} (ht : P.underlying t = some .string) (h : HRel w X ρ H) (hx : Rp w X ρ H x u) (hi : Rp w X ρ H i v) : zAP P (Instr.index t u v) w X ρ H (rIdx x i H) := by
  cases x with
  | v x =>
    have := zAJ hx; subst this
    cases i with
    | v i =>
      have := zAJ hi; subst this
      cases u <;> first | exact zE | skip
      cases v <;> first | exact zE | skip
      rename_i s k n
      refine zA0 h fun ⟨h0,h1⟩ => ?_
      have hlt : n.toNat < s.size := by have : (bs s).length = s.size := by cases s; rfl
                                        omega
      simp [Instr.index,asIntOf,run_underlying ht,h0,hlt,bs,List.getD]
      rfl
    | _ => cases u <;> exact zE
  | _ => exact zE
theorem zPn {op : BinOp} {t : TypeId} {ox oy : Operand} {k k' : IntKind} {a b : Int} (h : HRel w X ρ H) :
    zAP P (do eqGuard op t ox oy (.int k a) (.int k' b); binOp op t (.int k a) (.int k' b)) w X ρ H (iBin op k k' a b H) := by
  simp only [eqGuard_at_int,pure_bind]
  have hne : ∀ k : IntKind,(k ≠ k) = False := fun k => by simp
  cases op <;> simp only [iBin] <;> first
    | exact zE
    | (refine zA0 h fun hk => ?_
       subst hk
       simp only [binOp,hne,if_false]
       rfl)
    | (refine zA0 h fun ⟨hk,hb⟩ => ?_
       subst hk
       simp only [binOp,hne,if_false,Op.intDiv,hb]
       rfl)
    | (refine zA0 h fun hb => ?_
       simp only [binOp,Op.shift,Int.not_lt.2 hb,if_false]
       rfl)
theorem zPj {op : BinOp} {t : TypeId} {ox oy : Operand} {a b : ByteArray} (h : HRel w X ρ H) :
    zAP P (do eqGuard op t ox oy (.string a) (.string b); binOp op t (.string a) (.string b)) w X ρ H (sBin op (bs a) (bs b) H) := by
  simp only [eqGuard_at_string,pure_bind]
  have hs : ∀ s : ByteArray,(bs s).length = s.size := fun s => by cases s; rfl
  have hd : ∀ a b : List UInt8,(a == b) = decide (a = b) := fun a b => by rw [zzac]; simp
  cases op <;> simp only [sBin] <;> first
    | exact zE
    | (refine zA0 h fun hk => ?_
       have h1 : ¬ IntKind.i64.max < ((a.size : Int) + (b.size : Int)) := by
         rw [IntKind.max_i64]
         rw [hs,hs] at hk
         omega
       simp [binOp,Op.stringOp,zOF]
       simpa using h1)
    | (refine zA0 h fun _ => ?_
       simp [binOp,Op.stringOp,zFN,hd]
       done)
theorem zHN {op : BinOp} {t : TypeId} {ox oy : Operand} {u v : Value} {p : Prop} {b : Bool} (h : HRel w X ρ H) (hg : eqGuard op t ox oy u v = pure ())
    (he : binOp .eql t u v = do pure (.bool (← Op.equal t u v))) (hn : binOp .neq t u v = do pure (.bool (!(← Op.equal t u v)))) (f : p → (Op.equal t u v).run P w = .ok b w) :
    zAP P (do eqGuard op t ox oy u v; binOp op t u v) w X ρ H (eqRes op p b H) := by
  rw [hg]
  cases op <;> simp only [eqRes] <;> first
    | exact zE
    | (refine zA0 h fun hk => ?_
       simp [he,f hk]
       done)
    | (refine zA0 h fun hk => ?_
       simp [hn,f hk]
       done)
theorem zSS {t : TypeId} {a b : Bool} (ht : P.underlying t = some .bool) : (Op.equal t (.bool a) (.bool b)).run P w = .ok (decide (a = b)) w := by
 have h1 : Op.equal t (.bool a) (.bool b) = Op.equalIn (9999 + 1) t (.bool a) (.bool b) := rfl
 rw [h1,run_equalIn_bool' w 9999 t a b ht]
 rfl
theorem zSU {d : Nat} {t : TypeId} {p q : Array TypeId} {c : Bool} {f : Fn} {a b : Array Value} (ht : P.underlying t = some (.func p q c)) : (Op.equalIn (d + 1) t (.func f a b) .nilFunc).run P w = .ok false w := by
 simp [Op.equalIn,run_underlying ht]
theorem zL0 {d : Nat} {t : TypeId} {p q : Array TypeId} {c : Bool} (ht : P.underlying t = some (.func p q c)) : (Op.equalIn (d + 1) t .nilFunc .nilFunc).run P w = .ok true w := by
 simp [Op.equalIn,run_underlying ht]
theorem zPq {kd : KD} {op : BinOp} {t : TypeId} {ox oy : Operand} {x y : AV} {u v : Value} (hk : zIi P t = some kd) (h : HRel w X ρ H) (hx : Rp w X ρ H x u) (hy : Rp w X ρ H y v)
    (hagg : ∀ ks cs ds us vs,kd = .agg ks → x = .agg cs → y = .agg ds → u = .agg us → v = .agg vs → zAP P (do eqGuard op t ox oy u v; binOp op t u v) w X ρ H (eqRes op (cEq ks cs ds).1 (cEq ks cs ds).2 H)) :
    zAP P (do eqGuard op t ox oy u v; binOp op t u v) w X ρ H (rBin kd op x y H) := by
  have hkb : isKD kd .bool = true → P.underlying t = some .bool := by
    intro hb
    unfold zIi at hk
    cases hd : P.underlying t with
    | none => simp [hd] at hk
    | some d => cases d <;> simp [hd] at hk <;> first | rfl | (subst hk; simp [isKD] at hb; done) | (obtain ⟨_,_,_,rfl⟩ := hk; simp [isKD] at hb)
  have hkf : isKD kd .fn = true → ∃ a b c,P.underlying t = some (.func a b c) := by
    intro hb
    unfold zIi at hk
    cases hd : P.underlying t with
    | none => simp [hd] at hk
    | some d => cases d <;> simp [hd] at hk <;> first | exact ⟨_,_,_,rfl⟩ | (subst hk; simp [isKD] at hb; done) | (obtain ⟨_,_,_,rfl⟩ := hk; simp [isKD] at hb)
  cases x with
  | v x =>
    have := zAJ hx; subst this
    cases y with
    | v y =>
      have := zAJ hy; subst this
      cases u <;> cases v <;> simp only [rBin] <;> first
        | exact zE
        | exact zPn h
        | exact zPj h
        | (refine zHN h (by simp [eqGuard_at_bool]) rfl rfl fun hp => ?_
           exact zSS (hkb hp))
        | (refine zHN h (by simp [eqGuard_at_nilFunc]) rfl rfl fun hp => ?_
           obtain ⟨a,b,c,hd⟩ := hkf hp
           exact zL0 (d := 9999) hd)
    | _ => cases u <;> exact zE
  | agg cs =>
    cases y with
    | agg ds =>
      cases hx with
      | agg _ _ us hl hr =>
        cases hy with
        | agg _ _ vs hl' hr' =>
          simp only [rBin]
          cases kd <;> first | exact zE | exact hagg _ cs ds us vs rfl rfl rfl rfl rfl
    | _ => exact zE
  | fn f a b =>
    obtain ⟨fs,us,rfl⟩ := zUG hx
    cases y with
    | v y =>
      have := zAJ hy; subst this
      cases v <;> simp only [rBin] <;> first
        | exact zE
        | (refine zHN h (by simp [eqGuard_at_func]) rfl rfl fun hp => ?_
           obtain ⟨a,b,c,hd⟩ := hkf hp
           exact zSU (d := 9999) hd)
    | _ => exact zE
  | _ => exact zE
end
section
variable {P : Program} {w : World} {X : Nat → Prop} {ρ : Nat → Loc} {H : zA}
def zJP : List KD → List Value → List Value → Prop
 | [],[],[] => True
 | k :: ks,a :: l,b :: m => (kIs k a = true ∧ kIs k b = true ∧ kCmp a b = true) ∧ zJP ks l m
 | _,_,_ => False
def zKL : List Value → List Value → Bool
 | a :: l,b :: m => kEq a b && zKL l m
 | _,_ => true
theorem zOz : ∀ (ks : List KD) (cs ds : List AV),(cEq ks cs ds).1 → ∃ la lb,cs = avs la ∧ ds = avs lb ∧ zJP ks la lb ∧ (cEq ks cs ds).2 = zKL la lb
 | [],cs,ds,h => by
  cases cs <;> cases ds <;> simp [cEq] at h
  exact ⟨[],[],rfl,rfl,trivial,rfl⟩
 | k :: ks,cs,ds,h => by
  cases cs with
  | nil => simp [cEq] at h
  | cons x cs =>
   cases ds with
   | nil => cases x <;> simp [cEq] at h
   | cons y ds =>
    cases x with
    | v a =>
     cases y with
     | v b =>
      simp only [cEq] at h ⊢
      obtain ⟨la,lb,rfl,rfl,h1,h2⟩ := zOz ks cs ds h.2
      exact ⟨a :: la,b :: lb,rfl,rfl,⟨h.1,h1⟩,by rw [h2]; rfl⟩
     | _ => simp [cEq] at h
    | _ => simp [cEq] at h
theorem zFx : ∀ {ks : List KD} {la lb : List Value},zJP ks la lb → la.length = ks.length ∧ lb.length = ks.length
 | [],la,lb,h => by cases la <;> cases lb <;> simp [zJP] at h ⊢
 | k :: ks,la,lb,h => by
  cases la <;> cases lb <;> simp [zJP] at h ⊢
  exact zFx h.2
theorem zEm : ∀ {ks ms : List KD} {la lb : List Value},zJP (ks ++ ms) la lb → zJP ks (la.take ks.length) (lb.take ks.length) ∧ zJP ms (la.drop ks.length) (lb.drop ks.length)
 | [],ms,la,lb,h => by simpa [zJP] using h
 | k :: ks,ms,la,lb,h => by
  cases la <;> cases lb <;> simp only [zY9,zJP] at h <;> first | exact h.elim | skip
  have := zEm h.2
  simpa [zJP,h.1] using this
theorem zLL (n : Nat) : ∀ (la lb : List Value),la.length = lb.length → zKL la lb = (zKL (la.take n) (lb.take n) && zKL (la.drop n) (lb.drop n)) := by
 induction n with
 | zero => intro la lb _; simp [zKL]
 | succ n ih =>
  intro la lb hl
  cases la <;> cases lb <;> simp at hl <;> simp [zKL]
  rw [ih _ _ hl,Bool.and_assoc]
def zFL (P : Program) (t : TypeId) (l : List Value) : Value := if zE9 P t = some true then .agg l.toArray else l.headD undef
theorem zNc {t : TypeId} {n : Nat} {ag : Bool} (hag : zE9 P t = some ag) (hsz : zCB P t = some n) {l : List Value} {off : Nat} (hl : off + n ≤ l.length) (h1 : ag = true ∨ 0 < n) :
  (part t l.toArray off).run P w = .ok (zFL P t ((l.drop off).take n)) w := by
 unfold part zFL
 simp only [Sem.run_bind,zFp hag,Result.andThen_ok,Sem.run_ite,hag,zYT]
 cases ag with
 | true =>
  simp only [if_true,zBK hsz,Result.andThen_ok,Sem.run_pure]
  congr 2
  apply zZ4
  simp [zzaP]
 | false =>
  have hn : 0 < n := by simpa using h1
  have hlt : off < l.length := by omega
  simp only [zZn,if_false]
  have h2 : l.toArray[off]? = some l[off] := by simp [hlt]
  rw [h2]
  simp only [Sem.run_pure]
  congr 1
  cases n with
  | zero => omega
  | succ n =>
   rw [zZV hlt]
   rfl
theorem zSA {t : TypeId} {k : IntKind} {D : Nat} {a b : Value} (ht : P.underlying t = some (.int k)) (ha : kIs .int a = true) (hb : kIs .int b = true) (hc : kCmp a b = true) :
  (Op.equalIn (D + 1) t a b).run P w = .ok (kEq a b) w := by
 cases a <;> simp [kIs] at ha
 cases b <;> simp [kIs] at hb
 simp only [kCmp,zzax] at hc
 subst hc
 rw [run_equalIn_int w D t _ k _ _ ht]
 simp [kEq]
theorem zSz {t : TypeId} {D : Nat} {a b : Value} (ht : P.underlying t = some .string) (ha : kIs .str a = true) (hb : kIs .str b = true) :
  (Op.equalIn (D + 1) t a b).run P w = .ok (kEq a b) w := by
 cases a <;> simp [kIs] at ha
 cases b <;> simp [kIs] at hb
 rw [run_equalIn_string w D t _ _ ht]
 simp [kEq,zFN]
theorem zP0 {t : TypeId} {D : Nat} {a b : Value} (ht : P.underlying t = some .bool) (ha : kIs .bool a = true) (hb : kIs .bool b = true) :
  (Op.equalIn (D + 1) t a b).run P w = .ok (kEq a b) w := by
 cases a <;> simp [kIs] at ha
 cases b <;> simp [kIs] at hb
 rw [run_equalIn_bool' w D t _ _ ht]
 simp [kEq]
theorem zN7 {g : TypeId → Option (List KD)} {D : Nat}
  (hg : ∀ t ks,g t = some ks → 0 < ks.length ∨ zE9 P t = some true) (ih : ∀ t ks la lb,g t = some ks → zJP ks la lb → (Op.equalIn D t (zFL P t la) (zFL P t lb)).run P w = .ok (zKL la lb) w) :
  ∀ (fs : List Field) (l0 ks : List KD) (la lb : List Value),zIS P g l0 fs = some ks → zJP ks la lb →
   (Op.eqFields D la.toArray lb.toArray fs).run P w = .ok (zKL (la.drop l0.length) (lb.drop l0.length)) w ∧ ∃ r,ks = l0 ++ r := by
 intro fs
 induction fs with
 | nil =>
  intro l0 ks la lb h hk
  simp only [zIS,zYT] at h
  subst h
  obtain ⟨h1,h2⟩ := zFx hk
  refine ⟨?_,[],by simp⟩
  simp [Op.eqFields,← h1,zKL]
 | cons f fs ihf =>
  intro l0 ks la lb h hk
  simp only [zIS] at h
  cases hm : g f.type with
  | none => simp [hm] at h
  | some m =>
   cases hn : zCB P f.type with
   | none => simp [hm,hn] at h
   | some n =>
    cases ha : zE9 P f.type with
    | none => simp [hm,hn,ha] at h
    | some ag =>
     simp only [hm,hn,ha] at h
     split at h
     ·rename_i hc
      obtain ⟨hname,hoff,hlen⟩ := hc
      obtain ⟨h1,r,hr⟩ := ihf (l0 ++ m) ks la lb h hk
      have hks : ks = l0 ++ (m ++ r) := by rw [hr,zZx]
      refine ⟨?_,m ++ r,hks⟩
      obtain ⟨hla,hlb⟩ := zFx hk
      have hkl : ks.length = l0.length + (m.length + r.length) := by rw [hks]; simp
      rw [hks] at hk
      have k1 := (zEm hk).2
      have k2 := (zEm k1).1
      have hpos : ag = true ∨ 0 < n := by
       rcases hg _ _ hm with h2 | h2
       ·exact .inr (by omega)
       ·rw [ha] at h2; exact .inl (by simpa using h2)
      have e1 := ih f.type m _ _ hm k2
      unfold Op.eqFields
      rw [if_pos hname]
      simp only [Sem.run_bind]
      rw [zNc (w := w) ha hn (l := la) (off := f.offset) (by omega) hpos]
      simp only [Result.andThen_ok]
      rw [zNc (w := w) ha hn (l := lb) (off := f.offset) (by omega) hpos]
      simp only [Result.andThen_ok]
      rw [hoff,← hlen,e1]
      simp only [Result.andThen_ok,Sem.run_ite,Sem.run_pure]
      rw [zLL m.length (la.drop l0.length) (lb.drop l0.length) (by simp; omega),h1]
      have hd : ∀ l : List Value,(l.drop l0.length).drop m.length = l.drop (l0 ++ m).length := fun l => by rw [List.drop_drop,zY3]
      rw [hd,hd]
      cases zKL ((la.drop l0.length).take m.length) ((lb.drop l0.length).take m.length) <;> simp
     ·cases h
theorem zLR {d : Nat} {t : TypeId} {ks : List KD} (h : zEE P d t = some ks) : 0 < ks.length ∨ zE9 P t = some true := by
 cases d with
 | zero => cases h
 | succ d =>
  unfold zEE at h
  cases ht : P.underlying t with
  | none => simp [ht] at h
  | some ty =>
   cases ty <;> simp [ht] at h <;> first
    | (subst h; left; simp)
    | (right; simp [zE9,ht])
theorem zSL : ∀ (d : Nat) (t : TypeId) (ks : List KD),zEE P d t = some ks → ∀ (D : Nat) (la lb : List Value),d ≤ D → zJP ks la lb →
  (Op.equalIn D t (zFL P t la) (zFL P t lb)).run P w = .ok (zKL la lb) w := by
 intro d
 induction d with
 | zero => intro t ks h; cases h
 | succ d ih =>
  intro t ks h D la lb hD hk
  obtain ⟨D,rfl⟩ : ∃ D',D = D' + 1 := ⟨D - 1,by omega⟩
  unfold zEE at h
  cases ht : P.underlying t with
  | none => simp [ht] at h
  | some ty =>
   have hsc : zE9 P t = some false → ∀ k,ks = [k] → (∀ a b,kIs k a = true → kIs k b = true → kCmp a b = true → (Op.equalIn (D + 1) t a b).run P w = .ok (kEq a b) w) →
     (Op.equalIn (D + 1) t (zFL P t la) (zFL P t lb)).run P w = .ok (zKL la lb) w := by
    intro hag k hks f
    subst hks
    obtain ⟨h1,h2⟩ := zFx hk
    match la,lb,h1,h2 with
    | [a],[b],_,_ =>
     simp only [zJP] at hk
     simp only [zFL,hag,zKL,zzbl,zzaZ]
     exact f a b hk.1.1 hk.1.2.1 hk.1.2.2
   cases ty <;> simp only [ht] at h <;> first | (cases h; done) | skip
   case int k =>
    simp only [zYT] at h
    exact hsc (by simp [zE9,ht]) .int h.symm fun a b ha hb hc => zSA ht ha hb hc
   case string =>
    simp only [zYT] at h
    exact hsc (by simp [zE9,ht]) .str h.symm fun a b ha hb _ => zSz ht ha hb
   case bool =>
    simp only [zYT] at h
    exact hsc (by simp [zE9,ht]) .bool h.symm fun a b ha hb _ => zP0 ht ha hb
   case struct fs =>
    split at h
    ·cases h
    ·rename_i hst
     have hag : zE9 P t = some true := by simp [zE9,ht]
     simp only [zFL,hag,if_true]
     have hf : P.fieldsOf t = fs := by simp [Program.fieldsOf,ht]
     rw [run_equalIn_agg w D t _ _ (by rw [hf]; exact ht) (by simpa using hst),hf]
     have := (zN7 (w := w) (D := D) (g := zEE P d) (fun t ks hh => zLR hh) (fun t ks la lb hh hkk => ih t ks hh D la lb (by omega) hkk) fs.toList [] ks la lb h hk).1
     simpa using this
theorem zDz {n : Nat} {M : Nat → Prop} {x u : Value} (h : Rep w M ρ n (.v x) u) : u = x := by cases h; rfl
theorem zGn {n : Nat} {M : Nat → Prop} {la : List Value} {us : Array Value} (h : Rep w M ρ n (.agg (avs la)) (.agg us)) : us = la.toArray := by
 cases h with
 | agg _ _ _ hl hr =>
  apply zZ4
  apply zzaB
  intro i
  simp only [avs,zYV] at hl
  by_cases hi : i < la.length
  ·have := hr i (.v la[i]) us[i] (by simp [avs,hi]) (by simp [hl ▸ hi])
   have e := zDz this
   rw [zZe hi,zZT,zzan (hl ▸ hi),e]
  ·rw [zZZ (by simp; omega),zZZ (by simpa using hi)]
theorem zRV {kd : KD} {op : BinOp} {t : TypeId} {ox oy : Operand} {x y : AV} {u v : Value} (hk : zIi P t = some kd) (h : HRel w X ρ H) (hx : Rp w X ρ H x u) (hy : Rp w X ρ H y v) :
    zAP P (do eqGuard op t ox oy u v; binOp op t u v) w X ρ H (rBin kd op x y H) := by
  refine zPq hk h hx hy ?_
  intro ks cs ds us vs hkd hxe hye hue hve
  subst hkd hxe hye hue hve
  have hun : ∃ fs,P.underlying t = some (.struct fs) := by
    unfold zIi at hk
    cases hd : P.underlying t with
    | none => simp [hd] at hk
    | some d => cases d <;> simp [hd] at hk; exact ⟨_,rfl⟩
  obtain ⟨fs,hfs⟩ := hun
  have hfl : zEE P 8 t = some ks ∧ P.eqGuardType P.depth t = false := by
    unfold zIi at hk
    simp only [hfs] at hk
    split at hk
    · cases hk
    · rename_i hg
      cases hh : zEE P 8 t with
      | none => simp [hh] at hk
      | some m => simp [hh] at hk; subst hk; exact ⟨rfl,by simpa using hg⟩
  have hgd : ∀ o : BinOp,(eqGuard o t ox oy (.agg us) (.agg vs)).run P w = .ok () w := fun o => run_eqGuard_agg w o t ox oy us vs hfl.2
  have hag : zE9 P t = some true := by simp [zE9,hfs]
  have hmain : (cEq ks cs ds).1 → (Op.equalIn 10000 t (.agg us) (.agg vs)).run P w = .ok (cEq ks cs ds).2 w := by
    intro hc
    obtain ⟨la,lb,rfl,rfl,h1,h2⟩ := zOz ks cs ds hc
    have e1 := zGn hx
    have e2 := zGn hy
    subst e1 e2
    have := zSL (w := w) 8 t ks hfl.1 10000 la lb (by omega) h1
    simp only [zFL,hag,if_true] at this
    rw [this,h2]
  cases op <;> simp only [eqRes] <;> first
    | exact zE
    | (refine zA0 h fun hp => ?_
       rw [Sem.run_bind,hgd,Result.andThen_ok,run_eql_struct,hmain hp]
       rfl)
    | (refine zA0 h fun hp => ?_
       rw [Sem.run_bind,hgd,Result.andThen_ok,run_neq_struct,hmain hp]
       rfl)
end
section
variable {P : Program} {w : World} {X : Nat → Prop} {ρ : Nat → Loc} {H : zA}
theorem zIo {s : TypeId} {fs : Array Field} {f n : Nat} {fd : Field} {p : AV} {u : Value} (hs : P.underlying s = some (.struct fs)) (hf : fs[f]? = some fd) (hn : zCB P fd.type = some n) (hn0 : n ≠ 0)
  (h : HRel w X ρ H) (hp : Rp w X ρ H p u) : zAP P (Instr.fieldAt s u f) w X ρ H (rFaddr fd.offset p H) := by
 have key : ∀ b o : Nat,(Instr.fieldAt s (.pointer (some ⟨b,o,none⟩)) f).run P w = .ok (.pointer (some ⟨b,o + fd.offset,none⟩)) w := by
  intro b o
  simp [Instr.fieldAt,run_underlying hs,hf,Instr.sureAddr,fieldPlace,zBK hn,hn0,Addr.add_lit]
 cases p with
 | vp cs off =>
  refine zR h fun _ => ?_
  cases hp with
  | vp _ _ _ b o c hm hb hcell hrep =>
   refine ⟨_,key _ _,?_⟩
   rw [zzar]
   exact .vp _ _ _ _ _ c hm hb hcell hrep
 | ptr r ver off =>
  refine zR h fun ⟨hb,hv⟩ => ?_
  obtain ⟨cs,ho⟩ := zC3 hb
  rw [ho] at hv
  obtain ⟨hr,b,c,e,fr,hblk,rfl,hh,hl,hfr,hver,hrep⟩ := zCQ h hp ho hv
  refine ⟨_,key _ _,?_⟩
  simp only [isVer] at hv
  exact .ptr _ _ _ _ _ hr (by omega) rfl fun _ => ⟨b,0,hblk,by simp⟩
 | pe r ver i off =>
  refine zR h fun ⟨hb,hv⟩ => ?_
  obtain ⟨v,sz,xs,ho⟩ := zBo hb
  rw [ho] at hv
  simp only [isVer] at hv
  obtain ⟨h1,h2,h3,h4,h5,h6⟩ := h.objs r _ ho
  cases hp with
  | pe _ _ _ _ _ _ hr hle hone hpt =>
   obtain ⟨b,o,hblk,rfl⟩ := hpt (by omega)
   refine ⟨_,key _ _,?_⟩
   exact .pe _ _ _ _ _ _ hr (by omega) rfl fun _ => ⟨b,o,hblk,by rw [zzar,zzar]⟩
 | _ => exact zE
theorem zRR {s : TypeId} {fs : Array Field} {f n : Nat} {ag : Bool} {fd : Field} {x : AV} {u : Value} (hs : P.underlying s = some (.struct fs)) (hf : fs[f]? = some fd) (hag : zE9 P fd.type = some ag) (hn : zCB P fd.type = some n)
  (h : HRel w X ρ H) (hx : Rp w X ρ H x u) : zAP P (Instr.field s u f) w X ρ H (rFld ag fd.offset n x H) := by
 cases x with
 | agg cs =>
  refine zR h fun ⟨h1,h2⟩ => ?_
  cases hx with
  | agg _ _ us hl hr =>
   simp only [Instr.field,Sem.run_bind,run_underlying hs,Result.andThen_ok,hf,asAgg,Sem.run_pure,part,zFp hag,Sem.run_ite]
   cases ag with
   | true =>
    refine ⟨.agg (us.extract fd.offset (fd.offset + n)),?_,?_⟩
    ·simp [zBK hn]
    ·simp only [cellsV,if_true]
     refine .agg _ _ _ (by simp; omega) fun i y v hy hv => ?_
     rw [zZP] at hy
     split at hy
     ·rename_i hi
      rw [zZQ] at hy
      refine hr (fd.offset + i) y v hy ?_
      have hlt : fd.offset + i < us.size := by omega
      rw [Array.getElem?_extract] at hv
      simpa [show i < min (fd.offset + n) us.size - fd.offset by omega] using hv
     ·cases hy
   | false =>
    have hn1 : n = 1 := by simpa using h2
    subst hn1
    have hlt : fd.offset < us.size := by omega
    refine ⟨us[fd.offset],?_,?_⟩
    ·simp [hlt]
    ·simp only [cellsV,zZn,if_false]
     have hlt' : fd.offset < cs.length := by omega
     rw [zZV hlt']
     exact hr fd.offset _ _ (by simp [hlt']) (by simp [hlt])
 | _ => exact zE
theorem zEa (h : HRel w X ρ H) {r ver off len : Nat} {u : Value} (hx : Rp w X ρ H (.os r ver off len) u) {v sz : Nat} {xs : List (List AV)} (ho : H[r]? = some (.arr v sz xs)) (hv : ver = v) :
  r < H.length ∧ (ρ r).ver = ver ∧ (ρ r).sz = sz ∧ 0 < sz ∧ (∀ x ∈ xs,x.length = sz) ∧ xs.length * sz ≤ (ρ r).ext ∧ zXe (ρ r) off len u ∧
   ∀ b o,(ρ r).blk = some (b,o) → ∃ c e fr,w.heap[b]? = some (.cells c e fr) ∧ o + (ρ r).ext ≤ c.size ∧ zMg fr c.size ∧
    ∀ (i j : Nat) (x : List AV) (y : AV) (u : Value),xs[i]? = some x → x[j]? = some y → c[o + i * sz + j]? = some u → Rep w (Mut X ρ H.length) ρ H.length y u ∧ one u = true := by
 obtain ⟨h1,h2,h3,h4,h5,h6⟩ := h.objs r _ ho
 cases hx with
 | os _ _ _ _ _ _ hr hle hone hp =>
  subst hv
  exact ⟨hr,h1,h2,h3,h4,h5,hp h1.symm,fun b o hblk => by rw [hblk] at h6; exact h6⟩
theorem zIn {t el : TypeId} {sz : Nat} {x i : AV} {u v : Value} (ht : P.underlying t = some (.slice el)) (hsz : zCB P el = some sz) (h : HRel w X ρ H) (hx : Rp w X ρ H x u) (hi : Rp w X ρ H i v) :
  zAP P (Instr.indexAt t u v) w X ρ H (rIaddr sz x i H) := by
 have key : ∀ (b o len cap : Nat) (k : IntKind) (n : Int),0 ≤ n → n < len → (Instr.indexAt t (.slice (some ⟨b,o,none⟩) len cap) (.int k n)).run P w = .ok (.pointer (some ⟨b,o + n.toNat * sz,none⟩)) w := by
  intro b o len cap k n h0 h1
  simp [Instr.indexAt,asIntOf,run_underlying ht,h0,h1,zBK hsz,Addr.add_lit]
 cases x with
 | sl sz' xs =>
  cases i with
  | v i =>
   have := zAJ hi; subst this
   cases v <;> first | exact zE | skip
   rename_i k n
   refine zR h fun ⟨hs,h0,h1⟩ => ?_
   subst hs
   cases hx with
   | slE => simp at h1; omega
   | slN _ _ _ b o cap c hm hb hcap hrow hcell hrep =>
    refine ⟨_,key _ _ _ _ _ _ h0 h1,?_⟩
    have hlt : n.toNat < xs.length := by omega
    have hx : xs[n.toNat]? = some (xs.getD n.toNat []) := by simp [hlt]
    exact .vp _ _ 0 b (o + n.toNat * sz') (c n.toNat) hm hb (fun j y hy => hcell _ _ _ _ hx hy) (fun j y hy => hrep _ _ _ _ hx hy)
  | _ => exact zE
 | os r ver off len =>
  cases i with
  | v i =>
   have := zAJ hi; subst this
   cases v <;> first | exact zE | skip
   rename_i k n
   refine zR h fun ⟨h0,h1,hs,hv⟩ => ?_
   simp only [szOk] at hs
   cases ho : H[r]? with
   | none => rw [ho] at hs; exact hs.elim
   | some obj =>
    rw [ho] at hs hv
    cases obj <;> simp at hs
    rename_i v' sz' xs
    subst hs
    simp only [isVer] at hv
    obtain ⟨hr,hver,hsz',_,_,_,⟨a,cap,rfl,hlc,hcap⟩,_⟩ := zEa h hx ho hv
    rcases hcap with hcap | ⟨b,o,hblk,rfl,hext⟩
    ·omega
    ·refine ⟨_,key _ _ _ _ _ _ h0 h1,?_⟩
     refine .pe _ _ _ _ _ _ hr (by omega) rfl fun _ => ⟨b,o,hblk,?_⟩
     rw [hsz',zZO]
     simp [zzar]
  | _ => exact zE
 | _ => exact zE
theorem zRS {x : AV} {u : Value} {i : Nat} (h : HRel w X ρ H) (hx : Rp w X ρ H x u) : zAP P (Instr.extract u i) w X ρ H (rExt x i H) := by
 cases x with
 | tup xs =>
  refine zR h fun hi => ?_
  cases hx with
  | tup _ _ us hl hr =>
   have hi' : i < us.size := by omega
   refine ⟨us[i],by simp [Instr.extract,hi'],?_⟩
   exact hr i _ _ (by simp [hi]) (by simp [hi'])
 | _ => exact zE
theorem zRP {t ty : TypeId} {lk : LK} {x : AV} {u : Value} (ht : (lk = .str → P.underlying t = some .string) ∧ (lk = .slc → ∃ e,P.underlying t = some (.slice e)) ∧ (lk = .map → ∃ k e,P.underlying t = some (.map k e)))
  (h : HRel w X ρ H) (hx : Rp w X ρ H x u) : zAP P (Builtin.len_ #[t] ty #[u]) w X ρ H (rLen lk x H) := by
 refine zR h fun ⟨hk,hv⟩ => ?_
 cases lk with
 | str =>
  have h1 := ht.1 rfl
  cases x <;> simp [lkOk] at hk
  rename_i x
  have := zAJ hx; subst this
  cases u <;> simp at hk
  rename_i s
  have hs : (bs s).length = s.size := by cases s; rfl
  exact ⟨_,by simp [Builtin.len_,run_underlying h1,goInt]; rfl,by simp [lenOf,hs]; exact .v _ _⟩
 | slc =>
  obtain ⟨el,h1⟩ := ht.2.1 rfl
  have key : ∀ (a : Option Addr) (n c : Nat),(Builtin.len_ #[t] ty #[.slice a n c]).run P w = .ok (.int .i64 n) w := by
   intro a n c
   simp [Builtin.len_,run_underlying h1,goInt]
  cases x with
  | sl sz xs =>
   cases hx with
   | slE => exact ⟨_,key _ _ _,.v _ _⟩
   | slN => exact ⟨_,key _ _ _,.v _ _⟩
  | os r ver off len =>
   obtain ⟨hb,hver⟩ := hv
   obtain ⟨v',sz,xs,ho⟩ := zBo hb
   rw [ho] at hver
   obtain ⟨_,_,_,_,_,_,⟨a,cap,rfl,_⟩,_⟩ := zEa h hx ho hver
   exact ⟨_,key _ _ _,.v _ _⟩
  | nc =>
   cases hx
   exact ⟨_,key _ _ _,.v _ _⟩
  | v x =>
   have := zAJ hx; subst this
   cases u with
   | slice a n c =>
    cases a <;> cases n <;> cases c <;> simp [lkOk] at hk
    exact ⟨_,key _ _ _,.v _ _⟩
   | _ => simp [lkOk] at hk
  | _ => simp [lkOk] at hk
 | map =>
  obtain ⟨kt,el,h1⟩ := ht.2.2 rfl
  cases x with
  | mp ks vs =>
   cases hx with
   | mp _ _ _ b es clock hm hb hh hks hvs hr =>
    refine ⟨.int .i64 es.size,?_,?_⟩
    ·simp [Builtin.len_,run_underlying h1,goInt,getObj,Sem.run,hh]
    ·have hks := hks.1
     subst hks
     simp [lenOf]
     exact .v _ _
  | v x =>
   have := zAJ hx; subst this
   cases u with
   | map r => cases r with
    | none => exact ⟨_,by simp [Builtin.len_,run_underlying h1,goInt]; rfl,.v _ _⟩
    | some r => simp [lkOk] at hk
   | _ => simp [lkOk] at hk
  | _ => simp [lkOk] at hk
end
section
variable {P : Program} {w : World} {X : Nat → Prop} {ρ : Nat → Loc} {H : zA}
def RpO (w : World) (X : Nat → Prop) (ρ : Nat → Loc) (H : zA) : Option AV → Option Value → Prop
 | none,none => True
 | some x,some u => Rp w X ρ H x u
 | _,_ => False
theorem zJ4 {d : Int} {x : Option AV} {u : Option Value} {n : Int} (h : bnd d x = some n) (hx : RpO w X ρ H x u) : (x = none ∧ u = none ∧ n = d) ∨ ∃ k,u = some (.int k n) := by
 cases x with
 | none =>
  cases u with
  | none => simp [bnd] at h; exact .inl ⟨rfl,rfl,h.symm⟩
  | some u => exact hx.elim
 | some x =>
  cases u with
  | none => exact hx.elim
  | some u =>
   cases x with
   | v x =>
    have := zAJ (show Rp w X ρ H (.v x) u from hx)
    subst this
    cases u <;> simp [bnd] at h
    subst h
    exact .inr ⟨_,rfl⟩
   | _ => simp [bnd] at h
theorem zI8 {b : Bool} {len cap : Nat} {lo hi : Option AV} {lv hv : Option Value} {l h : Int} (hl : bnd 0 lo = some l) (hh : bnd len hi = some h) (rl : RpO w X ρ H lo lv) (rh : RpO w X ρ H hi hv)
  (h0 : 0 ≤ l) (h1 : l ≤ h) (h2 : h ≤ len) (h3 : len ≤ cap) : (Instr.sliceBounds b len cap lv hv none).run P w = .ok (l.toNat,h.toNat,cap) w := by
 have e1 : ∀ c,(Instr.sliceBound (.int c h) cap (if b then .sliceAcap else .sliceAlen)).run P w = .ok h.toNat w := fun c => run_sliceBound w c h cap _ (by omega) (by omega)
 have e2 : ∀ c,(Instr.sliceBound (.int c l) h.toNat .sliceB).run P w = .ok l.toNat w := fun c => run_sliceBound w c l _ _ (by omega) (by omega)
 unfold Instr.sliceBounds
 rcases zJ4 hh rh with ⟨rfl,rfl,rfl⟩ | ⟨k,rfl⟩
 ·rcases zJ4 hl rl with ⟨rfl,rfl,rfl⟩ | ⟨k',rfl⟩
  ·simp
  ·have := e2 k'
   simp at this
   simp [this]
 ·rcases zJ4 hl rl with ⟨rfl,rfl,rfl⟩ | ⟨k',rfl⟩
  ·simp [e1 k]
  ·simp [e1 k,e2 k']
theorem zLU (s : ByteArray) (l h : Nat) : s.extract l h = mkS (((bs s).drop l).take (h - l)) := by
 apply ByteArray.ext
 apply zZ4
 simp [mkS,bs,ByteArray.data_extract,zzaP]
theorem zIL (s : ByteArray) : (bs s).length = s.size := by cases s; rfl
theorem zMS (x : AV) (b : Option Int) : rSliceN x none b H = .no H := by
 unfold rSliceN
 split <;> first | rfl | contradiction
theorem zMT (x : AV) (b : Option Int) : rSliceN x b none H = .no H := by
 unfold rSliceN
 split <;> first | rfl | contradiction
theorem zFR {t : TypeId} {lk : LK} {n : Nat} {x : AV} {u : Value} {lo hi : Option AV} {lv hv : Option Value} (ht : (lk = .str ∧ P.underlying t = some .string) ∨ (lk = .slc ∧ ∃ e,P.underlying t = some (.slice e) ∧ zCB P e = some n))
  (h : HRel w X ρ H) (hx : Rp w X ρ H x u) (rl : RpO w X ρ H lo lv) (rh : RpO w X ρ H hi hv) : zAP P (Instr.sliceAt t u lv hv none) w X ρ H (rSlice lk n x lo hi H) := by
 unfold rSlice
 refine zBX fun ⟨hk,hso⟩ => ?_
 cases hl : bnd 0 lo with
 | none => rw [zMS]; exact zE
 | some l =>
  cases hh : bnd ((lenOf x).getD 0) hi with
  | none => rw [zMT]; exact zE
  | some hb =>
   rcases ht with ⟨rfl,ht⟩ | ⟨rfl,el,ht,hn⟩
   ·cases x <;> simp [lkOk] at hk
    rename_i x
    have := zAJ hx; subst this
    cases u <;> simp at hk
    rename_i s
    simp only [rSliceN]
    simp only [lenOf,zZR] at hh
    refine zA0 h fun ⟨h0,h1,h2⟩ => ?_
    have hb := zI8 (P := P) (b := false) (len := s.size) (cap := s.size) hl (by rw [← zIL]; exact hh) rl rh h0 h1 (by rw [← zIL]; exact h2) (zZa _)
    simp [Instr.sliceAt,Instr.slice,run_underlying ht,hb,zLU]
   ·have key : ∀ (a : Option Addr) (len cap : Nat),(lenOf x).getD 0 = len → len ≤ cap → 0 ≤ l → l ≤ hb → hb ≤ len →
      (Instr.sliceAt t (.slice a len cap) lv hv none).run P w = .ok (.slice (if cap = l.toNat then a else a.map (·.add (l.toNat * n))) (hb.toNat - l.toNat) (cap - l.toNat)) w := by
     intro a len cap hlen hcap h0 h1 h2
     have hb' := zI8 (P := P) (b := true) (len := len) (cap := cap) hl (by rw [← hlen]; exact hh) rl rh h0 h1 h2 hcap
     simp [Instr.sliceAt,Instr.slice,run_underlying ht,hb',zBK hn]
    cases x with
    | sl sz xs =>
     simp only [rSliceN]
     refine zR h fun ⟨h0,h1,h2⟩ => ?_
     have hlen : (lenOf (.sl sz xs)).getD 0 = xs.length := rfl
     have hsub : ∀ (a : Option Addr) (cap : Nat),u = .slice a xs.length cap → xs.length ≤ cap →
       ∃ v,(Instr.sliceAt t u lv hv none).run P w = .ok v w ∧ v = .slice (if cap = l.toNat then a else a.map (·.add (l.toNat * n))) (hb.toNat - l.toNat) (cap - l.toNat) :=
      fun a cap hu hc => ⟨_,by rw [hu]; exact key a _ cap hlen hc h0 h1 h2,rfl⟩
     cases hx with
     | slE _ _ a cap =>
      obtain ⟨v,hr,rfl⟩ := hsub a cap rfl (zZm _)
      refine ⟨_,hr,?_⟩
      simp only [List.drop_nil,zzbm]
      have : hb.toNat - l.toNat = 0 := by simp at h2; omega
      rw [this]
      exact .slE _ _ _ _
     | slN _ _ _ b o cap c hm hbl hcap hrow hcell hrep =>
      obtain ⟨v,hr,rfl⟩ := hsub _ cap rfl hcap
      refine ⟨_,hr,?_⟩
      by_cases hd : hb.toNat - l.toNat = 0
      ·rw [hd,zzay]
       exact .slE _ _ _ _
      ·have hne : cap ≠ l.toNat := by omega
       have hnn : xs ≠ [] := by intro h; subst h; simp at h2; omega
       have hs : sz = n := by simpa [szOk,hnn] using hso
       subst hs
       have hlen' : ((xs.drop l.toNat).take (hb.toNat - l.toNat)).length = hb.toNat - l.toNat := by simp; omega
       rw [if_neg hne]
       have hget : ∀ i x,((xs.drop l.toNat).take (hb.toNat - l.toNat))[i]? = some x → xs[l.toNat + i]? = some x := by
        intro i x hx
        rw [zZP] at hx
        split at hx
        ·rwa [zZQ] at hx
        ·cases hx
       have := Rep.slN (w := w) (M := Mut X ρ H.length) (ρ := ρ) H.length sz ((xs.drop l.toNat).take (hb.toNat - l.toNat)) b (o + l.toNat * sz) (cap - l.toNat) (fun i j => c (l.toNat + i) j) hm hbl (by omega)
        (fun x hx => hrow x (zzaa (zZX hx)))
        (fun i j x y hx hy => by
         have := hcell (l.toNat + i) j x y (hget i x hx) hy
         rw [zZO] at this
         rw [show o + l.toNat * sz + i * sz + j = o + (l.toNat * sz + i * sz) + j by omega]
         exact this)
        (fun i j x y hx hy => hrep _ _ _ _ (hget i x hx) hy)
       rw [hlen'] at this
       simpa [Addr.add_lit] using this
    | os r ver off len =>
     simp only [rSliceN]
     refine zR h fun ⟨h0,h1,h2,hba,hv⟩ => ?_
     obtain ⟨v',sz,xs,ho⟩ := zBo hba
     rw [ho] at hv
     simp only [isVer] at hv
     have hlen : (lenOf (.os r ver off len)).getD 0 = len := rfl
     obtain ⟨hr,hver,hs',hs0,hrow,hext,⟨a,cap,rfl,hlc,hcap⟩,_⟩ := zEa h hx ho hv
     refine ⟨_,key a len cap hlen hlc h0 h1 h2,?_⟩
     refine .os _ _ _ _ _ _ hr (by omega) rfl fun _ => ⟨_,_,rfl,by omega,?_⟩
     by_cases hd : cap = l.toNat
     ·exact .inl (by omega)
     ·rcases hcap with hcap | ⟨b,o,hblk,rfl,he⟩
      ·omega
      ·refine .inr ⟨b,o,hblk,?_,?_⟩
       ·rw [if_neg hd]
        have hs : sz = n := by simpa [szOk,ho] using hso
        rw [← hs,hs']
        simp [Addr.add_lit,zZO,zzar]
       ·rw [show off + l.toNat + (cap - l.toNat) = off + cap by omega]
        exact he
    | v x =>
     have := zAJ hx; subst this
     cases u with
     | slice a m c =>
      cases a <;> cases m <;> cases c <;> simp [lkOk] at hk
      simp only [rSliceN]
      refine zA0 h fun ⟨h1,h2⟩ => ?_
      subst h1 h2
      rw [key none 0 0 rfl (zZa _) (by omega) (by omega) (by omega)]
      rfl
     | _ => simp [lkOk] at hk
    | nc => exact zE
    | _ => simp [lkOk] at hk
theorem zLS {kd : KD} {kind : TypeDesc} (hk : (kd = .int → ∃ k,kind = .int k) ∧ (kd = .str → kind = .string) ∧ (kd = .bool → kind = .bool)) (hna : ∀ ks,kd ≠ .agg ks) {k : Value} (hkk : kIs kd k = true) :
  ∀ (es : List MapEntry) (vs : List AV) (i : Nat),vs.length = es.length → (∀ e ∈ es,kCmp k e.key = true) →
   ∃ r,Instr.findNow kind k es i = some r ∧ ((r = none ∧ zFc k (es.map (·.key)) vs = none) ∨ ∃ j e x,r = some (i + j,e.val) ∧ es[j]? = some e ∧ vs[j]? = some x ∧ zFc k (es.map (·.key)) vs = some x) := by
 intro es
 induction es with
 | nil => intro vs i _ _; exact ⟨none,rfl,.inl ⟨rfl,by cases vs <;> rfl⟩⟩
 | cons e es ih =>
  intro vs i hl hc
  cases vs with
  | nil => simp at hl
  | cons x vs =>
   have hs : Instr.sameNow kind k e.key = some (kEq k e.key) := by
    have h1 := hc e (by simp)
    cases kd with
    | int =>
     obtain ⟨kk,rfl⟩ := hk.1 rfl
     cases k <;> simp [kIs] at hkk
     cases hke : e.key <;> simp [hke,kCmp] at h1
     simp [Instr.sameNow,kEq,h1]
    | str =>
     have := hk.2.1 rfl; subst this
     cases k <;> simp [kIs] at hkk
     cases hke : e.key <;> simp [hke,kCmp] at h1
     simp [Instr.sameNow,kEq,beq_toListBytes,zFN]
    | bool =>
     have := hk.2.2 rfl; subst this
     cases k <;> simp [kIs] at hkk
     cases hke : e.key <;> simp [hke,kCmp] at h1
     simp [Instr.sameNow,kEq]
    | agg ks => exact absurd rfl (hna ks)
    | _ => cases k <;> simp [kIs] at hkk
   simp only [Instr.findNow,hs,zZG,zFc]
   cases hb : kEq k e.key with
   | true => exact ⟨_,rfl,.inr ⟨0,e,x,rfl,rfl,rfl,by simp⟩⟩
   | false =>
    obtain ⟨r,h1,h2⟩ := ih vs (i + 1) (by simpa using hl) (fun e' he' => hc e' (by simp [he']))
    refine ⟨r,h1,?_⟩
    simp only [zZn,if_false]
    rcases h2 with ⟨rfl,h2⟩ | ⟨j,e',x',rfl,h3,h4,h5⟩
    ·exact .inl ⟨rfl,h2⟩
    ·exact .inr ⟨j + 1,e',x',by rw [zzar,zzaV 1 j],by simpa using h3,by simpa using h4,h5⟩
theorem zNQ {kt : TypeId} {kd : KD} (hk : zF4 P kt = some kd) : (∃ kind,P.underlying kt = some kind ∧ ((kd = .int → ∃ k,kind = .int k) ∧ (kd = .str → kind = .string) ∧ (kd = .bool → kind = .bool)) ∧ ∀ ks,kd ≠ .agg ks) ∨ ∃ e kk,kd = .agg [.int,.int] ∧ P.underlying kt = some (.array 2 e) ∧ P.underlying e = some (.int kk) ∧ P.cellsOf e = 1 := by
 unfold zF4 at hk
 cases hd : P.underlying kt with
 | none => simp [hd,zIi] at hk
 | some d =>
  cases d <;> simp [hd,zIi] at hk
  case array n e =>
   obtain ⟨⟨rfl,he,hc⟩,rfl⟩ := hk
   unfold zRa at he
   cases hu : P.underlying e with
   | none => simp [hu] at he
   | some de =>
    cases de <;> simp [hu] at he
    rename_i kk
    exact .inr ⟨e,kk,rfl,rfl,hu,hc⟩
  all_goals (subst hk; exact .inl ⟨_,rfl,by simp,by simp⟩)
theorem zNX {e : TypeId} {d : TypeDesc} (h : P.underlying e = some d) : ∃ i,P.info? e = some i := by
 cases hi : P.info? e with
 | none => simp [Program.underlying,hi] at h
 | some i => exact ⟨i,rfl⟩
theorem zEy {e : TypeId} {kk : IntKind} (h : P.underlying e = some (.int kk)) : P.plainKey e = true := by
 unfold Program.plainKey
 rw [h]
theorem zPZ {l : List Value} (h : zYq l = true) : ∃ k a k' b,l = [.int k a,.int k' b] := by
 unfold zYq at h
 split at h
 ·exact ⟨_,_,_,_,rfl⟩
 ·cases h
theorem zGh {kt : TypeId} {kd : KD} (hk : zF4 P kt = some kd) {k : Value} (hkk : kIs kd k = true) (b : Bool) (n : Nat) : (Instr.checkKey b (n + 2) kt k).run P w = .ok () w := by
 rcases zNQ hk with ⟨kind,h1,h2,hna⟩ | ⟨e,kk,rfl,h1,h2,h3⟩
 ·cases kd with
  | int =>
   obtain ⟨kk,rfl⟩ := h2.1 rfl
   cases k <;> simp [kIs] at hkk
   simp [Instr.checkKey,run_underlying h1]
  | str =>
   have := h2.2.1 rfl; subst this
   cases k <;> simp [kIs] at hkk
   simp [Instr.checkKey,run_underlying h1]
  | bool =>
   have := h2.2.2 rfl; subst this
   cases k <;> simp [kIs] at hkk
   simp [Instr.checkKey,run_underlying h1]
  | agg ks => exact absurd rfl (hna ks)
  | _ => cases k <;> simp [kIs] at hkk
 ·cases k <;> simp [kIs] at hkk
  rename_i cs
  obtain ⟨k1,a,k2,b',hl⟩ := zPZ hkk
  have hcs : cs = #[.int k1 a,.int k2 b'] := by apply zZ4; simpa using hl
  subst hcs
  obtain ⟨i,hi⟩ := zNX h2
  have p1 : (part e #[.int k1 a,.int k2 b'] 0).run P w = .ok (.int k1 a) w := run_part_plain w (zEy h2) rfl
  have p2 : (part e #[.int k1 a,.int k2 b'] 1).run P w = .ok (.int k2 b') w := run_part_plain w (zEy h2) rfl
  have c1 : ∀ k x,(Instr.checkKey b (n + 1) e (.int k x)).run P w = .ok () w := fun k x => by simp [Instr.checkKey,run_underlying h2]
  unfold Instr.checkKey
  simp only [Sem.run_bind,run_underlying h1,Result.andThen_ok]
  simp [Std.Legacy.Range.forIn_eq_forIn_range',Std.Legacy.Range.size,List.range',run_sizeOf w hi,h3,p1,p2,c1]
theorem zOe {kt e : TypeId} {kk : IntKind} (h1 : P.underlying kt = some (.array 2 e)) (h2 : P.underlying e = some (.int kk)) (h3 : P.cellsOf e = 1) {xs ys : Array Value} (hc : zSB xs.toList ys.toList = true) :
  (Op.equal kt (.agg xs) (.agg ys)).run P w = .ok (zW2 xs.toList ys.toList) w := by
 obtain ⟨i,hi⟩ := zNX h2
 have hx : ∃ k a l b c d,xs.toList = [.int k a,.int l b] ∧ ys.toList = [.int k c,.int l d] := by
  unfold zSB at hc
  split at hc
  ·rename_i hx hy
   simp only [zYX,zzax] at hc
   obtain ⟨rfl,rfl⟩ := hc
   exact ⟨_,_,_,_,_,_,hx,hy⟩
  ·cases hc
 obtain ⟨k,a,l,b,c,d,hx,hy⟩ := hx
 have ex : xs = #[.int k a,.int l b] := by apply zZ4; simpa using hx
 have ey : ys = #[.int k c,.int l d] := by apply zZ4; simpa using hy
 subst ex ey
 have p1 : ∀ (m m' : IntKind) (x y : Int),(part e #[.int m x,.int m' y] 0).run P w = .ok (.int m x) w := fun m m' x y => run_part_plain w (zEy h2) rfl
 have p2 : ∀ (m m' : IntKind) (x y : Int),(part e #[.int m x,.int m' y] 1).run P w = .ok (.int m' y) w := fun m m' x y => run_part_plain w (zEy h2) rfl
 have q0 : ∀ (d : Nat) (m : IntKind) (x y : Int),(Op.equalIn (d + 1) e (.int m x) (.int m y)).run P w = .ok (x == y) w := fun d m x y => by simp [Op.equalIn,run_underlying h2]
 have q : ∀ (m : IntKind) (x y : Int),(Op.equalIn 9999 e (.int m x) (.int m y)).run P w = .ok (x == y) w := fun m x y => q0 9998 m x y
 unfold Op.equal
 show (Op.equalIn (9999 + 1) kt _ _).run P w = _
 rw [run_equalIn_array w 9999 _ _ h1 hi,h3]
 have hr : List.range 2 = [0,1] := rfl
 rw [hr]
 simp only [Op.eqItems,zzbs,Nat.one_mul,Sem.run_bind,p1,q,Result.andThen_ok]
 cases h : a == c <;> cases h' : b == d <;> simp [zW2,h,h',p2,q]
theorem zLT {kt e : TypeId} {kk : IntKind} (h1 : P.underlying kt = some (.array 2 e)) (h2 : P.underlying e = some (.int kk)) (h3 : P.cellsOf e = 1) {k : Value} (hkk : kIs (.agg [.int,.int]) k = true) :
  ∀ (es : List MapEntry) (vs : List AV) (i : Nat),vs.length = es.length → (∀ e ∈ es,kCmp k e.key = true) →
   ∃ r,(Instr.findAsking kt k es i).run P w = .ok r w ∧ ((r = none ∧ zFc k (es.map (·.key)) vs = none) ∨ ∃ j e x,r = some (i + j,e.val) ∧ es[j]? = some e ∧ vs[j]? = some x ∧ zFc k (es.map (·.key)) vs = some x) := by
 intro es
 induction es with
 | nil => intro vs i _ _; exact ⟨none,by simp [Instr.findAsking],.inl ⟨rfl,by cases vs <;> rfl⟩⟩
 | cons e es ih =>
  intro vs i hl hc
  cases vs with
  | nil => simp at hl
  | cons x vs =>
   have hs : (Op.equal kt k e.key).run P w = .ok (kEq k e.key) w := by
    have h := hc e (by simp)
    cases k <;> simp [kIs] at hkk
    cases hke : e.key <;> simp [hke,kCmp] at h
    exact zOe h1 h2 h3 h
   simp only [Instr.findAsking,Sem.run_bind,hs,Result.andThen_ok,zZG,zFc]
   cases hb : kEq k e.key with
   | true => exact ⟨some (i,e.val),by simp,.inr ⟨0,e,x,rfl,rfl,rfl,by simp⟩⟩
   | false =>
    obtain ⟨r,g1,g2⟩ := ih vs (i + 1) (by simpa using hl) (fun e' he' => hc e' (by simp [he']))
    refine ⟨r,by simpa using g1,?_⟩
    simp only [zZn,if_false]
    rcases g2 with ⟨rfl,g2⟩ | ⟨j,e',x',rfl,g3,g4,g5⟩
    ·exact .inl ⟨rfl,g2⟩
    ·exact .inr ⟨j + 1,e',x',by rw [zzar,zzaV 1 j],by simpa using g3,by simpa using g4,g5⟩
theorem zG0 {kt : TypeId} {kd : KD} (hk : zF4 P kt = some kd) {k : Value} (hkk : kIs kd k = true) (es : List MapEntry) (vs : List AV) (hl : vs.length = es.length) (hc : ∀ e ∈ es,kCmp k e.key = true) :
  ∃ r,(Instr.findKey kt k es).run P w = .ok r w ∧ ((r = none ∧ zFc k (es.map (·.key)) vs = none) ∨ ∃ j e x,r = some (j,e.val) ∧ es[j]? = some e ∧ vs[j]? = some x ∧ zFc k (es.map (·.key)) vs = some x) := by
 rcases zNQ hk with ⟨kind,h1,h2,hna⟩ | ⟨e,kk,rfl,h1,h2,h3⟩
 ·obtain ⟨r,h3,h4⟩ := zLS h2 hna hkk es vs 0 hl hc
  refine ⟨r,?_,by simpa using h4⟩
  simp [Instr.findKey,run_underlying h1,h3]
 ·obtain ⟨r,h4,h5⟩ := zLT (w := w) h1 h2 h3 hkk es vs 0 hl hc
  refine ⟨r,?_,by simpa using h5⟩
  rw [run_findKey_eq w (by rw [h1]) k es]
  exact h4
theorem zHH {k : AV} {u : Value} (h : Rp w X ρ H k u) : Rp w X ρ H (zKK k) u := by
 unfold zKK
 split
 ·rename_i a b
  obtain ⟨us,rfl⟩ : ∃ us,u = .agg us := by cases h; exact ⟨_,rfl⟩
  have e := zGn (la := [a,b]) h
  subst e
  exact .v _ _
 ·exact h
theorem zDw {M : Nat → Prop} {k : Nat} (z : Value) : Rep w M ρ k (zJc z) z := by
 cases z <;> first | exact .v _ _ | skip
 rename_i cs
 refine .agg _ _ _ (by simp [avs]) fun i x u hx hu => ?_
 simp only [avs,zZy,zZT,hu,zZt,zYT] at hx
 subst hx
 exact .v _ _
theorem zPm {t kt el : TypeId} {kd : KD} {z : Value} {ok : Bool} {m k : AV} {u v : Value} (ht : P.underlying t = some (.map kt el)) (hk : zF4 P kt = some kd) (hz : zA2 P el = some z)
  (h : HRel w X ρ H) (hm : Rp w X ρ H m u) (hkr : Rp w X ρ H k v) : zAP P (Instr.lookup t u v ok) w X ρ H (rLook kd (zJc z) ok m k H) := by
 have hzr : ∀ w : World,(zeroValue el).run P w = .ok z w := by
  intro w
  unfold zA2 at hz
  cases hi : P.info? el with
  | none => simp [hi] at hz
  | some i => simp [hi] at hz; simp [zeroValue,typeInfo,hi,hz]
 have key : ∀ (b : Nat) (es : Array MapEntry) (clock : Nat) (ks : List Value) (vs : List AV),w.heap[b]? = some (.map es clock) → zXg ks es clock → vs.length = es.size →
   (∀ (i : Nat) (x : AV) (e : MapEntry),vs[i]? = some x → es[i]? = some e → Rep w (Mut X ρ H.length) ρ 0 x e.val) → ∀ kv,(∀ k' ∈ ks,kCmp kv k' = true) ∧ kIs kd kv = true →
   ∃ r,(Instr.lookup t (.map (some b)) kv ok).run P w = .ok r w ∧ Rp w X ρ H (lookV (zJc z) ok (zFc kv ks vs)) r := by
  intro b es clock ks vs hb hks hvs hr kv ⟨h1,h2⟩
  have hks := hks.1
  subst hks
  obtain ⟨r,h3,h4⟩ := zG0 (w := w) hk h2 es.toList vs (by simpa using hvs) (fun e he => h1 _ (zZK.2 ⟨e,he,rfl⟩))
  have hget : (getObj b).run P w = .ok (.map es clock) w := by simp [getObj,Sem.run,hb]
  unfold Instr.lookup
  simp only [Sem.run_bind,run_underlying ht,Result.andThen_ok,hget,Sem.run_pure,zGh hk h2,h3]
  rcases h4 with ⟨rfl,h4⟩ | ⟨j,e,x,rfl,h5,h6,h7⟩
  ·rw [h4]
   cases ok with
   | true =>
    refine ⟨.tuple #[z,.bool false],by simp [hzr],?_⟩
    refine .tup _ _ _ rfl fun i x u hx hu => ?_
    match i with
    | 0 => simp at hx hu; subst hx; subst hu; exact zDw z
    | 1 => simp at hx hu; subst hx; subst hu; exact .v _ _
    | n + 2 => simp at hx
   | false => exact ⟨z,by simp [hzr],zDw z⟩
  ·rw [h7]
   have hrep : Rp w X ρ H x e.val := (hr j x e h6 (by simpa using h5)).mono (zZm _)
   cases ok with
   | true =>
    refine ⟨.tuple #[e.val,.bool true],by simp,?_⟩
    refine .tup _ _ _ rfl fun i x u hx hu => ?_
    match i with
    | 0 => simp at hx hu; subst hx; subst hu; exact hrep
    | 1 => simp at hx hu; subst hx; subst hu; exact .v _ _
    | n + 2 => simp at hx
   | false => exact ⟨e.val,by simp,hrep⟩
 cases m with
 | mp ks vs =>
  cases k with
  | v k =>
   have := zAJ hkr; subst this
   refine zR h fun hp => ?_
   cases hm with
   | mp _ _ _ b es clock hmm hb hh hks hvs hr => exact key b es clock ks vs hh hks hvs hr v hp
  | _ => exact zE
 | om r ver =>
  cases k with
  | v k =>
   have := zAJ hkr; subst this
   simp only [rLook]
   cases ho : H[r]? with
   | none => exact zE
   | some obj =>
    cases obj <;> first | exact zE | skip
    rename_i ver' ks vs
    refine zBX fun hver => ?_
    subst hver
    refine zR h fun hp => ?_
    obtain ⟨h1,b,es,clock,hblk,hh,hks,hvs,hr⟩ := h.objs r _ ho
    cases hm with
    | om _ _ _ _ hrl hle hone hpt =>
     obtain ⟨b',o',hb',rfl⟩ := hpt h1.symm
     rw [hblk] at hb'
     simp only [zYT,zZi] at hb'
     obtain ⟨rfl,_⟩ := hb'
     exact key b es clock ks vs hh hks hvs hr v hp
  | _ => exact zE
 | _ => exact zE
end
theorem zVf (v : Value) : v.oneCell' = one v := by cases v <;> rfl
theorem zAw {α : Type} (l vs : List α) (o j : Nat) (h : o + vs.length ≤ l.length) :
  (l.take o ++ vs ++ l.drop (o + vs.length))[j]? = if j < o then l[j]? else if j < o + vs.length then vs[j - o]? else l[j]? := by
 have h1 : (l.take o).length = o := by simp; omega
 rw [zZx,zZC,h1]
 split
 ·rename_i hj; rw [zZP,if_pos hj]
 ·rename_i hj
  rw [zZC]
  split
  ·rename_i h2; rw [if_pos (by omega)]
  ·rename_i h2
   rw [if_neg (by omega),zZQ]
   congr 1
   omega
section
variable {P : Program} {w : World} {X : Nat → Prop} {ρ : Nat → Loc} {H : zA}
theorem zAX (g o : Nat) (t : TypeId) (fr : Nat × Nat) : ∀ (vs : List Value) (i : Nat) (cur : Array Value) (w : World),w.heap[g]? = some (.cells cur t fr) → zMg fr cur.size → o + i + vs.length ≤ cur.size → (∀ v ∈ vs,one v = true) →
  (storeCells ⟨g,o,none⟩ vs i).run P w = .ok () (w.setRow g (cur.toList.take (o + i) ++ vs ++ cur.toList.drop (o + i + vs.length)).toArray)
 | [],i,cur,w,hg,_,_,_ => by
  simp only [storeCells,zZA,zY4,zZJ,zZ7,Array.toArray_toList]
  rw [setRow_self w g cur t fr hg]
  rfl
 | v :: rest,i,cur,w,hg,hfr,hl,h1 => by
  have hi : o + i < cur.size := by simp at hl; omega
  have hadd : (⟨g,o,none⟩ : Addr).add i = ⟨g,o + i,none⟩ := Addr.add_lit _ _ _
  have hcell : w.cell? ⟨g,o + i,none⟩ = some cur[o + i] := by simp [World.cell?,hg,hi]
  have hfro : w.frozen? ⟨g,o + i,none⟩ = false := by
   simp only [World.frozen?,hg]
   rcases hfr with h | h
   ·simp; omega
   ·simp; omega
  have hst : (store ((⟨g,o,none⟩ : Addr).add i) v).run P w = .ok () (w.setRow g (cur.setIfInBounds (o + i) v)) := by
   rw [hadd,run_store P w _ v _ (by rw [zVf]; exact h1 v (by simp)),hcell]
   simp [hfro,setCell_eq_setRow w g (o + i) cur t fr v hg]
  have ih := zAX g o t fr rest (i + 1) (cur.setIfInBounds (o + i) v) (w.setRow g (cur.setIfInBounds (o + i) v)) (setRow_heap w g cur _ t _ hg) (by simpa using hfr) (by simp at hl ⊢; omega) (fun x hx => h1 x (by simp [hx]))
  simp only [storeCells,Sem.run_bind,hst,Result.andThen_ok,ih,setRow_setRow]
  congr 3
  have e := list_seg_step cur.toList (o + i) v rest (by simp at hl ⊢; omega)
  simpa [Array.toList_setIfInBounds,zzar] using e
theorem Same.setRow (w : World) (g : Nat) (cs : Array Value) : Same w (w.setRow g cs) := ⟨rfl,rfl,rfl,by simp [World.setRow]⟩
theorem zFP {t : TypeId} {n b o : Nat} (hn : zCB P t = some n) {x : AV} {u : Value} {M : Nat → Prop} {k : Nat} (hx : Rep w M ρ k x u) (hl : (cellsOf x).length = n) (h1 : c1s (cellsOf x) = true)
  {c : Array Value} {e : TypeId} {fr : Nat × Nat} (hh : w.heap[b]? = some (.cells c e fr)) (hfr : zMg fr c.size) (hb : o + n ≤ c.size) :
  (storeVar t ⟨b,o,none⟩ u).run P w = .ok () (w.setRow b (c.toList.take o ++ u.cells.toList ++ c.toList.drop (o + u.cells.toList.length)).toArray) := by
 obtain ⟨hc,hr⟩ := zB5 hx h1
 have hsz : u.cells.size = n := by omega
 have hst := zAX (P := P) b o e fr u.cells.toList 0 c w hh hfr (by simp [hsz]; omega) (fun v hv => by
  obtain ⟨i,hi⟩ := List.mem_iff_getElem?.1 hv
  have hlt : i < (cellsOf x).length := by
   have := (zYU.1 hi).1
   simp at this
   omega
  exact (hr i (cellsOf x)[i] v (by simp [hlt]) (by simpa using hi)).2)
 simp only [zZJ] at hst
 simp [storeVar,zBK hn,hsz,hst]
theorem zJq {cs new : List AV} {off : Nat} {t : TypeId} (hc : c1s new = true) (ho : off ≤ cs.length) (h : (splice cs off new)[0]? = some (.bnil t)) : cs[0]? = some (.bnil t) := by
 unfold splice at h
 cases off with
 | succ off =>
  cases cs with
  | nil => simp at ho
  | cons x cs => simpa using h
 | zero =>
  cases new with
  | nil => simpa using h
  | cons y new =>
   simp at h
   subst h
   simp [c1s,c1] at hc
theorem zRn (h : HRel w X ρ H) {r : Nat} {cs : List AV} (ho : H[r]? = some (.box cs)) {b : Nat} {c : Array Value} {e : TypeId} {fr : Nat × Nat} (hb : (ρ r).blk = some (b,0)) (hh : w.heap[b]? = some (.cells c e fr)) : ∀ t,cs[0]? = some (.bnil t) → e = t ∧ fr = (0,0) := by
 obtain ⟨_,b',c',e',fr',h2,h3,_,h5,_⟩ := h.objs r _ ho
 rw [hb] at h2
 cases h2
 rw [hh] at h3
 cases h3
 exact h5.2
theorem zMC {t : TypeId} {n : Nat} {p x : AV} {u v : Value} (hn : zCB P t = some n) (h : HRel w X ρ H) (hp : Rp w X ρ H p u) (hx : Rp w X ρ H x v) : zOP P (Instr.storeAt t u v) w X ρ H (rStore n p x H) := by
 have at_ : ∀ a : Addr,Instr.storeAt t (.pointer (some a)) v = storeVar t a v := fun a => rfl
 cases p with
 | ptr r ver off =>
  simp only [rStore]
  rintro ⟨⟨hb,hv⟩,hok⟩
  obtain ⟨cs,ho⟩ := zC3 hb
  rw [ho] at hv hok ⊢
  simp only [rStoreO] at hok
  obtain ⟨h1,h2,h3⟩ := hok
  obtain ⟨hr,b,c,e,fr,hblk,rfl,hh,hl,hfr,hver,hrep⟩ := zCQ h hp ho hv
  obtain ⟨hcl,hcr⟩ := zB5 hx h3
  rw [at_]
  have hst := zFP (P := P) hn hx h2 h3 hh hfr (o := off) (by omega)
  simp only [Res.also,rStoreO]
  obtain ⟨ρ',_,hrel,hfut⟩ := h.setAt (w' := w.setRow b (c.toList.take off ++ v.cells.toList ++ c.toList.drop (off + v.cells.toList.length)).toArray) hr (ρ r) (.box (splice cs off (cellsOf x)))
   (Same.setRow _ _ _) (.inl rfl) (fun b o hb => .inl ⟨o,hb⟩) (fun b' hb' hne => setRow_other _ _ _ _ (fun e => hne 0 (by rw [e]; exact hblk))) (fun ρ' hρ' hf => by
    refine ⟨hver,b,_,e,fr,hblk,setRow_heap w b c _ e fr hh,?_,?_,?_⟩
    ·simp [splice]; omega
    ·have : ((c.toList.take off ++ v.cells.toList ++ c.toList.drop (off + v.cells.toList.length)).toArray).size = c.size := by simp; omega
     rw [this]; exact ⟨hfr,fun t ht => zRn h ho hblk hh t (zJq h3 (by omega) ht)⟩
    ·intro j y z hy hz
     have hz' : (c.toList.take off ++ v.cells.toList ++ c.toList.drop (off + v.cells.toList.length))[j]? = some z := by simpa using hz
     rw [zAw _ _ _ _ (by simp; omega)] at hz'
     simp only [splice] at hy
     rw [zAw _ _ _ _ (by omega)] at hy
     have hlen : v.cells.toList.length = (cellsOf x).length := by simp; omega
     rw [hlen] at hz'
     by_cases hj1 : j < off
     ·rw [if_pos hj1] at hy hz'
      have := hrep j y z hy (by simpa using hz')
      exact ⟨this.1.nextN hf,this.2⟩
     ·rw [if_neg hj1] at hy hz'
      by_cases hj2 : j < off + (cellsOf x).length
      ·rw [if_pos hj2] at hy hz'
       have := hcr (j - off) y z hy (by simpa using hz')
       exact ⟨this.1.nextN hf,this.2⟩
      ·rw [if_neg hj2] at hy hz'
       have := hrep j y z hy (by simpa using hz')
       exact ⟨this.1.nextN hf,this.2⟩)
  exact ⟨trivial,_,ρ',hst,hrel,hfut⟩
 | pe r ver i off =>
  simp only [rStore]
  rintro ⟨⟨hb,hv⟩,hok⟩
  obtain ⟨ver',sz,xs,ho⟩ := zBo hb
  rw [ho] at hv hok ⊢
  simp only [rStoreO] at hok
  obtain ⟨h0,h1,h2,h3⟩ := hok
  simp only [isVer] at hv
  obtain ⟨hr,b,o,c,e,fr,hblk,rfl,hh,hext,hfr,hle,hrow,hsz0,hver,hszr,hrep⟩ := zNb h hp ho hv h0
  obtain ⟨hcl,hcr⟩ := zB5 hx h3
  have hgi : xs[i]? = some (xs.getD i []) := by simp [h0]
  have hxl : (xs.getD i []).length = sz := hrow _ (zZp hgi)
  have hin : o + (i * sz + off) + n ≤ c.size := by
   have : (i + 1) * sz ≤ xs.length * sz := zZB _ h0
   rw [zZO] at this
   omega
  rw [at_]
  have hst := zFP (P := P) hn hx h2 h3 hh hfr (o := o + (i * sz + off)) hin
  simp only [Res.also,rStoreO]
  have hlen : v.cells.toList.length = (cellsOf x).length := by simp; omega
  obtain ⟨ρ',_,hrel,hfut⟩ := h.setAt (w' := w.setRow b (c.toList.take (o + (i * sz + off)) ++ v.cells.toList ++ c.toList.drop (o + (i * sz + off) + v.cells.toList.length)).toArray) hr (ρ r) (.arr ver' sz (xs.set i (splice (xs.getD i []) off (cellsOf x))))
   (Same.setRow _ _ _) (.inl rfl) (fun b o hb => .inl ⟨o,hb⟩) (fun b' hb' hne => setRow_other _ _ _ _ (fun e => hne o (by rw [e]; exact hblk))) (fun ρ' hρ' hf => by
    have hsl : (splice (xs.getD i []) off (cellsOf x)).length = sz := by simp only [splice,zY3,zzap,zzai]; omega
    refine ⟨by omega,hszr,hsz0,?_,by simpa using hle,?_⟩
    ·intro y hy
     rcases zzbg hy with hy | rfl
     ·exact hrow y hy
     ·exact hsl
    ·rw [hblk]
     have hsize : ((c.toList.take (o + (i * sz + off)) ++ v.cells.toList ++ c.toList.drop (o + (i * sz + off) + v.cells.toList.length)).toArray).size = c.size := by simp; omega
     refine ⟨_,e,fr,setRow_heap w b c _ e fr hh,by rw [hsize]; exact hext,by rw [hsize]; exact hfr,?_⟩
     intro i' j x' y z hx' hy hz
     have hz' : (c.toList.take (o + (i * sz + off)) ++ v.cells.toList ++ c.toList.drop (o + (i * sz + off) + v.cells.toList.length))[o + i' * sz + j]? = some z := by simpa using hz
     rw [zAw _ _ _ _ (by simp; omega),hlen] at hz'
     have hold : ∀ (x'' : List AV),xs[i']? = some x'' → x''[j]? = some y → c[o + i' * sz + j]? = some z → Rep (w.setRow b (c.toList.take (o + (i * sz + off)) ++ v.cells.toList ++ c.toList.drop (o + (i * sz + off) + v.cells.toList.length)).toArray) (Mut X ρ' H.length) ρ' H.length y z ∧ one z = true := fun x'' g1 g2 g3 => by
      have := hrep i' j x'' y z g1 g2 g3
      exact ⟨this.1.nextN hf,this.2⟩
     by_cases hii : i' = i
     ·subst hii
      rw [zZs h0] at hx'
      simp only [zYT] at hx'
      subst hx'
      simp only [splice] at hy
      rw [zAw _ _ _ _ (by omega)] at hy
      by_cases hj1 : j < off
      ·rw [if_pos (by omega)] at hz'
       rw [if_pos hj1] at hy
       exact hold _ hgi hy (by simpa using hz')
      ·rw [if_neg (by omega)] at hz'
       rw [if_neg hj1] at hy
       by_cases hj2 : j < off + (cellsOf x).length
       ·rw [if_pos (by omega)] at hz'
        rw [if_pos hj2] at hy
        rw [show o + i' * sz + j - (o + (i' * sz + off)) = j - off by omega] at hz'
        have := hcr (j - off) y z hy (by simpa using hz')
        exact ⟨this.1.nextN hf,this.2⟩
       ·rw [if_neg (by omega)] at hz'
        rw [if_neg hj2] at hy
        exact hold _ hgi hy (by simpa using hz')
     ·rw [zZj (fun e => hii e.symm)] at hx'
      have hj : j < sz := by
       have := (zYU.1 hy).1
       rw [hrow x' (zZp hx')] at this
       exact this
      have hi' : i' < xs.length := (zYU.1 hx').1
      rcases Nat.lt_or_gt_of_ne hii with hlt | hgt
      ·have : (i' + 1) * sz ≤ i * sz := zZB _ hlt
       rw [zZO] at this
       rw [if_pos (by omega)] at hz'
       exact hold _ hx' hy (by simpa using hz')
      ·have : (i + 1) * sz ≤ i' * sz := zZB _ hgt
       rw [zZO] at this
       rw [if_neg (by omega),if_neg (by omega)] at hz'
       exact hold _ hx' hy (by simpa using hz'))
  exact ⟨trivial,_,ρ',hst,hrel,hfut⟩
 | _ => intro hok; exact hok.elim
end
section
variable {P : Program} {w : World} {X : Nat → Prop} {ρ : Nat → Loc} {H : zA}
theorem zFW (h : HRel w X ρ H) {b : Nat} (hb : w.heap.size ≤ b) : ¬ Mut X ρ H.length b := by
 rintro (hx | ho)
 ·have := h.xlt b hx; omega
 ·have := ho.lt h; omega
theorem zBz (w : World) (o : Obj) : (w.alloc o).heap[w.heap.size]? = some o := by
 show (w.heap.push o)[w.heap.size]? = _
 simp
theorem zHw (h : HRel w X ρ H) {cs : List AV} {c : Array Value} {t : TypeId} (hbn : ∀ t',cs[0]? = some (.bnil t') → t = t') (hl : cs.length = c.size) (hr : ∀ (j : Nat) (y : AV) (u : Value),cs[j]? = some y → c[j]? = some u → Rp w X ρ H y u ∧ one u = true) :
  ∃ ρ',HRel (w.alloc (.cells c t)) X ρ' (H ++ [.box cs]) ∧ Rep (w.alloc (.cells c t)) (Mut X ρ' (H ++ [HO.box cs]).length) ρ' (H ++ [HO.box cs]).length (.ptr H.length 0 0) (.pointer (some ⟨w.heap.size,0,none⟩)) ∧
   Fut w ρ H.length (w.alloc (.cells c t)) ρ' (H ++ [HO.box cs]).length := by
 obtain ⟨ρ',hl',hrel,hf⟩ := h.push (w' := w.alloc (.cells c t)) { blk := some (w.heap.size,0) } (.box cs) (Same.alloc _ _) (fun b o hb => by simp at hb; obtain ⟨rfl,_⟩ := hb; simp) (zAN w _)
  (fun ρ' hf hl' => ⟨rfl,w.heap.size,c,t,(0,0),rfl,zBz w _,hl,⟨.inl rfl,fun t' ht => ⟨hbn t' ht,rfl⟩⟩,fun j y u hy hu => ⟨((hr j y u hy hu).1.next hf (zZa _)).mono (Nat.le_succ _),(hr j y u hy hu).2⟩⟩)
 exact ⟨ρ',hrel,.ptr _ _ _ _ _ (by simp) (by rw [hl']; exact zZa _) rfl fun _ => ⟨w.heap.size,0,by rw [hl'],rfl⟩,hf⟩
theorem zMG {t : TypeId} {z : Value} (hz : zA2 P t = some z) (h : HRel w X ρ H) :
  zAP P (Instr.alloc t true (.tuple #[])) w X ρ H ⟨c1s (avs z.cells.toList) = true,.ptr H.length 0 0,H ++ [.box (avs z.cells.toList)]⟩ := by
 intro hc
 have hzr : (zeroValue t).run P w = .ok z w := by
  unfold zA2 at hz
  cases hi : P.info? t with
  | none => simp [hi] at hz
  | some i => simp [hi] at hz; simp [zeroValue,typeInfo,hi,hz]
 obtain ⟨ρ',h1,h2,h3⟩ := zHw h (cs := avs z.cells.toList) (c := z.cells) (t := t) (fun t' ht => by rw [avs,zZy] at ht; cases hz0 : z.cells.toList[0]? <;> rw [hz0] at ht <;> cases ht) (by simp [avs]) (fun j y u hy hu => by
  simp only [avs,zZy,zZT,hu,zZt,zYT] at hy
  subst hy
  refine ⟨.v _ _,?_⟩
  simp only [c1s,zZb,avs,zZK] at hc
  exact hc (.v u) ⟨u,zZp (by simpa using hu),rfl⟩)
 exact ⟨_,_,ρ',by simp [Instr.alloc,hzr,newVar,newRow],h1,h2,h3⟩
theorem zNT {x : AV} (h : zFd x = true) : x = .v (.pointer none) := by
 unfold zFd at h
 split at h
 ·rfl
 ·cases h
theorem zLo {t : TypeId} {z : Value} (hz : zA2 P t = some z) (h : HRel w X ρ H) :
  zAP P (Instr.alloc t true (.tuple #[])) w X ρ H ⟨zFd ((avs z.cells.toList).headD .any) = true ∧ c1s (avs z.cells.toList) = true,.ptr H.length 0 0,H ++ [.box (.bnil t :: (avs z.cells.toList).drop 1)]⟩ := by
 rintro ⟨hn,hc⟩
 have hzr : (zeroValue t).run P w = .ok z w := by
  unfold zA2 at hz
  cases hi : P.info? t with
  | none => simp [hi] at hz
  | some i => simp [hi] at hz; simp [zeroValue,typeInfo,hi,hz]
 have hn := zNT hn
 have hne : ∃ l,z.cells.toList = .pointer none :: l := by
  cases hzl : z.cells.toList with
  | nil => rw [hzl] at hn; cases hn
  | cons u l => rw [hzl] at hn; simp [avs] at hn; exact ⟨l,by rw [hn]⟩
 obtain ⟨l,hl⟩ := hne
 have hcs : .bnil t :: (avs z.cells.toList).drop 1 = .bnil t :: l.map .v := by rw [hl]; simp [avs]
 rw [hl] at hc
 have hsz : z.cells.size = l.length + 1 := by rw [← Array.length_toList,hl]; rfl
 have hget : ∀ j : Nat,z.cells[j]? = (.pointer none :: l)[j]? := fun j => by rw [← zZT,hl]
 rw [hcs]
 obtain ⟨ρ',h1,h2,h3⟩ := zHw h (cs := .bnil t :: l.map .v) (c := z.cells) (t := t) (fun t' ht => by cases ht; rfl) (by simp [hsz]) (fun j y u hy hu => by
  rw [hget] at hu
  cases j with
  | zero => cases hy; cases hu; exact ⟨.bnil _ _,rfl⟩
  | succ j =>
   simp only [zY7,zZy] at hy hu
   rw [hu] at hy
   cases hy
   refine ⟨.v _ _,?_⟩
   simp only [c1s,zZb,avs,zZK] at hc
   exact hc (.v u) ⟨u,by simp [zZp hu],rfl⟩)
 exact ⟨_,_,ρ',by simp [Instr.alloc,hzr,newVar,newRow],h1,h2,h3⟩
theorem zRU {t : TypeId} {imm : Bool} {x : AV} {u : Value} (h : HRel w X ρ H) (hx : Rp w X ρ H x u) : zAP P (Instr.box t u) w X ρ H (rBox imm x H) := by
 have hrun : (Instr.box t u).run P w = .ok (.pointer (some ⟨w.heap.size,0,none⟩)) (w.alloc (.cells u.cells t)) := by simp [Instr.box,newVar,newRow]
 unfold rBox
 cases imm with
 | true =>
  rw [if_pos rfl]
  rintro ⟨h1,h2⟩
  obtain ⟨hl,hr⟩ := zB5 hx h1
  obtain ⟨hrel,hf⟩ := h.more (w' := w.alloc (.cells u.cells t)) (Same.alloc _ _) (zAN w _)
  refine ⟨_,_,ρ,hrun,hrel,?_,hf⟩
  have := Rep.vp (w := w.alloc (.cells u.cells t)) (M := Mut X ρ H.length) (ρ := ρ) H.length (cellsOf x) 0 w.heap.size 0 (fun j => u.cells.getD j undef) (zFW h (zZa _)) (by simp)
   (fun j y hy => by
    have hlt : j < u.cells.size := by have := (zYU.1 hy).1; omega
    refine ⟨?_,?_⟩
    ·rw [zAD (zBz w _),zZw]; simp [hlt]
    ·exact (hr j y _ hy (by simp [hlt])).2)
   (fun j y hy => by
    have hlt : j < u.cells.size := by have := (zYU.1 hy).1; omega
    exact ((hr j y (u.cells.getD j undef) hy (by simp [hlt])).1.of_cl (zDn h2 hy)).next hf (zZm _))
  exact this
 | false =>
  rw [if_neg (by simp)]
  intro h1
  obtain ⟨hl,hr⟩ := zB5 hx h1
  obtain ⟨ρ',h1,h2,h3⟩ := zHw h (t := t) (fun t' ht => by
   have hm := zZp ht
   rw [c1s,zZb] at h1
   have := h1 _ hm
   cases this) hl hr
  exact ⟨_,_,ρ',hrun,h1,h2,h3⟩
theorem zKS (off : Nat) : ∀ (vs : List Value) (s : Nat) (c : Array Value),off + s + vs.length ≤ c.size →
  ((vs.zipIdx s).foldl (fun cs (x : Value × Nat) => cs.setIfInBounds (off + x.2) x.1) c).size = c.size ∧
  ∀ k,((vs.zipIdx s).foldl (fun cs (x : Value × Nat) => cs.setIfInBounds (off + x.2) x.1) c)[k]? = if off + s ≤ k ∧ k < off + s + vs.length then vs[k - (off + s)]? else c[k]?
 | [],s,c,_ => by simp; intro k h1 h2; omega
 | v :: vs,s,c,h => by
  simp only [zYZ] at h
  obtain ⟨h1,h2⟩ := zKS off vs (s + 1) (c.setIfInBounds (off + s) v) (by simp; omega)
  simp only [List.zipIdx_cons,zzaL]
  refine ⟨by rw [h1]; simp,fun k => ?_⟩
  rw [h2 k]
  simp only [zYZ]
  by_cases hk : k = off + s
  ·subst hk
   rw [if_neg (by omega),if_pos (by omega)]
   simp [show off + s < c.size by omega]
  ·by_cases hk2 : off + s < k ∧ k < off + s + (vs.length + 1)
   ·rw [if_pos (by omega),if_pos (by omega)]
    rw [show k - (off + s) = (k - (off + (s + 1))) + 1 by omega,zY7]
   ·rw [if_neg (by omega),if_neg (by omega),zZW (by omega)]
theorem zJ7 (off : Nat) (v c : Array Value) (h : off + v.size ≤ c.size) :
  (v.zipIdx.foldl (fun cs (x : Value × Nat) => cs.setIfInBounds (off + x.2) x.1) c).size = c.size ∧
  ∀ k,(v.zipIdx.foldl (fun cs (x : Value × Nat) => cs.setIfInBounds (off + x.2) x.1) c)[k]? = if off ≤ k ∧ k < off + v.size then v[k - off]? else c[k]? := by
 have := zKS off v.toList 0 c (by simpa using h)
 rw [← zzaG,Array.toList_zipIdx]
 simpa using this
def zV3 (w : World) (X : Nat → Prop) (ρ : Nat → Loc) (H : zA) (place : Nat → Option (Nat × Nat)) : List (Nat × Value) → List (Nat × Nat × AV) → Prop
 | [],[] => True
 | (i,u) :: l,(off,n,x) :: m => place i = some (off,n) ∧ Rp w X ρ H x u ∧ zV3 w X ρ H place l m
 | _,_ => False
theorem zJU {place : Nat → Option (Nat × Nat)} : ∀ (l : List (Nat × Value)) (m : List (Nat × Nat × AV)) (cs : List AV) (c : Array Value),zV3 w X ρ H place l m → cs.length = c.size →
  (∀ (j : Nat) (y : AV) (u : Value),cs[j]? = some y → c[j]? = some u → Rp w X ρ H y u) → (fillA cs m).1 →
  ∃ c',Instr.fill place c l = some c' ∧ (fillA cs m).2.length = c'.size ∧ ∀ (j : Nat) (y : AV) (u : Value),(fillA cs m).2[j]? = some y → c'[j]? = some u → Rp w X ρ H y u
 | [],[],cs,c,_,hl,hr,_ => ⟨c,rfl,hl,hr⟩
 | [],_ :: _,_,_,h,_,_,_ => h.elim
 | _ :: _,[],_,_,h,_,_,_ => h.elim
 | (i,u) :: l,(off,n,x) :: m,cs,c,⟨hp,hx,hrest⟩,hl,hr,hok => by
  simp only [fillA] at hok ⊢
  obtain ⟨⟨h1,h2,h3⟩,hok⟩ := hok
  obtain ⟨hcl,hcr⟩ := zB5 hx h3
  have hsz : u.cells.size = n := by omega
  obtain ⟨z1,z2⟩ := zJ7 off u.cells c (by omega)
  have hspl : (splice cs off (cellsOf x)).length = cs.length := by simp only [splice,zY3,zzap,zzai]; omega
  obtain ⟨c',f1,f2,f3⟩ := zJU l m (splice cs off (cellsOf x)) _ hrest (by rw [hspl,z1]; exact hl) (fun j y v hy hv => by
   rw [z2 j] at hv
   simp only [splice] at hy
   rw [zAw _ _ _ _ (by omega)] at hy
   by_cases hj1 : j < off
   ·rw [if_neg (by omega)] at hv; rw [if_pos hj1] at hy; exact hr j y v hy hv
   ·rw [if_neg hj1] at hy
    by_cases hj2 : j < off + (cellsOf x).length
    ·rw [if_pos (by omega)] at hv; rw [if_pos hj2] at hy; exact (hcr _ y v hy hv).1
    ·rw [if_neg (by omega)] at hv; rw [if_neg hj2] at hy; exact hr j y v hy hv) hok
  refine ⟨c',?_,f2,f3⟩
  simp only [Instr.fill,hp]
  rw [if_neg (by simp [hsz]; omega)]
  exact f1
theorem zHi {t : TypeId} {z : Value} (hz : zA2 P t = some z) (w : World) : (zeroValue t).run P w = .ok z w := by
 unfold zA2 at hz
 cases hi : P.info? t with
 | none => simp [hi] at hz
 | some i => simp [hi] at hz; simp [zeroValue,typeInfo,hi,hz]
theorem zGM : ∀ (fs : List Field) (pl : List (Nat × Nat)),zCJ P fs = some pl → ∀ w,(fs.mapM (fun f => (do pure (f.offset,← sizeOf f.type) : Sem (Nat × Nat)))).run P w = .ok pl w
 | [],pl,h,w => by simp [zCJ] at h; subst h; simp
 | f :: fs,pl,h,w => by
  simp only [zCJ] at h
  cases hn : zCB P f.type with
  | none => simp [hn] at h
  | some n =>
   cases hm : zCJ P fs with
   | none => simp [hn,hm] at h
   | some m =>
    simp [hn,hm] at h
    subst h
    have := zGM fs m hm w
    simp only [List.mapM_cons,Sem.run_bind,zBK hn,Result.andThen_ok,Sem.run_pure] at this ⊢
    rw [this]
    rfl
theorem zOJ {cs : List AV} {c : Array Value} (hl : cs.length = c.size) (hr : ∀ (j : Nat) (y : AV) (u : Value),cs[j]? = some y → c[j]? = some u → Rp w X ρ H y u) : Rp w X ρ H (.agg cs) (.agg c) := .agg _ _ _ hl hr
theorem zOE (c : Array Value) : ∀ (j : Nat) (y : AV) (u : Value),(avs c.toList)[j]? = some y → c[j]? = some u → Rp w X ρ H y u := by
 intro j y u hy hu
 simp only [avs,zZy,zZT,hu,zZt,zYT] at hy
 subst hy
 exact .v _ _
theorem zFi {t : TypeId} {z : Array Value} {fs : Array Field} {pl : List (Nat × Nat)} {ps : Array (Nat × Value)} {m : List (Nat × Nat × AV)} (hz : zA2 P t = some (.agg z)) (ht : P.underlying t = some (.struct fs)) (hp : zCJ P fs.toList = some pl)
  (h : HRel w X ρ H) (hps : zV3 w X ρ H (fun i => pl[i]?) ps.toList m) : zAP P (Instr.build t ps) w X ρ H (rBuild (avs z.toList) m H) := by
 unfold rBuild
 refine zR h fun hok => ?_
 obtain ⟨c',f1,f2,f3⟩ := zJU ps.toList m (avs z.toList) z hps (by simp [avs]) (zOE z) hok
 refine ⟨.agg c',?_,zOJ f2 f3⟩
 have hpl : (fs.mapM (fun f => (do pure (f.offset,← sizeOf f.type) : Sem (Nat × Nat)))).run P w = .ok pl.toArray w := by
  rw [zzbh,Sem.run_map,zGM fs.toList pl hp w]
  rfl
 have hf : Instr.fill (fun x => pl.toArray[x]?) z ps.toList = some c' := by simpa using f1
 unfold Instr.build
 simp only [Sem.run_bind,zHi hz,Result.andThen_ok,run_underlying ht,hpl,Value.cells,hf,Sem.run_pure]
theorem zFS {t el : TypeId} {n sz : Nat} {z : Array Value} {ps : Array (Nat × Value)} {m : List (Nat × Nat × AV)} (hz : zA2 P t = some (.agg z)) (ht : P.underlying t = some (.array n el)) (hsz : zCB P el = some sz)
  (h : HRel w X ρ H) (hps : zV3 w X ρ H (fun i => some (i * sz,sz)) ps.toList m) : zAP P (Instr.build t ps) w X ρ H (rBuild (avs z.toList) m H) := by
 unfold rBuild
 refine zR h fun hok => ?_
 obtain ⟨c',f1,f2,f3⟩ := zJU ps.toList m (avs z.toList) z hps (by simp [avs]) (zOE z) hok
 refine ⟨.agg c',?_,zOJ f2 f3⟩
 unfold Instr.build
 simp only [Sem.run_bind,zHi hz,Result.andThen_ok,run_underlying ht,zBK hsz,Value.cells,f1,Sem.run_pure]
end
section
variable {P : Program} {w w1 : World} {X : Nat → Prop} {ρ : Nat → Loc} {H : zA}
theorem zBp {C : Array Value} {k : Nat} (h : k < C.size) : C[k]? = some (C.getD k undef) := by simp [h]
structure Rows (w : World) (M : Nat → Prop) (ρ : Nat → Loc) (k : Nat) (C : Array Value) (o sz : Nat) (xs : List (List AV)) : Prop where
 fit : o + xs.length * sz ≤ C.size
 row : ∀ x ∈ xs,x.length = sz
 rep : ∀ (i j : Nat) (x : List AV) (y : AV) (u : Value),xs[i]? = some x → x[j]? = some y → C[o + i * sz + j]? = some u → Rep w M ρ k y u ∧ one u = true
theorem Rows.up {M : Nat → Prop} {C : Array Value} {o sz : Nat} {xs : List (List AV)} (h : Rows w M ρ 0 C o sz xs) (k : Nat) : Rows w M ρ k C o sz xs := ⟨h.fit,h.row,fun i j x y u hx hy hu => ⟨(h.rep i j x y u hx hy hu).1.mono (zZm _),(h.rep i j x y u hx hy hu).2⟩⟩
theorem Rows.lt {M : Nat → Prop} {C : Array Value} {k o sz : Nat} {xs : List (List AV)} (h : Rows w M ρ k C o sz xs) {i j : Nat} {x : List AV} {y : AV} (hx : xs[i]? = some x) (hy : x[j]? = some y) : o + i * sz + j < C.size := by
 have h1 : i < xs.length := (zYU.1 hx).1
 have h2 : j < x.length := (zYU.1 hy).1
 rw [h.row x (zZp hx)] at h2
 have := zAY h1 h2
 have := h.fit
 omega
theorem zNw (h : HRel w X ρ H) (hs : Same w w1) (keep : ∀ b,b < w.heap.size → w1.heap[b]? = w.heap[b]?) {b : Nat} {C : Array Value} {el : TypeId} {fr : Nat × Nat} (hb : w.heap.size ≤ b) (hb1 : b < w1.heap.size)
  (hh : w1.heap[b]? = some (.cells C el fr)) {sz cap : Nat} {xs : List (List AV)} (hr : Rows w (Mut X ρ H.length) ρ 0 C 0 sz xs) (hc : xs.length ≤ cap) :
  HRel w1 X ρ H ∧ Rp w1 X ρ H (.sl sz xs) (.slice (some ⟨b,0,none⟩) xs.length cap) ∧ Fut w ρ H.length w1 ρ H.length := by
 obtain ⟨hrel,hf⟩ := h.more hs keep
 refine ⟨hrel,?_,hf⟩
 refine .slN _ _ _ _ _ _ (fun i j => C.getD (0 + i * sz + j) undef) (zFW h hb) hb1 hc hr.row (fun i j x y hx hy => ?_) (fun i j x y hx hy => ?_)
 ·have hlt := hr.lt hx hy
  refine ⟨?_,?_⟩
  ·rw [zAD hh]; exact zBp hlt
  ·exact (hr.rep i j x y _ hx hy (zBp hlt)).2
 ·have hlt := hr.lt hx hy
  exact (hr.rep i j x y _ hx hy (zBp hlt)).1.next hf (zZm _)
theorem zJH (h : HRel w X ρ H) (hs : Same w w1) (keep : ∀ b,b < w.heap.size → w1.heap[b]? = w.heap[b]?) {b : Nat} {C : Array Value} {el : TypeId} {fr : Nat × Nat} (hb : w.heap.size ≤ b) (hb1 : b < w1.heap.size)
  (hh : w1.heap[b]? = some (.cells C el fr)) (hfr : zMg fr C.size) {sz len cap : Nat} {xs : List (List AV)} (hsz : 0 < sz) (hr : Rows w (Mut X ρ H.length) ρ H.length C 0 sz xs) (hl : len ≤ cap) (hc : cap * sz ≤ C.size) :
  ∃ ρ',HRel w1 X ρ' (H ++ [.arr 0 sz xs]) ∧ Rep w1 (Mut X ρ' (H ++ [HO.arr 0 sz xs]).length) ρ' (H ++ [HO.arr 0 sz xs]).length (.os H.length 0 0 len) (.slice (some ⟨b,0,none⟩) len cap) ∧ Fut w ρ H.length w1 ρ' (H ++ [HO.arr 0 sz xs]).length := by
 obtain ⟨ρ',hl',hrel,hf⟩ := h.push (w' := w1) { blk := some (b,0),ext := C.size,sz := sz } (.arr 0 sz xs) hs (fun b' o hb' => by simp at hb'; obtain ⟨rfl,_⟩ := hb'; exact ⟨hb,hb1⟩) keep
  (fun ρ' hf hl' => by
   refine ⟨rfl,rfl,hsz,hr.row,by simpa using hr.fit,C,el,fr,hh,by simp,hfr,fun i j x y u hx hy hu => ?_⟩
   have := hr.rep i j x y u hx hy hu
   exact ⟨this.1.nextN hf,this.2⟩)
 refine ⟨ρ',hrel,?_,hf⟩
 refine .os _ _ _ _ _ _ (by simp) (by rw [hl']; exact zZa _) rfl fun _ => ⟨_,_,rfl,hl,.inr ⟨b,0,by rw [hl'],by simp,?_⟩⟩
 rw [hl']
 simpa using hc
theorem zKB (h : HRel w X ρ H) {sz : Nat} (hsz : 0 < sz) (a : Option Addr) :
  ∃ ρ',HRel w X ρ' (H ++ [.arr 0 sz []]) ∧ Rep w (Mut X ρ' (H ++ [HO.arr 0 sz []]).length) ρ' (H ++ [HO.arr 0 sz []]).length (.os H.length 0 0 0) (.slice a 0 0) ∧ Fut w ρ H.length w ρ' (H ++ [HO.arr 0 sz []]).length := by
 obtain ⟨ρ',hl',hrel,hf⟩ := h.push (w' := w) { blk := none,sz := sz } (.arr 0 sz []) (Same.refl w) (fun b' o hb' => by simp at hb') (fun _ _ => rfl)
  (fun ρ' hf hl' => ⟨rfl,rfl,hsz,fun x hx => by simp at hx,by simp,rfl⟩)
 exact ⟨ρ',hrel,.os _ _ _ _ _ _ (by simp) (by rw [hl']; exact zZa _) rfl fun _ => ⟨_,_,rfl,zZa _,.inl rfl⟩,hf⟩
theorem zH6 {M : Nat → Prop} {z : Array Value} {sz n : Nat} (hz : z.size = sz) (h1 : z.toList.all one = true) : Rows w M ρ 0 ((Array.range (n * sz)).map (fun k => z[k % z.size]!)) 0 sz (List.replicate n (avs z.toList)) := by
 refine ⟨by simp,fun x hx => by rw [List.eq_of_mem_replicate hx]; simp [avs,hz],fun i j x y u hx hy hu => ?_⟩
 have hi : i < n := by have := (zYU.1 hx).1; simpa using this
 rw [List.getElem?_replicate,if_pos hi] at hx
 simp only [zYT] at hx
 subst hx
 have hj : j < sz := by have := (zYU.1 hy).1; simp [avs] at this; omega
 have hlt : i * sz + j < n * sz := zAY hi hj
 have hmod : (i * sz + j) % z.size = j := by rw [hz,zzaV,zzbe,Nat.mod_eq_of_lt hj]
 have hjz : j < z.size := by omega
 simp only [zZw,Array.getElem?_map,Array.getElem?_range,hlt,if_true,zZt,zYT,hmod] at hu
 have hu' : z[j] = u := by rw [← hu]; simp [hjz]
 simp only [avs,zZy,zZT,zzan hjz,zZt,zYT] at hy
 subst hy hu'
 refine ⟨.v _ _,?_⟩
 exact zZb.1 h1 _ (by simp)
def zXc (w : World) (X : Nat → Prop) (ρ : Nat → Loc) (H : zA) : List (Nat × Value) → List (Nat × AV) → Prop
 | [],[] => True
 | (i,u) :: l,(i',x) :: m => i = i' ∧ Rp w X ρ H x u ∧ zXc w X ρ H l m
 | _,_ => False
theorem zKU {sz : Nat} : ∀ (l : List (Nat × Value)) (m : List (Nat × AV)) (xs : List (List AV)) (c : Array Value),zXc w X ρ H l m → c.size = xs.length * sz → Rows w (Mut X ρ H.length) ρ 0 c 0 sz xs → (fillS sz xs m).1 →
  ∃ c',Instr.fill (fun i => some (i * sz,sz)) c l = some c' ∧ (fillS sz xs m).2.length = xs.length ∧ c'.size = c.size ∧ Rows w (Mut X ρ H.length) ρ 0 c' 0 sz (fillS sz xs m).2
 | [],[],xs,c,_,_,hr,_ => ⟨c,rfl,rfl,rfl,hr⟩
 | [],_ :: _,_,_,h,_,_,_ => h.elim
 | _ :: _,[],_,_,h,_,_,_ => h.elim
 | (i,u) :: l,(i',x) :: m,xs,c,⟨hi,hx,hrest⟩,hc,hr,hok => by
  subst hi
  simp only [fillS] at hok ⊢
  obtain ⟨⟨h1,h2,h3,h4⟩,hok⟩ := hok
  obtain ⟨hcl,hcr⟩ := zB5 hx h3
  have hsz : u.cells.size = sz := by omega
  have hfit : i * sz + u.cells.size ≤ c.size := by
   have : (i + 1) * sz ≤ xs.length * sz := zZB _ h2
   rw [zZO] at this
   omega
  obtain ⟨z1,z2⟩ := zJ7 (i * sz) u.cells c hfit
  obtain ⟨c',f1,f2,f3,f4⟩ := zKU l m (xs.set i (cellsOf x)) _ hrest (by rw [z1]; simpa using hc) ⟨by rw [z1]; simpa using hr.fit,fun y hy => by
   rcases zzbg hy with hy | rfl
   ·exact hr.row y hy
   ·exact h1,fun i' j x' y v hx' hy hv => by
   rw [z2] at hv
   by_cases hii : i' = i
   ·subst hii
    rw [zZs h2] at hx'
    simp only [zYT] at hx'
    subst hx'
    have hj : j < (cellsOf x).length := (zYU.1 hy).1
    rw [if_pos (by omega),show 0 + i' * sz + j - i' * sz = j by omega] at hv
    have := hcr j y v hy hv
    exact ⟨this.1.of_cl (zDn h4 hy),this.2⟩
   ·rw [zZj (fun e => hii e.symm)] at hx'
    have hj : j < sz := by
     have := (zYU.1 hy).1
     rwa [hr.row x' (zZp hx')] at this
    have hne : ¬ (i * sz ≤ 0 + i' * sz + j ∧ 0 + i' * sz + j < i * sz + u.cells.size) := by
     rcases Nat.lt_or_gt_of_ne hii with hlt | hgt
     ·have : (i' + 1) * sz ≤ i * sz := zZB _ hlt
      rw [zZO] at this
      omega
     ·have : (i + 1) * sz ≤ i' * sz := zZB _ hgt
      rw [zZO] at this
      omega
    rw [if_neg hne] at hv
    exact hr.rep i' j x' y v hx' hy hv⟩ hok
  refine ⟨c',?_,by rw [f2]; simp,by rw [f3,z1],f4⟩
  simp only [Instr.fill]
  rw [if_neg (by simp [hsz]; omega)]
  exact f1
theorem zRT {t el : TypeId} {imm : Bool} {sz len : Nat} {z : Value} {ps : Array (Nat × Value)} {m : List (Nat × AV)} (ht : P.underlying t = some (.slice el)) (hn : zCB P el = some sz) (hz : zA2 P el = some z)
  (hsz : 0 < sz) (hzs : z.cells.size = sz) (hbig : len * sz ≤ 16777216) (h1 : z.cells.toList.all one = true) (h : HRel w X ρ H) (hps : zXc w X ρ H ps.toList m) :
  zAP P (Instr.buildSlice t len ps) w X ρ H (rBsl imm sz len (avs z.cells.toList) m H) := by
 have key : (fillS sz (List.replicate len (avs z.cells.toList)) m).1 → ∃ c',(Instr.buildSlice t len ps).run P w = .ok (.slice (some ⟨w.heap.size,0,none⟩) len len) (w.alloc (.cells c' el)) ∧ c'.size = len * sz ∧
   (fillS sz (List.replicate len (avs z.cells.toList)) m).2.length = len ∧ Rows w (Mut X ρ H.length) ρ 0 c' 0 sz (fillS sz (List.replicate len (avs z.cells.toList)) m).2 := by
  intro hok
  obtain ⟨c',f1,f2,f3,f4⟩ := zKU ps.toList m (List.replicate len (avs z.cells.toList)) ((Array.range (len * sz)).map (fun k => z.cells[k % z.cells.size]!)) hps (by simp) (zH6 hzs h1) hok
  refine ⟨c',?_,by rw [f3]; simp,by rw [f2]; simp,f4⟩
  unfold Instr.buildSlice
  simp only [Sem.run_bind,run_underlying ht,Result.andThen_ok,zBK hn,Sem.run_ite]
  rw [if_neg (by omega)]
  by_cases h0 : len * sz = 0
  ·rw [h0] at f1
   have e0 : (Array.range 0).map (fun k => (#[] : Array Value)[k % (#[] : Array Value).size]!) = (Array.range 0).map (fun k => z.cells[k % z.cells.size]!) := by simp
   simp only [h0,if_true,Sem.run_pure,Result.andThen_ok,e0,f1,newRow,Sem.run_bind,run_newObj]
   rfl
  ·simp only [h0,if_false,Sem.run_bind,zHi hz,Sem.run_pure,Result.andThen_ok,f1,newRow,run_newObj]
   rfl
 unfold rBsl
 cases imm with
 | true =>
  rw [if_pos rfl]
  intro hok
  obtain ⟨c',hrun,hcs,hlen,hrows⟩ := key hok
  obtain ⟨g1,g2,g3⟩ := zNw (w1 := w.alloc (.cells c' el)) h (Same.alloc _ _) (zAN w _) (zZa _) (by simp) (zBz w _) hrows (cap := len) (by omega)
  rw [hlen] at g2
  by_cases h0 : len = 0
  ·subst h0
   refine ⟨_,_,ρ,hrun,g1,?_,g3⟩
   simp only [if_true]
   exact .nc _ _
  ·exact ⟨_,_,ρ,hrun,g1,by simp only [if_neg h0]; exact g2,g3⟩
 | false =>
  rw [if_neg (by simp)]
  intro hok
  obtain ⟨c',hrun,hcs,hlen,hrows⟩ := key hok
  obtain ⟨ρ',g1,g2,g3⟩ := zJH (w1 := w.alloc (.cells c' el)) h (Same.alloc _ _) (zAN w _) (zZa _) (by simp) (zBz w _) (.inl rfl) hsz (hrows.up _) (len := len) (cap := len) (zZa _) (by omega)
  exact ⟨_,_,ρ',hrun,g1,g2,g3⟩
theorem zRM {t el : TypeId} {i : TypeInfo} {z : Value} {len cap : AV} {u v : Value} (ht : P.underlying t = some (.slice el)) (hi : P.info? el = some i) (hz : i.zero = some z) (hsz : 0 < i.size) (hzs : z.cells.size = i.size)
  (h1 : z.cells.toList.all one = true) (h : HRel w X ρ H) (hl : Rp w X ρ H len u) (hc : Rp w X ρ H cap v) : zAP P (Instr.makeSlice t u v) w X ρ H (rMsl i.size i.bytes (avs z.cells.toList) len cap H) := by
 cases len with
 | v x =>
  have := zAJ hl; subst this
  cases cap with
  | v y =>
   have := zAJ hc; subst this
   cases u <;> first | exact zE | skip
   rename_i k n
   cases k <;> first | exact zE | skip
   cases v <;> first | exact zE | skip
   rename_i k c
   cases k <;> first | exact zE | skip
   rintro ⟨h0,h2,h3,h4,h5⟩
   have wn : IntKind.i64.wrap n = n := IntWalk.i64_in _ (by omega)
   have wc : IntKind.i64.wrap c = c := IntWalk.i64_in _ (by omega)
   have hrun : (Instr.makeSlice t (.int .i64 n) (.int .i64 c)).run P w = .ok (.slice (some ⟨w.heap.size,0,none⟩) n.toNat c.toNat) (w.alloc (.cells ((Array.range (c.toNat * i.size)).map (fun k => z.cells[k % z.cells.size]!)) el)) := by
    have e1 : ¬ (i.bytes : Int) * c > 2 ^ 48 := by
     have : (i.bytes : Int) * c = c * i.bytes := Int.mul_comm _ _
     omega
    have e2 : ¬ c < 0 := by omega
    have e3 : ¬ n < 0 := by omega
    have e4 : ¬ n > c := by omega
    have e5 : (askRoom (c.toNat * i.bytes)).run P w = .ok () w := by
     unfold askRoom
     split <;> rfl
    unfold Instr.makeSlice
    simp only [Sem.run_bind,run_underlying ht,Result.andThen_ok,asInt,asIntOf,Sem.run_pure,typeInfo,run_program,hi,wn,wc]
    simp only [e1,e2,e3,e4,decide_false,Bool.or_false,zZn,if_false,e5,Result.andThen_ok,sizeOf,typeInfo,Sem.run_bind,run_program,hi,Sem.run_pure,Sem.run_ite,zeroValue,hz,newRow,run_newObj]
    by_cases hc0 : c.toNat * i.size = 0
    ·simp [hc0,Array.range_zero']
    ·simp [hc0]
   obtain ⟨ρ',g1,g2,g3⟩ := zJH (w1 := w.alloc (.cells ((Array.range (c.toNat * i.size)).map (fun k => z.cells[k % z.cells.size]!)) el)) h (Same.alloc _ _) (zAN w _) (zZa _) (by simp) (zBz w _) (.inl rfl) hsz
    ((zH6 (n := c.toNat) hzs h1).up _) (len := n.toNat) (cap := c.toNat) (by omega) (by simp)
   exact ⟨_,_,ρ',hrun,g1,g2,g3⟩
  | _ => cases u <;> first | exact zE | (rename_i k n; cases k <;> exact zE)
 | _ => exact zE
end
section
variable {P : Program} {w w1 : World} {X : Nat → Prop} {ρ : Nat → Loc} {H : zA}
theorem zDe (h : HRel w X ρ H) {x : AV} {u : Value} {sz : Nat} {ys : List (List AV)} (hx : Rp w X ρ H x u) (hy : rowsOf H x = some ys) (hs : szOk H sz x) (hsz : 0 < sz) :
  (Builtin.lenOf u).run P w = .ok ys.length w ∧ ∀ m,m ≤ ys.length → ∃ cs : List Value,cs.length = m * sz ∧ (∀ w2 : World,(∀ a,w2.cell? a = w.cell? a) → (Builtin.firstCells sz m u).run P w2 = .ok cs.toArray w2) ∧ (∀ v ∈ cs,one v = true) ∧ (∀ y ∈ ys,y.length = sz) ∧
   ∀ (i j : Nat) (y : List AV) (z : AV) (v : Value),i < m → ys[i]? = some y → y[j]? = some z → cs[i * sz + j]? = some v → Rep w (Mut X ρ H.length) ρ H.length z v := by
 have mem : ∀ (b o len cap : Nat) (c : Nat → Nat → Value),(∀ y ∈ ys,y.length = sz) →
   (∀ (i j : Nat) (y : List AV) (z : AV),ys[i]? = some y → y[j]? = some z → w.cell? ⟨b,o + i * sz + j,none⟩ = some (c i j) ∧ one (c i j) = true ∧ Rep w (Mut X ρ H.length) ρ H.length z (c i j)) →
   ∀ m,m ≤ ys.length → ∃ cs : List Value,cs.length = m * sz ∧ (∀ w2 : World,(∀ a,w2.cell? a = w.cell? a) → (Builtin.firstCells sz m (.slice (some ⟨b,o,none⟩) len cap)).run P w2 = .ok cs.toArray w2) ∧ (∀ v ∈ cs,one v = true) ∧ (∀ y ∈ ys,y.length = sz) ∧
    ∀ (i j : Nat) (y : List AV) (z : AV) (v : Value),i < m → ys[i]? = some y → y[j]? = some z → cs[i * sz + j]? = some v → Rep w (Mut X ρ H.length) ρ H.length z v := by
  intro b o len cap c hrow hcell m hm
  have hat : ∀ k,k < m * sz → w.cell? ⟨b,o + k,none⟩ = some (c (k / sz) (k % sz)) ∧ one (c (k / sz) (k % sz)) = true := by
   intro k hk
   have h1 : k / sz < m := Nat.div_lt_of_lt_mul (by rw [Nat.mul_comm]; exact hk)
   have h2 : k % sz < sz := Nat.mod_lt _ hsz
   have h3 : k / sz < ys.length := by omega
   have h4 : ys[k / sz]? = some ys[k / sz] := by simp [h3]
   have h5 := hrow _ (zZp h4)
   have h6 : (ys[k / sz])[k % sz]? = some ((ys[k / sz])[k % sz]'(by omega)) := by simp [h5,h2]
   have := hcell _ _ _ _ h4 h6
   have e : o + k / sz * sz + k % sz = o + k := by have := Nat.div_add_mod k sz; rw [Nat.mul_comm] at this; omega
   rw [e] at this
   exact ⟨this.1,this.2.1⟩
  refine ⟨(List.range (m * sz)).map fun k => c (k / sz) (k % sz),by simp,?_,?_,hrow,?_⟩
  ·intro w2 hw2
   unfold Builtin.firstCells
   rw [run_loadCells w2 ⟨b,o,none⟩ (m * sz) (fun k => c (k / sz) (k % sz)) (fun j hj => by rw [Addr.add_lit,hw2]; exact (hat j hj).1)]
  ·intro v hv
   simp only [zZK,zZE] at hv
   obtain ⟨k,hk,rfl⟩ := hv
   exact (hat k hk).2
  ·intro i j y z v hi hy hz hv
   have hj : j < sz := by
    have := (zYU.1 hz).1
    rwa [hrow y (zZp hy)] at this
   have hlt : i * sz + j < m * sz := zAY hi hj
   simp only [zZy,List.getElem?_range hlt,zZt,zYT] at hv
   have e1 : (i * sz + j) / sz = i := by rw [zzaV,Nat.add_mul_div_right _ _ hsz,Nat.div_eq_of_lt hj,zZw]
   have e2 : (i * sz + j) % sz = j := by rw [zzaV,zzbe,Nat.mod_eq_of_lt hj]
   rw [e1,e2] at hv
   subst hv
   exact (hcell i j y z hy hz).2.2
 have none_ : ys = [] → ∀ (a : Option Addr) (len cap : Nat),u = .slice a len cap → ∀ m,m ≤ ys.length → ∃ cs : List Value,cs.length = m * sz ∧ (∀ w2 : World,(∀ a,w2.cell? a = w.cell? a) → (Builtin.firstCells sz m u).run P w2 = .ok cs.toArray w2) ∧ (∀ v ∈ cs,one v = true) ∧ (∀ y ∈ ys,y.length = sz) ∧
    ∀ (i j : Nat) (y : List AV) (z : AV) (v : Value),i < m → ys[i]? = some y → y[j]? = some z → cs[i * sz + j]? = some v → Rep w (Mut X ρ H.length) ρ H.length z v := by
  intro hn a len cap hu m hm
  subst hn
  simp only [zY4,Nat.le_zero] at hm
  subst hm
  refine ⟨[],by simp,?_,fun v hv => by simp at hv,fun y hy => by simp at hy,fun i j y z v hi => by omega⟩
  subst hu
  intro w2 _
  cases a <;> simp [Builtin.firstCells,loadCells,loadCellsFrom]
 cases x with
 | sl sz' xs =>
  simp only [rowsOf,zYT] at hy
  subst hy
  cases hx with
  | slE => exact ⟨rfl,none_ rfl _ _ _ rfl⟩
  | slN _ _ _ b o cap c hm hb hcap hrow hcell hrep =>
   refine ⟨rfl,?_⟩
   by_cases hn : xs = []
   ·exact none_ hn _ _ _ rfl
   ·have hs' : sz' = sz := by simpa [szOk,hn] using hs
    subst hs'
    exact mem b o _ cap c hrow fun i j y z hy hz => ⟨(hcell i j y z hy hz).1,(hcell i j y z hy hz).2,(hrep i j y z hy hz).mono (zZm _)⟩
 | os r ver off len =>
  simp only [rowsOf,osRows] at hy
  cases ho : H[r]? with
  | none => simp [ho] at hy
  | some obj =>
   rw [ho] at hy
   cases obj <;> simp at hy
   rename_i ver' sz' xs
   obtain ⟨⟨hv,hol⟩,rfl⟩ := hy
   obtain ⟨hr,hver,hs',hs0,hrow,hext,⟨a,cap,rfl,hlc,hcap⟩,hblk⟩ := zEa h hx ho hv
   have hss : sz' = sz := by simpa [szOk,ho] using hs
   subst hss
   have hlen : ((xs.drop off).take len).length = len := by simp; omega
   refine ⟨by rw [hlen]; rfl,?_⟩
   rcases hcap with hcap | ⟨b,o,hb,rfl,he⟩
   ·have h0 : len = 0 := by omega
    subst h0
    exact none_ (by simp) _ _ _ rfl
   ·obtain ⟨c,e,fr,hh,hsz',hfr,hrep⟩ := hblk b o hb
    have hget : ∀ i y,((xs.drop off).take len)[i]? = some y → xs[off + i]? = some y := by
     intro i y hy
     rw [zZP] at hy
     split at hy
     ·rwa [zZQ] at hy
     ·cases hy
    refine mem b (o + off * (ρ r).sz) _ cap (fun i j => c.getD (o + (off + i) * sz' + j) undef) (fun y hy => hrow y (zzaa (zZX hy))) fun i j y z hy hz => ?_
    have g := hget i y hy
    have hlt : o + (off + i) * sz' + j < c.size := by
     have h1 : off + i < xs.length := (zYU.1 g).1
     have h2 : j < y.length := (zYU.1 hz).1
     rw [hrow y (zZp g)] at h2
     have := zAY h1 h2
     omega
    have hg := zBp hlt
    refine ⟨?_,(hrep _ _ _ _ _ g hz hg).2,(hrep _ _ _ _ _ g hz hg).1⟩
    rw [zAD hh,hs',show o + off * sz' + i * sz' + j = o + (off + i) * sz' + j by rw [zZO]; omega]
    exact hg
 | nc =>
  simp only [rowsOf,zYT] at hy
  subst hy
  cases hx
  exact ⟨rfl,none_ rfl _ _ _ rfl⟩
 | v x =>
  have := zAJ hx; subst this
  cases u with
  | slice a n c =>
   cases a <;> cases n <;> cases c <;> simp [rowsOf] at hy
   subst hy
   exact ⟨rfl,none_ rfl _ _ _ rfl⟩
  | string s =>
   simp only [rowsOf,zYT] at hy
   have h1 : sz = 1 := by simpa [szOk] using hs
   subst h1 hy
   refine ⟨by simp [Builtin.lenOf,zIL],fun m hm => ?_⟩
   simp only [zYV] at hm
   refine ⟨((bs s).take m).map fun b => .int .u8 b.toNat,by simp; omega,?_,?_,?_,?_⟩
   ·intro w2 _
    simp only [Builtin.firstCells,Sem.run_pure]
    congr 1
    apply zZ4
    simp [bs,ByteArray.data_extract,zzaP]
   ·intro v hv
    simp only [zZK] at hv
    obtain ⟨b,_,rfl⟩ := hv
    rfl
   ·intro y hy
    simp only [zZK] at hy
    obtain ⟨b,_,rfl⟩ := hy
    rfl
   ·intro i j y z v hi hy hz hv
    simp only [zZy] at hy
    cases hb : (bs s)[i]? with
    | none => simp [hb] at hy
    | some b =>
     simp [hb] at hy
     subst hy
     cases j with
     | succ j => simp [zBv] at hz
     | zero =>
      simp [zBv] at hz
      subst hz
      simp [hi,hb] at hv
      subst hv
      exact .v _ _
  | _ => simp [rowsOf] at hy
 | _ => simp [rowsOf] at hy
theorem zIQ (n : Nat) : ∀ (r c : Nat),256 ≤ c → c ≤ 2 * n → Builtin.growBy n r c ≤ 2 * n
 | 0,c,_,h => h
 | r + 1,c,h0,h => by
  simp only [Builtin.growBy]
  split
  ·exact h
  ·exact zIQ n r _ (by omega) (by omega)
theorem zLz {n c : Nat} (h : c < n) : Builtin.nextslicecap n c ≤ 2 * n := by
 unfold Builtin.nextslicecap
 split
 ·omega
 ·split
  ·omega
  ·exact zIQ n 4 c (by omega) (by omega)
theorem zC8 {t u el : TypeId} {i : TypeInfo} {ty : TypeId} {s x z : Value} (ht : P.underlying t = some (.slice el)) (hu : ∃ d,P.underlying u = some d ∧ ∀ k,d ≠ .int k) (hi : P.info? el = some i) (hz : i.zero = some z)
  {base : Option Addr} {sLen sCap n : Nat} (hs : s = .slice base sLen sCap) (hn : (Builtin.lenOf x).run P w = .ok n w) {cs : List Value} (hf0 : ∀ w2 : World,(∀ a,w2.cell? a = w.cell? a) → (Builtin.firstCells i.size n x).run P w2 = .ok cs.toArray w2) :
  (sLen + n ≤ sCap → ∀ w',(match base with | some a => (storeCells (a.add (sLen * i.size)) cs).run P w = .ok () w' | none => w' = w) → (Builtin.append_ #[t,u] ty #[s,x]).run P w = .ok (.slice base (sLen + n) sCap) w') ∧
  (¬ sLen + n ≤ sCap → (sLen + n) * i.bytes ≤ 140737488355328 → sLen + n ≤ 140737488355328 → ∀ old : List Value,(∀ w2 : World,(∀ a,w2.cell? a = w.cell? a) → (Builtin.firstCells i.size sLen s).run P w2 = .ok old.toArray w2) → ∃ cap,sLen + n ≤ cap ∧
   (Builtin.append_ #[t,u] ty #[s,x]).run P w = .ok (.slice (some ⟨w.heap.size,0,none⟩) (sLen + n) cap) (w.drew.alloc (.cells (old.toArray ++ cs.toArray ++ Builtin.zeroCells z.cells (cap - (sLen + n))) el))) := by
 obtain ⟨d,hd,hnd⟩ := hu
 have e5 : ∀ b (w : World),(askRoom b).run P w = .ok () w := fun b w => by
  unfold askRoom
  split <;> rfl
 subst hs
 constructor
 ·intro hle w' hst
  have hf := hf0 w fun _ => rfl
  unfold Builtin.append_
  simp only [zzaz,zY6,zY7,Sem.run_bind,run_underlying ht,Result.andThen_ok,sizeOf,typeInfo,run_program,hi,Sem.run_pure,run_underlying hd,zZn,if_false,hn,Sem.run_ite,if_pos hle,hf,zzbw,if_true]
  cases base with
  | none => simp only [Sem.run_pure]; rw [hst]
  | some a => simp only at hst; simp [hst]
 ·intro hle hb1 hb2 old hold
  refine ⟨grownCap w (sLen + n) sCap el,grownCap_ge _ _ _ _,?_⟩
  have hnext := zLz (n := sLen + n) (c := sCap) (by omega)
  have h48 : ¬ Builtin.nextslicecap (sLen + n) sCap * i.bytes > 2 ^ 48 := by
   have := zZB i.bytes hnext
   rw [Nat.mul_assoc] at this
   omega
  have hch : (choose (.appendCap (sLen + n) sCap el)).run P w = .ok (grownCap w (sLen + n) sCap el) w.drew := by
   simp [choose,Sem.run,Question.forced,grownCap]
  have hf' := hf0 w.drew fun _ => rfl
  have hold' := hold w.drew fun _ => rfl
  unfold Builtin.append_
  simp only [zzaz,zY6,zY7,Sem.run_bind,run_underlying ht,Result.andThen_ok,sizeOf,typeInfo,run_program,hi,Sem.run_pure,run_underlying hd,zZn,if_false,hn,Sem.run_ite,if_neg hle,if_neg h48,hch,e5,hold',hf',zzbw,if_true]
  rw [if_neg (by rw [IntKind.max_i64]; omega)]
  simp [zeroValue,typeInfo,hi,hz,newRow]
theorem zB3 (z : Array Value) (n : Nat) : (Builtin.zeroCells z n).size = n * z.size := by simp [Builtin.zeroCells]
theorem zKp {M : Nat → Prop} {kk sz : Nat} {xs ys : List (List AV)} {old cs : List Value} {Z : Array Value} (hx : ∀ x ∈ xs,x.length = sz) (hy : ∀ y ∈ ys,y.length = sz) (ho : old.length = xs.length * sz) (hc : cs.length = ys.length * sz)
  (ro : ∀ (i j : Nat) (y : List AV) (z : AV) (v : Value),xs[i]? = some y → y[j]? = some z → old[i * sz + j]? = some v → Rep w M ρ kk z v ∧ one v = true)
  (rc : ∀ (i j : Nat) (y : List AV) (z : AV) (v : Value),ys[i]? = some y → y[j]? = some z → cs[i * sz + j]? = some v → Rep w M ρ kk z v ∧ one v = true) :
  Rows w M ρ kk (old.toArray ++ cs.toArray ++ Z) 0 sz (xs ++ ys) := by
 refine ⟨by simp [ho,hc,zZO],fun x hx' => ?_,fun i j x y u hx' hy' hu => ?_⟩
 ·rcases zZv.1 hx' with h | h
  ·exact hx x h
  ·exact hy x h
 ·have hj : j < sz := by
   have := (zYU.1 hy').1
   have hm : x.length = sz := by
    rcases zZv.1 (zZp hx') with h | h
    ·exact hx x h
    ·exact hy x h
   omega
  rw [zZC] at hx'
  split at hx'
  ·rename_i hi
   have hlt : i * sz + j < old.length := by rw [ho]; exact zAY hi hj
   have : old[i * sz + j]? = some u := by
    rw [zZw,zzab (by simp; omega),zzab (by simpa using hlt)] at hu
    simpa using hu
   exact ro i j x y u hx' hy' this
  ·rename_i hi
   have hi2 : i - xs.length < ys.length := (zYU.1 hx').1
   have hlt : (i - xs.length) * sz + j < cs.length := by rw [hc]; exact zAY hi2 hj
   have he : i * sz = xs.length * sz + (i - xs.length) * sz := by rw [← zZO]; congr 1; omega
   have : cs[(i - xs.length) * sz + j]? = some u := by
    rw [zZw,zzab (by simp; omega),zzbb (by simp; omega)] at hu
    have e2 : i * sz + j - old.toArray.size = (i - xs.length) * sz + j := by simp; omega
    rw [e2] at hu
    simpa using hu
   exact rc _ j x y u hx' hy' this
theorem zCX {cs : List Value} (h : ∀ v ∈ cs,one v = true) {k : Nat} {v : Value} (hk : cs[k]? = some v) : one v = true := h v (zZp hk)
theorem zD7 {t u el : TypeId} {i : TypeInfo} {ty : TypeId} {z : Value} {x : AV} {v : Value} {base : Option Addr} (ht : P.underlying t = some (.slice el)) (hu : ∃ d,P.underlying u = some d ∧ ∀ k,d ≠ .int k) (hi : P.info? el = some i) (hz : i.zero = some z) (hzs : z.cells.size = i.size)
  (h : HRel w X ρ H) (hx : Rp w X ρ H x v) : zAP P (Builtin.append_ #[t,u] ty #[.slice base 0 0,v]) w X ρ H ((rAppendN i.size i.bytes (rowsOf H x) H).also (szOk H i.size x)) := by
 refine zBX fun hso => ?_
 cases hr : rowsOf H x with
 | none => exact zE
 | some ys =>
  rintro ⟨hsz,hb,hb2⟩
  obtain ⟨hlen,hsrc⟩ := zDe (P := P) h hx hr hso hsz
  obtain ⟨cs,hl,hf,h1,hrow,hrep⟩ := hsrc ys.length (zZa _)
  obtain ⟨ha,hg⟩ := zC8 (ty := ty) (s := .slice base 0 0) ht hu hi hz rfl hlen hf
  by_cases h0 : ys.length = 0
  ·have hys : ys = [] := zZF h0
   subst hys
   have hcs : cs = [] := zZF (by simpa using hl)
   subst hcs
   have hrun := ha (by simp) w (by cases base <;> simp [storeCells])
   obtain ⟨ρ',g1,g2,g3⟩ := zKB h hsz base
   exact ⟨_,_,ρ',hrun,g1,g2,g3⟩
  ·obtain ⟨cap,hcap,hrun⟩ := hg (by omega) (by simpa using hb) (by omega) [] (by intro w2 _; cases base <;> simp [Builtin.firstCells,loadCells,loadCellsFrom])
   simp only [zZw] at hrun hcap
   have hrows := zKp (w := w) (M := Mut X ρ H.length) (ρ := ρ) (sz := i.size) (xs := []) (ys := ys) (old := []) (cs := cs) (Z := Builtin.zeroCells z.cells (cap - ys.length)) (fun x hx => by simp at hx) hrow (by simp) hl
    (fun i j y z v hy => by simp at hy) (fun i j y z v hy hz hv => ⟨hrep i j y z v (zYU.1 hy).1 hy hz hv,zCX h1 hv⟩)
   obtain ⟨ρ',g1,g2,g3⟩ := zJH (w1 := w.drew.alloc (.cells ([].toArray ++ cs.toArray ++ Builtin.zeroCells z.cells (cap - ys.length)) el)) h ((Same.drew w).trans (Same.alloc _ _)) (zAN w.drew _) (zZa _) (by simp) (zBz w.drew _) (.inl rfl) hsz hrows
    (len := ys.length) (cap := cap) hcap (by simp [zB3,hzs,hl,← zZO]; exact zZB _ (by omega))
   exact ⟨_,_,ρ',hrun,g1,by simpa [rAppendN] using g2,g3⟩
theorem zHq {t u el : TypeId} {i : TypeInfo} {ty : TypeId} {z : Value} {x : AV} {v : Value} {base : Option Addr} (ht : P.underlying t = some (.slice el)) (hu : ∃ d,P.underlying u = some d ∧ ∀ k,d ≠ .int k) (hi : P.info? el = some i) (hz : i.zero = some z) (hzs : z.cells.size = i.size)
  (h : HRel w X ρ H) (hx : Rp w X ρ H x v) : zAP P (Builtin.append_ #[t,u] ty #[.slice base 0 0,v]) w X ρ H ((rAppendC i.size i.bytes (rowsOf H x) H).also (szOk H i.size x)) := by
 have hN := zD7 (base := base) (ty := ty) ht hu hi hz hzs h hx
 cases hr : rowsOf H x with
 | none => rw [hr] at hN; exact hN
 | some ys =>
  cases ys with
  | cons y ys => rw [hr] at hN; exact hN
  | nil =>
   refine zBX fun hso => ?_
   intro hsz
   have hsz : 0 < i.size := hsz
   obtain ⟨hlen,hsrc⟩ := zDe (P := P) h hx hr hso hsz
   obtain ⟨cs,hl,hf,h1,hrow,hrep⟩ := hsrc 0 (zZa _)
   obtain ⟨ha,hg⟩ := zC8 (ty := ty) (s := .slice base 0 0) ht hu hi hz rfl hlen hf
   have hcs : cs = [] := zZF (by simpa using hl)
   subst hcs
   have hrun := ha (by simp) w (by cases base <;> simp [storeCells])
   exact ⟨_,w,ρ,hrun,h,.nc _ _,Fut.refl _ _ _⟩
theorem zLn {t u el : TypeId} {i : TypeInfo} {ty : TypeId} {z : Value} {s x : AV} {sv v : Value} (ht : P.underlying t = some (.slice el)) (hu : ∃ d,P.underlying u = some d ∧ ∀ k,d ≠ .int k) (hi : P.info? el = some i) (hz : i.zero = some z) (hzs : z.cells.size = i.size)
  (h : HRel w X ρ H) (hs : Rp w X ρ H s sv) (hx : Rp w X ρ H x v) : zAP P (Builtin.append_ #[t,u] ty #[sv,v]) w X ρ H (rAppend i.size i.bytes s x H) := by
 cases s with
 | nc =>
  cases hs
  exact zHq ht hu hi hz hzs h hx
 | v sx =>
  have := zAJ hs; subst this
  cases sv with
  | slice a n c => cases a <;> cases n <;> cases c <;> first | exact zE | exact zD7 ht hu hi hz hzs h hx
  | _ => exact zE
 | os r ver off len =>
  cases off with
  | succ off => exact zE
  | zero =>
   simp only [rAppend]
   refine zBX fun hso => ?_
   cases ho : H[r]? with
   | none => exact zE
   | some obj =>
    cases obj <;> first | exact zE | skip
    rename_i ver' sz' xs
    cases hr : rowsOf H x with
    | none => exact zE
    | some ys =>
     rintro ⟨hv,hss,hlx,hb,hb2⟩
     subst hv hss
     obtain ⟨hrl,hver,hsz',hsz,hrowx,hext,⟨a,cap,rfl,hlc,hcap⟩,hblk⟩ := zEa h hs ho rfl
     obtain ⟨hlen,hsrc⟩ := zDe (P := P) h hx hr hso hsz
     obtain ⟨cs,hl,hf,h1,hrow,hrep⟩ := hsrc ys.length (zZa _)
     obtain ⟨ha,hg⟩ := zC8 (ty := ty) (s := .slice a len cap) ht hu hi hz rfl hlen hf
     have hobj := h.objs r _ ho
     by_cases hin : len + ys.length ≤ cap
     ·rcases hcap with hc0 | ⟨b,o,hb',rfl,he⟩
      ·have hl0 : len = 0 := by omega
       have hy0 : ys = [] := zZF (by omega)
       subst hl0 hy0 hc0
       have hcs : cs = [] := zZF (by simpa using hl)
       subst hcs
       have hrun := ha hin w (by cases a <;> simp [storeCells])
       obtain ⟨ρ',hρ,g1,g2⟩ := h.setAt (w' := w) hrl { ρ r with ver := ver + 1 } (.arr (ver + 1) i.size (xs.take 0 ++ [])) (Same.refl w) (.inr (by show (ρ r).ver < ver + 1; omega)) (fun b o hb => .inl ⟨o,hb⟩) (fun _ _ _ => rfl)
        (fun ρ' _ hf' => by
         refine ⟨rfl,hsz',hsz,fun x hx => by simp at hx,by simp,?_⟩
         show match (ρ r).blk with | none => _ | some (b,o) => _
         cases hbk : (ρ r).blk with
         | none => simp
         | some bo =>
          obtain ⟨b,o⟩ := bo
          obtain ⟨c,e,fr,q1,q2,q3,_⟩ := hblk b o hbk
          exact ⟨c,e,fr,q1,q2,q3,fun i j x y u hx => by simp at hx⟩)
       refine ⟨_,_,ρ',hrun,g1,?_,g2⟩
       exact .os _ _ _ _ _ _ (by simpa [rAppendO] using hrl) (by rw [hρ]; exact zZa _) rfl fun _ => ⟨_,_,rfl,by simp,.inl rfl⟩
      ·obtain ⟨c,e,fr,hh,hsize,hfr,hrepo⟩ := hblk b o hb'
       rw [hsz'] at he
       have hfit : o + len * i.size + cs.length ≤ c.size := by
        rw [hl]
        have : (len + ys.length) * i.size ≤ cap * i.size := zZB _ hin
        rw [zZO] at this
        simp only [zZw] at he
        omega
       have hst := zAX (P := P) b (o + len * i.size) e fr cs 0 c w hh hfr (by simpa using hfit) h1
       simp only [zZJ] at hst
       have hadd : (⟨b,o + 0 * (ρ r).sz,none⟩ : Addr).add (len * i.size) = ⟨b,o + len * i.size,none⟩ := by rw [Addr.add_lit]; simp
       have hrun := ha hin _ (by simp only; rw [hadd]; exact hst)
       obtain ⟨ρ',hρ,g1,g2⟩ := h.setAt (w' := w.setRow b (c.toList.take (o + len * i.size) ++ cs ++ c.toList.drop (o + len * i.size + cs.length)).toArray) hrl { ρ r with ver := ver + 1 } (.arr (ver + 1) i.size (xs.take len ++ ys)) (Same.setRow _ _ _)
        (.inr (by show (ρ r).ver < ver + 1; omega)) (fun b o hb => .inl ⟨o,hb⟩) (fun b' _ hne => setRow_other _ _ _ _ (fun e => hne o (by rw [e]; exact hb')))
        (fun ρ' _ hf' => by
         have hcsz : ((c.toList.take (o + len * i.size) ++ cs ++ c.toList.drop (o + len * i.size + cs.length)).toArray).size = c.size := by simp; omega
         refine ⟨rfl,hsz',hsz,?_,?_,?_⟩
         ·intro y hy
          rcases zZv.1 hy with hy | hy
          ·exact hrowx y (zZX hy)
          ·exact hrow y hy
         ·show _ ≤ (ρ r).ext
          simp only [zY3,zzap,Nat.min_eq_left hlx]
          have : (len + ys.length) * i.size ≤ cap * i.size := zZB _ hin
          simp only [zZw] at he
          omega
         ·show match (ρ r).blk with | none => _ | some (b,o) => _
          rw [hb']
          refine ⟨_,e,fr,setRow_heap w b c _ e fr hh,by rw [hcsz]; exact hsize,by rw [hcsz]; exact hfr,?_⟩
          intro k j x' y zz hx' hy hzz
          have hj : j < i.size := by
           have h2 := (zYU.1 hy).1
           have hm : x'.length = i.size := by
            rcases zZv.1 (zZp hx') with h | h
            ·exact hrowx x' (zZX h)
            ·exact hrow x' h
           omega
          have hzz' : (c.toList.take (o + len * i.size) ++ cs ++ c.toList.drop (o + len * i.size + cs.length))[o + k * i.size + j]? = some zz := by simpa using hzz
          rw [zAw _ _ _ _ (by simpa using hfit)] at hzz'
          rw [zZC,zzap,Nat.min_eq_left hlx] at hx'
          split at hx'
          ·rename_i hk
           have := zAY hk hj
           rw [if_pos (by omega)] at hzz'
           rw [zZP,if_pos hk] at hx'
           have := hrepo k j x' y zz hx' hy (by simpa using hzz')
           exact ⟨this.1.nextN hf',this.2⟩
          ·rename_i hk
           have hk2 : k - len < ys.length := (zYU.1 hx').1
           have hke : k * i.size = len * i.size + (k - len) * i.size := by rw [← zZO]; congr 1; omega
           have := zAY hk2 hj
           rw [if_neg (by omega),if_pos (by omega),show o + k * i.size + j - (o + len * i.size) = (k - len) * i.size + j by omega] at hzz'
           exact ⟨(hrep _ j x' y zz hk2 hx' hy hzz').nextN hf',zCX h1 hzz'⟩)
       refine ⟨_,_,ρ',hrun,g1,?_,g2⟩
       refine .os _ _ _ _ _ _ (by simpa [rAppendO] using hrl) (by rw [hρ]; exact zZa _) rfl fun _ => ⟨_,_,rfl,hin,.inr ⟨b,o,by rw [hρ]; exact hb',by rw [hρ],?_⟩⟩
       rw [hρ]
       show (0 + cap) * (ρ r).sz ≤ (ρ r).ext
       rw [hsz']
       exact he
     ·have hselfR : rowsOf H (.os r ver 0 len) = some (xs.take len) := by simp [rowsOf,osRows,ho,hlx]
      have hselfS : szOk H i.size (.os r ver 0 len) := by simp [szOk,ho]
      obtain ⟨_,hself⟩ := zDe (P := P) h hs hselfR hselfS hsz
      have htl : (xs.take len).length = len := by simp; omega
      obtain ⟨old,hol,hfo,h1o,_,hrepold⟩ := hself len (by omega)
      obtain ⟨cap',hcap',hrun⟩ := hg hin (by simpa using hb) hb2 old hfo
      have hrows := zKp (w := w) (M := Mut X ρ H.length) (ρ := ρ) (sz := i.size) (xs := xs.take len) (ys := ys) (old := old) (cs := cs) (Z := Builtin.zeroCells z.cells (cap' - (len + ys.length)))
       (fun x hx => hrowx x (zZX hx)) hrow (by rw [htl]; exact hol) hl
       (fun k j y zz v hy hzz hv => ⟨hrepold k j y zz v (by have := (zYU.1 hy).1; omega) hy hzz hv,zCX h1o hv⟩)
       (fun k j y zz v hy hzz hv => ⟨hrep k j y zz v (zYU.1 hy).1 hy hzz hv,zCX h1 hv⟩)
      have hCs : (old.toArray ++ cs.toArray ++ Builtin.zeroCells z.cells (cap' - (len + ys.length))).size = cap' * i.size := by
       simp [zB3,hzs,hl,hol,← zZO]
       congr 1
       omega
      obtain ⟨ρ',hρ,g1,g2⟩ := h.setAt (w' := w.drew.alloc (.cells (old.toArray ++ cs.toArray ++ Builtin.zeroCells z.cells (cap' - (len + ys.length))) el)) hrl { blk := some (w.heap.size,0),ext := cap' * i.size,ver := ver + 1,sz := i.size } (.arr (ver + 1) i.size (xs.take len ++ ys))
       ((Same.drew w).trans (Same.alloc _ _)) (.inr (by show (ρ r).ver < ver + 1; omega)) (fun b o hb => .inr (by simp at hb; obtain ⟨rfl,_⟩ := hb; simp)) (fun b hb _ => zAN w.drew _ b hb)
       (fun ρ' _ hf' => by
        refine ⟨rfl,rfl,hsz,hrows.row,?_,_,el,(0,0),zBz w.drew _,?_,.inl rfl,?_⟩
        ·show _ ≤ cap' * i.size
         have := hrows.fit
         omega
        ·show 0 + cap' * i.size ≤ _
         omega
        ·intro k j x' y zz hx' hy hzz
         have := hrows.rep k j x' y zz hx' hy hzz
         exact ⟨this.1.nextN hf',this.2⟩)
      refine ⟨_,_,ρ',hrun,g1,?_,g2⟩
      refine .os _ _ _ _ _ _ (by simpa [rAppendO] using hrl) (by rw [hρ]; exact zZa _) rfl fun _ => ⟨_,_,rfl,hcap',.inr ⟨w.heap.size,0,by rw [hρ],by simp,?_⟩⟩
      rw [hρ]
      simp
 | _ => exact zE
theorem zMN {n : Nat} {M : Nat → Prop} {x u : Value} (h : Rep w M ρ n (.v x) u) : u = x := by cases h; rfl
theorem zNg (h : HRel w X ρ H) {r ver off len : Nat} {u : Value} (hx : Rp w X ρ H (.os r ver off len) u) {t v : Nat} {bl : List UInt8} (ho : H[r]? = some (.barr t v bl)) (hv : ver = v) :
  r < H.length ∧ (ρ r).ver = ver ∧ (ρ r).sz = 1 ∧ bl.length ≤ (ρ r).ext ∧ zXe (ρ r) off len u ∧ (match (ρ r).blk with
   | none => bl = []
   | some (b,o) => ∃ c fr,w.heap[b]? = some (.cells c t fr) ∧ o + (ρ r).ext ≤ c.size ∧ zMg fr c.size ∧ ∀ (i : Nat) (x : UInt8),bl[i]? = some x → c[o + i]? = some (.int .u8 x.toNat)) := by
 obtain ⟨h1,h2,h3,h4⟩ := h.objs r _ ho
 cases hx with
 | os _ _ _ _ _ _ hr hle hone hp =>
  subst hv
  exact ⟨hr,h1,h2,h3,hp h1.symm,h4⟩
theorem zMz (h : HRel w X ρ H) {y : ByteArray} : ∃ cs : List Value,cs = (bs y).map (fun x => Value.int .u8 x.toNat) ∧ (Builtin.lenOf (.string y)).run P w = .ok (bs y).length w ∧ ∀ w2 : World,(∀ a,w2.cell? a = w.cell? a) → (Builtin.firstCells 1 (bs y).length (.string y)).run P w2 = .ok cs.toArray w2 := by
 obtain ⟨hlen,hsrc⟩ := zDe (P := P) (sz := 1) h (.v _ (.string y)) (ys := (bs y).map zBv) rfl (by simp [szOk]) (by decide)
 obtain ⟨cs,hl,hf,h1,hrow,hrep⟩ := hsrc _ (zZa _)
 rw [zYV] at hlen hl hf
 refine ⟨cs,?_,hlen,hf⟩
 apply zzaB
 intro i
 rw [zZy]
 by_cases hi : i < (bs y).length
 ·have hci : i < cs.length := by omega
  rw [zZe hci,zZe hi]
  have := hrep i 0 (zBv (bs y)[i]) (u8 (bs y)[i].toNat) cs[i] (by simpa using hi) (by simp [hi]) rfl (by simp [hci])
  rw [zMN this]
  rfl
 ·rw [zZZ (by omega),zZZ (by omega)]
  rfl
theorem zHY {l : List UInt8} {i : Nat} {x : UInt8} (h : l[i]? = some x) : (l.map (fun x => Value.int .u8 x.toNat))[i]? = some (.int .u8 x.toNat) := by
 rw [zZy,h]; rfl
theorem zJs {t u el : TypeId} {i : TypeInfo} {ty : TypeId} {z : Value} {s x : AV} {sv v : Value} (ht : P.underlying t = some (.slice el)) (hu : ∃ d,P.underlying u = some d ∧ ∀ k,d ≠ .int k) (hi : P.info? el = some i) (hz : i.zero = some z) (hzs : z.cells.size = 1) (hs1 : i.size = 1) (hb1 : i.bytes = 1)
  (h : HRel w X ρ H) (hs : Rp w X ρ H s sv) (hx : Rp w X ρ H x v) : zAP P (Builtin.append_ #[t,u] ty #[sv,v]) w X ρ H (zCI el s x H) := by
 cases x with
 | v xv =>
  have := zAJ hx; subst this
  cases v with
  | string y =>
   obtain ⟨cs,hcs,hlen,hf⟩ := zMz (P := P) h (y := y)
   have hone : ∀ v ∈ cs,one v = true := fun v hv => by
    rw [hcs] at hv
    obtain ⟨b,_,rfl⟩ := zZK.1 hv
    rfl
   have hcl : cs.length = (bs y).length := by rw [hcs,zYV]
   show zAP P _ w X ρ H (zB7 el s (bs y) H)
   have hf' : ∀ w2 : World,(∀ a,w2.cell? a = w.cell? a) → (Builtin.firstCells i.size (bs y).length (.string y)).run P w2 = .ok cs.toArray w2 := by rw [hs1]; exact hf
   cases s with
   | v sx =>
    have := zAJ hs; subst this
    cases sv with
    | slice a n c =>
     cases a <;> cases n <;> cases c <;> first | exact zE | skip
     obtain ⟨ha,hg⟩ := zC8 (ty := ty) (s := .slice none 0 0) ht hu hi hz rfl hlen hf'
     show zAP P _ w X ρ H (zB6 el (bs y) H)
     by_cases hy0 : bs y = []
     ·rw [hy0]
      have hrun := ha (by rw [hy0]; simp) w rfl
      rw [hy0] at hrun
      intro _
      exact ⟨_,w,ρ,hrun,h,.v _ _,Fut.refl _ _ _⟩
     ·have h0 : ¬ (bs y).length = 0 := fun e => hy0 (zZF e)
      rw [show zB6 el (bs y) H = ⟨(bs y).length ≤ 140737488355328,.os H.length 0 0 (bs y).length,H ++ [.barr el 0 (bs y)]⟩ from if_neg hy0]
      intro hb
      change (bs y).length ≤ 140737488355328 at hb
      obtain ⟨cap,hcap,hrun⟩ := hg (by omega) (by rw [hb1]; simpa using hb) (by simpa using hb) [] (by intro w2 _; simp [Builtin.firstCells])
      simp only [zZw] at hrun hcap
      have hsz : ((([] : List Value).toArray ++ cs.toArray ++ Builtin.zeroCells z.cells (cap - (bs y).length))).size = cap := by simp [zB3,hzs,hcl]; omega
      obtain ⟨ρ',hl',hrel,hfu⟩ := h.push (w' := w.drew.alloc (.cells (([] : List Value).toArray ++ cs.toArray ++ Builtin.zeroCells z.cells (cap - (bs y).length)) el)) { blk := some (w.heap.size,0),ext := cap,sz := 1 } (.barr el 0 (bs y)) ((Same.drew w).trans (Same.alloc _ _)) (fun b' o hb' => by simp at hb'; obtain ⟨rfl,_⟩ := hb'; simp) (zAN w.drew _)
       (fun ρ' hf hl' => ⟨rfl,rfl,hcap,_,(0,0),zBz w.drew _,by rw [hsz]; simp,.inl rfl,fun k x hk => by
        have hlt : k < (bs y).length := (zYU.1 hk).1
        rw [zZw,zzab (by simp; omega),zzbb (by simp)]
        have := zHY hk
        rw [← hcs] at this
        simpa using this⟩)
      refine ⟨_,_,ρ',hrun,hrel,.os _ _ _ _ _ _ (by show H.length < (H ++ [_]).length; simp) (by rw [hl']; exact zZa _) rfl fun _ => ⟨_,_,rfl,hcap,.inr ⟨w.heap.size,0,by rw [hl'],by simp,?_⟩⟩,hfu⟩
      rw [hl']
      simp
    | _ => exact zE
   | os r ver off len =>
    cases off with
    | succ off => exact zE
    | zero =>
     show zAP P _ w X ρ H (zB8 el r ver len (bs y) H H[r]?)
     cases ho : H[r]? with
     | none => exact zE
     | some obj =>
      cases obj <;> first | exact zE | skip
      rename_i t' ver' bl
      rintro ⟨hv,htt,hll,hb⟩
      subst hv htt
      obtain ⟨hrl,hver,hsz',hext,⟨a,cap,rfl,hlc,hcap⟩,hblk⟩ := zNg h hs ho rfl
      obtain ⟨ha,hg⟩ := zC8 (ty := ty) (s := .slice a len cap) ht hu hi hz rfl hlen hf'
      by_cases hin : len + (bs y).length ≤ cap
      ·rcases hcap with hc0 | ⟨b,o,hb',rfl,he⟩
       ·have hl0 : len = 0 := by omega
        have hy0 : bs y = [] := zZF (by omega)
        have hcs0 : cs = [] := by rw [hcs,hy0]; rfl
        have hrun := ha hin w (by rw [hcs0]; cases a <;> simp [storeCells])
        obtain ⟨ρ',hρ,g1,g2⟩ := h.setAt (w' := w) hrl { ρ r with ver := ver + 1 } (.barr el (ver + 1) (bl ++ bs y)) (Same.refl w) (.inr (by show (ρ r).ver < ver + 1; omega)) (fun b o hb => .inl ⟨o,hb⟩) (fun _ _ _ => rfl)
         (fun ρ' _ hf' => by
          rw [hy0,zZA]
          exact ⟨rfl,hsz',hext,hblk⟩)
        refine ⟨_,_,ρ',hrun,g1,?_,g2⟩
        exact .os _ _ _ _ _ _ (by simpa [zB8] using hrl) (by rw [hρ]; exact zZa _) rfl fun _ => ⟨_,_,rfl,by omega,.inl hc0⟩
       ·rw [hb'] at hblk
        obtain ⟨c,fr,hh,hsize,hfr,hrepo⟩ := hblk
        rw [hsz'] at he
        simp only [zZw,zzbx] at he
        have hfit : o + len + cs.length ≤ c.size := by omega
        have hst := zAX (P := P) b (o + len) el fr cs 0 c w hh hfr (by simpa using hfit) hone
        simp only [zZJ] at hst
        have hadd : (⟨b,o + 0 * (ρ r).sz,none⟩ : Addr).add (len * i.size) = ⟨b,o + len,none⟩ := by rw [Addr.add_lit,hs1]; simp
        have hrun := ha hin _ (by simp only; rw [hadd]; exact hst)
        obtain ⟨ρ',hρ,g1,g2⟩ := h.setAt (w' := w.setRow b (c.toList.take (o + len) ++ cs ++ c.toList.drop (o + len + cs.length)).toArray) hrl { ρ r with ver := ver + 1 } (.barr el (ver + 1) (bl ++ bs y)) (Same.setRow _ _ _)
         (.inr (by show (ρ r).ver < ver + 1; omega)) (fun b o hb => .inl ⟨o,hb⟩) (fun b' _ hne => setRow_other _ _ _ _ (fun e => hne o (by rw [e]; exact hb')))
         (fun ρ' _ hf' => by
          have hcsz : ((c.toList.take (o + len) ++ cs ++ c.toList.drop (o + len + cs.length)).toArray).size = c.size := by simp; omega
          refine ⟨rfl,hsz',?_,?_⟩
          ·show _ ≤ (ρ r).ext
           rw [zY3]; omega
          ·show match (ρ r).blk with | none => _ | some (b,o) => _
           rw [hb']
           refine ⟨_,fr,setRow_heap w b c _ el fr hh,by rw [hcsz]; exact hsize,by rw [hcsz]; exact hfr,?_⟩
           intro k x hk
           rw [zzaz,zAw _ _ _ _ (by simpa using hfit)]
           rw [zZC] at hk
           split at hk
           ·rename_i hkl
            rw [if_pos (by omega)]
            have := hrepo k x hk
            simpa using this
           ·rename_i hkl
            have hlt : k - bl.length < (bs y).length := (zYU.1 hk).1
            rw [if_neg (by omega),if_pos (by omega),show o + k - (o + len) = k - bl.length by omega,hcs]
            exact zHY hk)
        refine ⟨_,_,ρ',hrun,g1,?_,g2⟩
        refine .os _ _ _ _ _ _ (by simpa [zB8] using hrl) (by rw [hρ]; exact zZa _) rfl fun _ => ⟨_,_,rfl,hin,.inr ⟨b,o,by rw [hρ]; exact hb',by rw [hρ],?_⟩⟩
        rw [hρ]
        show (0 + cap) * (ρ r).sz ≤ (ρ r).ext
        rw [hsz']
        omega
      ·obtain ⟨old,hol,hfo⟩ : ∃ old : List Value,old = bl.map (fun x => Value.int .u8 x.toNat) ∧ ∀ w2 : World,(∀ a,w2.cell? a = w.cell? a) → (Builtin.firstCells i.size len (.slice a len cap)).run P w2 = .ok old.toArray w2 := by
        refine ⟨_,rfl,fun w2 hw2 => ?_⟩
        rw [hs1]
        by_cases hl0 : len = 0
        ·have hb0 : bl = [] := zZF (by omega)
         subst hl0
         rw [hb0]
         cases a <;> simp [Builtin.firstCells,loadCells,loadCellsFrom]
        ·rcases hcap with hc0 | ⟨b,o,hb',rfl,he⟩
         ·omega
         ·rw [hb'] at hblk
          obtain ⟨c,fr,hh,hsize,hfr,hrepo⟩ := hblk
          refine run_firstCells_some w2 1 len _ len cap _ (by simp; omega) fun j v hj => ?_
          rw [zZy] at hj
          cases hbj : bl[j]? with
          | none => rw [hbj] at hj; cases hj
          | some x =>
           rw [hbj] at hj
           cases hj
           rw [hw2,Addr.add_lit]
           have := hrepo j x hbj
           have hcell := zAD hh (o + j)
           simpa [hcell] using this
       obtain ⟨cap',hcap',hrun⟩ := hg hin (by rw [hb1]; simpa using hb) hb old hfo
       have hsz : (old.toArray ++ cs.toArray ++ Builtin.zeroCells z.cells (cap' - (len + (bs y).length))).size = cap' := by simp [zB3,hzs,hcl,hol]; omega
       obtain ⟨ρ',hρ,g1,g2⟩ := h.setAt (w' := w.drew.alloc (.cells (old.toArray ++ cs.toArray ++ Builtin.zeroCells z.cells (cap' - (len + (bs y).length))) el)) hrl { blk := some (w.heap.size,0),ext := cap',ver := ver + 1,sz := 1 } (.barr el (ver + 1) (bl ++ bs y))
        ((Same.drew w).trans (Same.alloc _ _)) (.inr (by show (ρ r).ver < ver + 1; omega)) (fun b o hb => .inr (by simp at hb; obtain ⟨rfl,_⟩ := hb; simp)) (fun b hb _ => zAN w.drew _ b hb)
        (fun ρ' _ hf' => by
         refine ⟨rfl,rfl,?_,_,(0,0),zBz w.drew _,?_,.inl rfl,?_⟩
         ·show _ ≤ cap'
          rw [zY3]; omega
         ·show 0 + cap' ≤ _
          rw [hsz]; omega
         ·intro k x hk
          have hkl : k < bl.length + (bs y).length := by have := (zYU.1 hk).1; simpa using this
          rw [zZw,zzab (by simp [hol,hcl]; omega),show old.toArray ++ cs.toArray = (old ++ cs).toArray by simp,zzaz,hol,hcs,← zzaA]
          exact zHY hk)
       refine ⟨_,_,ρ',hrun,g1,?_,g2⟩
       refine .os _ _ _ _ _ _ (by simpa [zB8] using hrl) (by rw [hρ]; exact zZa _) rfl fun _ => ⟨_,_,rfl,hcap',.inr ⟨w.heap.size,0,by rw [hρ],by simp,?_⟩⟩
       rw [hρ]
       simp
   | _ => exact zE
  | _ => exact zE
 | _ => exact zE
end
end Go.Ax
