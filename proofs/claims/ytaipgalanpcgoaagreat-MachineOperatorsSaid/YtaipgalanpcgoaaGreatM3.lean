/- Parts, merged by a program (wip/tools/merge2.py): Ax22 Ax24 Ax25 Ax27 Ax4b Ax4c Fv Shelf Vl1 Ft Ax3 Ax23 Ax26 Ty1 Ty2 Ty3 Va1 Va2 Va3 Ty4 Ty5 Va4 Va5 Va6 Va7 Vb2 Mc1 Fl Lx1 Lx2 Lx3 Lx4 Lx5 Lx6 Mc2 Mc3 Ax28 Ax29 Ax30 Ax37 Ax38 Ax39. -/
import Derived.Test.YtaipgalanpcgoaaGreatM2
import Derived.Below
import Derived.ChangeSame
import Derived.Carry
import Derived.ChangeArms
import Derived.ProofKit
import Derived.HandedShaped
import Derived.Shelf.Vars
import Derived.Test.YtaipgalanpcgoaaGreatRows
import Derived.JoinedCond
import Derived.Test.YtaipgalanpcgoaaGreatChecked
import Derived.Shelf.Strings.Search1
import Derived.Shelf.Strings.Search2
import Derived.Shelf.Strings.Search3
import Derived.Shelf.LaysM
import Derived.Shelf.Strings.Shaped
import Derived.Test.YtaipgalanpcgoaaGreatProg
import Derived.KernelRfl
import Derived.Shelf.Strings.OnBuilder
import Derived.RecoverIn
namespace Go.Ax
open Go Go.RowKit
section
variable {P : Program} {w w' : World} {X M M' M'' : Nat → Prop} {ρ ρ' : Nat → Loc} {H : zB} {n n' : Nat}
theorem Rep.narrow {x : AV} {u : Value} (h : Rep w M' ρ 0 x u) (hM : ∀ b, M'' b → M' b) : Rep w M'' ρ 0 x u :=
 h.fut (n0 := 0) (Fut.refl _ _ _) (fun b _ hb hb' => hb (hM b hb')) (fun b _ ⟨r, o, hr, _⟩ => by omega) (Nat.le_refl _)
theorem Rep.scope {x : AV} {u0 : Value} (h0 : Rep w M ρ n x u0) (hM : ∀ b, M'' b → M' b) : ∀ {u : Value}, Rep w' M' ρ' n' x u → Rep w' M'' ρ' n x u := by
 induction h0 with
 | any => intro u _; exact .any _ _
 | v => intro u h; cases h; exact .v _ _
 | agg n cs us hl _ ih =>
  intro u h
  cases h with
  | agg _ _ us' hl' h' =>
   refine .agg _ _ _ hl' fun i x u hx hu => ?_
   have hlt : i < us.size := by rw [← hl]; exact (List.getElem?_eq_some_iff.1 hx).1
   exact ih i x us[i] hx (by simp [hlt]) (h' i x u hx hu)
 | tup n cs us hl _ ih =>
  intro u h
  cases h with
  | tup _ _ us' hl' h' =>
   refine .tup _ _ _ hl' fun i x u hx hu => ?_
   have hlt : i < us.size := by rw [← hl]; exact (List.getElem?_eq_some_iff.1 hx).1
   exact ih i x us[i] hx (by simp [hlt]) (h' i x u hx hu)
 | nc => intro u h; cases h; exact .nc _ _
 | bnil => intro u h; cases h; exact .bnil _ _
 | slE =>
  intro u h
  cases h with
  | slE => exact .slE _ _ _ _
  | slN _ _ _ b o cap c hm hb hcap hsz hcell hc => exact .slN _ _ _ _ _ _ c (fun h => hm (hM _ h)) hb hcap hsz hcell fun i j x y hx hy => (hc i j x y hx hy).narrow hM
 | slN =>
  intro u h
  cases h with
  | slE => exact .slE _ _ _ _
  | slN _ _ _ b o cap c hm hb hcap hsz hcell hc => exact .slN _ _ _ _ _ _ c (fun h => hm (hM _ h)) hb hcap hsz hcell fun i j x y hx hy => (hc i j x y hx hy).narrow hM
 | vp =>
  intro u h
  cases h with
  | vp _ _ _ b o c hm hb hcell hc => exact .vp _ _ _ _ _ c (fun h => hm (hM _ h)) hb hcell fun j y hy => (hc j y hy).narrow hM
 | fn n f first caps fs us h1 h2 _ _ ih1 ih2 =>
  intro u h
  cases h with
  | fn _ _ _ _ fs' us' g1 g2 g3 g4 =>
   refine .fn _ _ _ _ _ _ g1 g2 (fun i x u hx hu => ?_) (fun i x u hx hu => ?_)
   ·have hlt : i < fs.size := by rw [← h1]; exact (List.getElem?_eq_some_iff.1 hx).1
    exact ih1 i x fs[i] hx (by simp [hlt]) (g3 i x u hx hu)
   ·have hlt : i < us.size := by rw [← h2]; exact (List.getElem?_eq_some_iff.1 hx).1
    exact ih2 i x us[i] hx (by simp [hlt]) (g4 i x u hx hu)
 | mp =>
  intro u h
  cases h with
  | mp _ _ _ b es clock hm hb hh hks hvs hc => exact .mp _ _ _ _ es clock (fun h => hm (hM _ h)) hb hh hks hvs fun i x e hx he => (hc i x e hx he).narrow hM
 | os n r ver off len u hr _ _ _ =>
  intro u h
  cases h with
  | os _ _ _ _ _ _ _ hle h1 hp => exact .os _ _ _ _ _ _ hr hle h1 hp
 | ptr n r ver off u hr _ _ _ =>
  intro u h
  cases h with
  | ptr _ _ _ _ _ _ hle h1 hp => exact .ptr _ _ _ _ _ hr hle h1 hp
 | pe n r ver i off u hr _ _ _ =>
  intro u h
  cases h with
  | pe _ _ _ _ _ _ _ hle h1 hp => exact .pe _ _ _ _ _ _ hr hle h1 hp
 | om n r ver u hr _ _ _ =>
  intro u h
  cases h with
  | om _ _ _ _ _ hle h1 hp => exact .om _ _ _ _ hr hle h1 hp
theorem ObjOk.scope {l l' : Loc} {o : HO} (h0 : ObjOk w M ρ n l o) (hM : ∀ b, M'' b → M' b) (h : ObjOk w' M' ρ' n' l' o) : ObjOk w' M'' ρ' n l' o := by
 cases o with
 | dead => trivial
 | box cs =>
  obtain ⟨_, _, c0, _, _, _, _, hl0, _, h06⟩ := h0
  obtain ⟨h1, b, c, e, fr, h2, h3, h4, h5, h6⟩ := h
  refine ⟨h1, b, c, e, fr, h2, h3, h4, h5, fun j y u hy hu => ⟨?_, (h6 j y u hy hu).2⟩⟩
  have hlt : j < c0.size := by rw [← hl0]; exact (List.getElem?_eq_some_iff.1 hy).1
  exact (h06 j y c0[j] hy (by simp [hlt])).1.scope hM (h6 j y u hy hu).1
 | arr ver sz xs =>
  obtain ⟨h1, h2, h3, h4, h5, h6⟩ := h
  refine ⟨h1, h2, h3, h4, h5, ?_⟩
  split
  ·rename_i hl; rw [hl] at h6; exact h6
  ·rename_i b o hl
   rw [hl] at h6
   obtain ⟨c, e, fr, g1, g2, g3, g4⟩ := h6
   exact ⟨c, e, fr, g1, g2, g3, fun i j x y u hx hy hu => ⟨(g4 i j x y u hx hy hu).1.narrow hM, (g4 i j x y u hx hy hu).2⟩⟩
 | map ver ks vs =>
  obtain ⟨h1, b, es, clock, h2, h3, h4, h5, h6⟩ := h
  exact ⟨h1, b, es, clock, h2, h3, h4, h5, fun i x e hx he => (h6 i x e hx he).narrow hM⟩
 | iter s pos => exact h
 | lp b lr e st =>
  obtain ⟨_, _, _, h04⟩ := h0
  obtain ⟨h1, h2, h3, h4⟩ := h
  exact ⟨h1, h2, h3, fun t u hu => (h04 t u hu).scope hM (h4 t u hu)⟩
 | mit ks vs left cur =>
  obtain ⟨h1, b, m, es, clock, since, seen, c0, h2, h3, h4, h5, h6⟩ := h
  exact ⟨h1, b, m, es, clock, since, seen, c0, h2, h3, h4, h5.narrow hM, h6⟩
 | barr t ver bl => exact h
theorem ACall.drop {k : FuncId} {args : List AV} {R : AV → Prop} (h : ACall P k args H fun x H' => R x ∧ x.cl = true ∧ ∃ rest, H' = H ++ rest) : ACall P k args H fun x H' => R x ∧ H' = H := by
 refine ⟨h.1, fun X ρ w vs hrel hargs => (h.2 X ρ w vs hrel hargs).mono ?_⟩
 rintro en w' ⟨v, x, H', ρ', rfl, ⟨hR, hcl, rest, rfl⟩, g1, g2, g3⟩
 have hle : H.length ≤ (H ++ rest).length := by simp
 have hM : ∀ b, Mut X ρ' H.length b → Mut X ρ' (H ++ rest).length b := fun b hb => hb.imp id fun ⟨r, o, hr, hbl⟩ => ⟨r, o, by omega, hbl⟩
 refine ⟨v, x, H, ρ', rfl, ⟨hR, rfl⟩, ⟨fun r o hr => ?_, fun r r' b o b' o' hr hr' => g1.inj r r' b o b' o' (by omega) (by omega), fun r b o hr => g1.lt r b o (by omega), g1.xlt, fun g hg => ⟨fun ⟨r, o, hr, hbl⟩ => (g1.gl g hg).1 ⟨r, o, by omega, hbl⟩, (g1.gl g hg).2⟩⟩, ?_, ?_⟩
 ·have hlt : r < H.length := (List.getElem?_eq_some_iff.1 hr).1
  exact (hrel.objs r o hr).scope hM (g1.objs r o (by rw [List.getElem?_append_left hlt]; exact hr))
 ·exact ((g2.of_cl hcl).narrow hM).closed rfl _ _
 ·exact ⟨g3.os, g3.tape, g3.output, g3.size, g3.keep, fun b ⟨r, o, hr, hbl⟩ => g3.own b ⟨r, o, by omega, hbl⟩, Nat.le_refl _, g3.loc⟩
end
theorem bool_eq {a b : Bool} (h : a = true ↔ b = true) : bool a = bool b := by rw [Bool.eq_iff_iff.2 h]
end Go.Ax
namespace Go.Ax
open Go Go.RowKit Go.WideShapes Go.ChangeShapes
set_option linter.unusedSimpArgs false
set_option linter.unusedVariables false
abbrev X0 : Nat → Prop := fun _ => False
theorem hrel_nil (w : World) (ρ : Nat → Loc) (hg : ∀ g ∈ glbs, ∃ m, w.cell? ⟨g, 0, none⟩ = some (.int .i64 m)) : HRel w X0 ρ [] where
 objs := fun r o h => by simp at h
 inj := fun r _ _ _ _ _ h => by simp at h
 lt := fun r _ _ h => by simp at h
 xlt := fun b h => h.elim
 gl := fun g h => ⟨fun ⟨r, o, hr, _⟩ => by simp at hr, hg g h⟩
theorem Fut.below {w w' : World} {ρ ρ' : Nat → Loc} {n' : Nat} (h : Fut w ρ 0 w' ρ' n') : Below w.heap.size w w' :=
 ⟨h.os, h.tape, h.output, h.size, fun k hk => h.keep k hk fun ⟨r, o, hr, _⟩ => by omega⟩
theorem ACall.top {P : Program} {k : FuncId} {args : List AV} {R : AV → zB → Prop} (h : ACall P k args [] R) {w : World} {vs : Array Value} (hargs : RepL w X0 (fun _ => {}) 0 args vs) (hg : ∀ g ∈ glbs, ∃ m, w.cell? ⟨g, 0, none⟩ = some (.int .i64 m)) :
  Calls P k vs w fun e w' => ∃ v x H' ρ', e = .returned v ∧ R x H' ∧ Rep w' (Mut X0 ρ' H'.length) ρ' H'.length x v ∧ Below w.heap.size w w' := by
 have hm : Mut X0 (fun _ => ({} : Loc)) 0 = X0 := by
  funext b
  simp [Mut, Own, X0]
 refine (h.2 X0 (fun _ => {}) w vs (hrel_nil _ _ hg) ?_).mono ?_
 ·simpa [hm] using hargs
 ·rintro e w' ⟨v, x, H', ρ', he, hR, _, hx, hf⟩
  exact ⟨v, x, H', ρ', he, hR, hx, hf.below⟩
section
variable {H : Type} {enc : TypeId × Value → H} {P : Program}
theorem post_law {f : Func} {s : ChangeSpec} {apart fresh handsOn again : Bool} {W W' : World} {args : Array Value} {ds : List (DataW H)} {before : List MemPlace} {tb : TypeId}
  (hW : DataW.Whole enc P f.params.toList s.vars apart W args.toList ds [] before) (hv : s.vars = [])
  (hf : f.resultTypes = #[tb]) (htb : P.underlying tb = some .bool) (hs : s.fn H ds = ⟨[.lit (.bool true)], ds, []⟩)
  (hargs : ∀ sp : Nat → Bool, (∀ p ∈ before, sp p.block = true) → DataW.TrodAll enc P W' 0 sp true f.params.toList args.toList ds before)
  (hb : Below W.heap.size W W') : s.post enc P f apart fresh handsOn again W args (.bool true) W' := by
 have hlt : ∀ p ∈ before, p.block < W.heap.size := fun p hp => hW.lt p hp
 have hold : ∀ p ∈ before, (fun b => decide (b < W.heap.size)) p.block = true := fun p hp => by simpa using hlt p hp
 have hs' : s.fn H (ds ++ []) = ⟨[.lit (.bool true)], ds, []⟩ := by rw [List.append_nil]; exact hs
 have hres : ∀ (b : Nat) (sp : Nat → Bool) (hd : Bool), DataW.TrodAll enc P W' b sp hd f.resultTypes.toList ((Value.bool true).resultList f.resultTypes.size) (s.fn H (ds ++ [])).results [] := by
  intro b sp hd
  rw [hs', hf]
  exact trodAll_mk1 (shut_bool htb true)
 have hvars : ∀ sp : Nat → Bool, DataW.TrodVars enc P W' sp s.vars (s.fn H (ds ++ [])).vars [] := by
  intro sp; rw [hs', hv]; rfl
 have hk : W.keptBut W' (· ∈ before) := hb.frame _
 refine ⟨ds, [], before, [], before, [], hW, hres _ _ _, ?_, hvars _, World.keptBut_mono (fun p hp => ⟨hp, .inr (.inl hp)⟩) hk, fun _ => ?_⟩
 ·rw [hs']; exact hargs _ hold
 ·obtain ⟨_, _, _, _, _, hz, hn⟩ := hW
  refine ⟨?_, _, _, ([] ++ before) ++ [], ⟨[] ++ before, [], trodAll_append (hargs _ fun _ _ => rfl) (hres 0 (fun _ => true) true), hvars _, rfl, ?_, ?_⟩, ?_⟩
  ·intro j t r h1 h2
   rw [hf] at h1 h2
   cases j with
   | zero => simp [Value.resultList] at h1 h2; subst h1; subst h2; exact okWide_bool_mk htb true
   | succ j => simp at h1
  ·intro b off hp
   have hin : MemPlace.cell b off ∈ before := by simpa using hp
   rw [hb.frozen (hlt _ hin)]
   exact hz b off (by simpa using hin)
  ·intro ha
   simpa using hn ha
  ·intro p hp _
   simpa using hp
end
inductive Val (P : Program) : TypeId → List AV → Prop
 | int {t : TypeId} {k : IntKind} {n : Int} : P.underlying t = some (.int k) → (Lit.int k n).wf = true → Val P t [.v (.int k n)]
 | bool {t : TypeId} {b : Bool} : P.underlying t = some .bool → Val P t [.v (.bool b)]
 | str {t : TypeId} {s : ByteArray} : P.underlying t = some .string → s.size ≤ maxLen → Val P t [.v (.string s)]
 | sl {t e : TypeId} {rows : List (List AV)} : P.underlying t = some (.slice e) → rows.length ≤ maxLen → (∀ x ∈ rows, Val P e x) → Val P t [.sl (P.cellsOf e) rows]
 | st {t : TypeId} {fs : Array Field} {xs : List AV} : P.underlying t = some (.struct fs) → xs.length = P.cellsOf t → (∀ (i : Nat) (f : Field), fs[i]? = some f → Val P f.type ((xs.drop f.offset).take (P.cellsOf f.type))) → Val P t xs
def contig (P : Program) : Nat → List Field → Option Nat
 | o, [] => some o
 | o, f :: fs => if f.offset = o then contig P (o + P.cellsOf f.type) fs else none
def plainB (P : Program) (S : List TypeId) : Bool := S.all fun t =>
 match P.underlying t with
 | some (.int _) => decide (P.cellsOf t = 1)
 | some .bool => decide (P.cellsOf t = 1)
 | some .string => decide (P.cellsOf t = 1)
 | some (.slice e) => decide (P.cellsOf t = 1) && S.contains e && decide (0 < P.cellsOf e)
 | some (.struct fs) => decide (contig P 0 fs.toList = some (P.cellsOf t)) && fs.toList.all fun f => S.contains f.type
 | _ => false
section
variable {H : Type} {enc : TypeId × Value → H} {P : Program} {w : World} {sp : Nat → Bool} {held : Bool}
def RepC (w : World) (xs : List AV) (cs : List Value) : Prop := xs.length = cs.length ∧ ∀ (i : Nat) (x : AV) (u : Value), xs[i]? = some x → cs[i]? = some u → Rep w X0 (fun _ => {}) 0 x u ∧ one u = true
theorem contig_ge : ∀ (fl : List Field) {o n : Nat}, contig P o fl = some n → o ≤ n ∧ ∀ f ∈ fl, o ≤ f.offset ∧ f.offset + P.cellsOf f.type ≤ n
 | [], o, n, h => by simp [contig] at h; subst h; simp
 | f :: fs, o, n, h => by
  simp only [contig] at h
  split at h
  ·rename_i hf
   obtain ⟨h1, h2⟩ := contig_ge fs h
   refine ⟨by omega, fun g hg => ?_⟩
   rcases List.mem_cons.1 hg with rfl | hg
   ·omega
   ·have := h2 g hg; omega
  ·cases h
theorem fields_open (cs : List Value) : ∀ (fl : List Field) {o n : Nat}, contig P o fl = some n → n ≤ cs.length → (∀ f ∈ fl, ∃ ys, RepC w ys ((cs.drop f.offset).take (P.cellsOf f.type)) ∧ Val P f.type ys) →
  ∃ xs, RepC w xs ((cs.drop o).take (n - o)) ∧ ∀ f ∈ fl, Val P f.type ((xs.drop (f.offset - o)).take (P.cellsOf f.type))
 | [], o, n, h, _, _ => by
  simp [contig] at h; subst h
  exact ⟨[], ⟨by simp, fun i x u hx => by simp at hx⟩, by simp⟩
 | f :: fs, o, n, h, hn, hf => by
  simp only [contig] at h
  split at h
  ·rename_i hfo
   obtain ⟨h1, h2⟩ := contig_ge fs h
   obtain ⟨ys, ⟨hyl, hyr⟩, hyv⟩ := hf f (by simp)
   obtain ⟨zs, ⟨hzl, hzr⟩, hzv⟩ := fields_open cs fs h hn fun g hg => hf g (by simp [hg])
   rw [hfo] at hyl hyr
   have hyl' : ys.length = P.cellsOf f.type := by rw [hyl]; simp; omega
   have hzl' : zs.length = n - (o + P.cellsOf f.type) := by rw [hzl]; simp; omega
   refine ⟨ys ++ zs, ⟨by simp [hyl', hzl']; omega, fun i x u hx hu => ?_⟩, fun g hg => ?_⟩
   ·have hu' : cs[o + i]? = some u := by
     rw [List.getElem?_take] at hu
     split at hu
     ·simpa using hu
     ·cases hu
    by_cases hi : i < ys.length
    ·rw [List.getElem?_append_left hi] at hx
     refine hyr i x u hx ?_
     rw [List.getElem?_take, if_pos (by omega)]
     simpa using hu'
    ·rw [List.getElem?_append_right (by omega)] at hx
     refine hzr (i - ys.length) x u hx ?_
     have hlt := (List.getElem?_eq_some_iff.1 hx).1
     rw [List.getElem?_take, if_pos (by omega)]
     simp only [List.getElem?_drop]
     rw [← hu']
     congr 1
     omega
   ·rcases List.mem_cons.1 hg with rfl | hg
    ·rw [hfo, Nat.sub_self, List.drop_zero, List.take_left' hyl']
     exact hyv
    ·have := h2 g hg
     have e : (ys ++ zs).drop (g.offset - o) = zs.drop (g.offset - (o + P.cellsOf f.type)) := by
      rw [show g.offset - o = ys.length + (g.offset - (o + P.cellsOf f.type)) by omega, ← List.drop_drop, List.drop_left]
     rw [e]
     exact hzv g hg
  ·cases h
theorem add_zero_ (a : Addr) : a.add 0 = a := rfl
theorem add_off (b o n : Nat) : (⟨b, o, none⟩ : Addr).add n = ⟨b, o + n, none⟩ := by
 unfold Addr.add
 split
 ·rename_i h; rw [h]; rfl
 ·rfl
theorem cell_one {t : TypeId} {a : Addr} {u : Value} (h : w.cell? a = some u) : a.spot = none := by
 unfold World.cell? at h
 split at h
 ·split at h
  ·cases h
  ·rename_i hs; simpa using hs
 ·cases h
theorem open_cells {S : List TypeId} (hS : plainB P S = true) : ∀ (fuel : Nat) {t : TypeId} {cs : List Value} {x : DataW H × List MemPlace}, t ∈ S → DataW.trod enc P w 0 sp held fuel t cs = some x → ∃ xs, RepC w xs cs ∧ Val P t xs := by
 intro fuel
 induction fuel with
 | zero => intro t cs x _ h; simp [DataW.trod] at h
 | succ fuel ih =>
  intro t cs x ht h
  have hS0 := hS
  unfold plainB at hS
  rw [List.all_eq_true] at hS
  have h1 := hS t ht
  have single : ∀ (u : Value), one u = true → RepC w [.v u] [u] := fun u hu => ⟨rfl, fun i x y hx hy => by
   cases i with
   | zero => simp at hx hy; subst hx; subst hy; exact ⟨.v _ _, hu⟩
   | succ i => simp at hx⟩
  split at h1
  ·rename_i k hu
   obtain ⟨n, rfl, -, hw⟩ := DataW.trod_int hu h
   exact ⟨_, single _ rfl, .int hu hw⟩
  ·rename_i hu
   obtain ⟨b, rfl, -⟩ := DataW.trod_bool hu h
   exact ⟨_, single _ rfl, .bool hu⟩
  ·rename_i hu
   obtain ⟨s, rfl, -, hs⟩ := DataW.trod_string hu h
   exact ⟨_, single _ rfl, .str hu hs⟩
  ·rename_i e hu
   simp only [Bool.and_eq_true, decide_eq_true_eq, List.contains_iff_mem] at h1
   obtain ⟨⟨_, he⟩, hpos⟩ := h1
   have wrap : ∀ (y : AV) (u : Value), one u = true → Rep w X0 (fun _ => {}) 0 y u → RepC w [y] [u] := fun y u h1 hu => ⟨rfl, fun i x z hx hz => by
    cases i with
    | zero => simp at hx hz; subst hx; subst hz; exact ⟨hu, h1⟩
    | succ i => simp at hx⟩
   rcases DataW.trod_slice hu h with ⟨rfl, -⟩ | ⟨a, len, cap, elems, rest, n, hn, rfl, -, _, hlc, hcap, hel, helems, -, -⟩
   ·exact ⟨[.sl (P.cellsOf e) []], wrap _ _ rfl (.slE _ _ _ _), .sl hu (by simp) (by simp)⟩
   ·obtain rfl : n = fuel := by omega
    by_cases hlen : len = 0
    ·subst hlen
     exact ⟨[.sl (P.cellsOf e) []], wrap _ _ rfl (.slE _ _ _ _), .sl hu (by simp) (by simp)⟩
    ·have hrow : ∀ i, i < len → ∃ (cs : List Value) (xs : List AV), w.cells? 0 (a.add (i * P.cellsOf e)) (P.cellsOf e) = some cs ∧ RepC w xs cs ∧ Val P e xs := by
      intro i hi
      have hg := helems i hi
      rw [List.getElem?_eq_getElem (by omega)] at hg
      cases hc : w.cells? 0 (a.add (i * P.cellsOf e)) (P.cellsOf e) with
      | none => rw [hc] at hg; cases hg
      | some cs =>
       rw [hc] at hg
       obtain ⟨xs, h1, h2⟩ := ih he hg
       exact ⟨cs, xs, rfl, h1, h2⟩
     have hcell : ∀ i cs, w.cells? 0 (a.add (i * P.cellsOf e)) (P.cellsOf e) = some cs → cs.length = P.cellsOf e ∧ ∀ j, j < P.cellsOf e → w.cell? ((a.add (i * P.cellsOf e)).add j) = cs[j]? := by
      intro i cs hc
      obtain ⟨_, h2, h3⟩ := World.cells?_some hc
      exact ⟨h2, h3⟩
     obtain ⟨f, hf⟩ : ∃ f : Nat → List Value × List AV, ∀ i, i < len → w.cells? 0 (a.add (i * P.cellsOf e)) (P.cellsOf e) = some (f i).1 ∧ RepC w (f i).2 (f i).1 ∧ Val P e (f i).2 := by
      refine ⟨fun i => if hi : i < len then (Classical.choose (hrow i hi), Classical.choose (Classical.choose_spec (hrow i hi))) else ([], []), fun i hi => ?_⟩
      simp only [dif_pos hi]
      exact Classical.choose_spec (Classical.choose_spec (hrow i hi))
     have hfl : ∀ i, i < len → (f i).2.length = P.cellsOf e := fun i hi => (hf i hi).2.1.1.trans (hcell i _ (hf i hi).1).1
     have hspot : a.spot = none := by
      have h0 := (hcell 0 _ (hf 0 (by omega)).1).2 0 hpos
      rw [List.getElem?_eq_getElem (by rw [(hcell 0 _ (hf 0 (by omega)).1).1]; exact hpos)] at h0
      simp only [Nat.zero_mul, add_zero_] at h0
      exact cell_one (t := t) h0
     have hblk : a.block < w.heap.size := by
      have := World.cells?_block (hf 0 (by omega)).1 hpos
      simpa only [Nat.zero_mul, add_zero_] using this
     obtain ⟨b, o, spot⟩ := a
     simp only at hspot hblk
     subst hspot
     have hget : ∀ i x, ((List.range len).map fun i => (f i).2)[i]? = some x → i < len ∧ x = (f i).2 := by
      intro i x hx
      simp only [List.getElem?_map, List.getElem?_range] at hx
      by_cases hi : i < len
      ·simp [hi] at hx; exact ⟨hi, hx.symm⟩
      ·simp [hi] at hx
     have hc : ∀ (i j : Nat) (x : List AV) (y : AV), ((List.range len).map fun i => (f i).2)[i]? = some x → x[j]? = some y → w.cell? ⟨b, o + i * P.cellsOf e + j, none⟩ = some ((f i).1.getD j default) ∧ Rep w X0 (fun _ => {}) 0 y ((f i).1.getD j default) ∧ one ((f i).1.getD j default) = true := by
      intro i j x y hx hy
      obtain ⟨hi, rfl⟩ := hget i x hx
      have hj : j < (f i).2.length := (List.getElem?_eq_some_iff.1 hy).1
      have hl := hcell i _ (hf i hi).1
      have hj' : j < (f i).1.length := by rw [hl.1, ← hfl i hi]; exact hj
      have hgd : (f i).1[j]? = some ((f i).1.getD j default) := by simp [List.getD_eq_getElem?_getD, hj']
      refine ⟨?_, (hf i hi).2.1.2 j y _ hy hgd⟩
      have := hl.2 j (by rw [← hfl i hi]; exact hj)
      rw [hgd, add_off, add_off] at this
      exact this
     refine ⟨[.sl (P.cellsOf e) ((List.range len).map fun i => (f i).2)], wrap _ _ rfl ?_, .sl hu (by simp; omega) fun x hx => ?_⟩
     ·have := Rep.slN (w := w) (M := X0) (ρ := fun _ => {}) 0 (P.cellsOf e) ((List.range len).map fun i => (f i).2) b o cap (fun i j => (f i).1.getD j default) (fun h => h.elim) hblk (by simpa using hlc)
       (fun x hx => by obtain ⟨i, hi, rfl⟩ := List.mem_map.1 hx; exact hfl i (by simpa using hi)) (fun i j x y hx hy => ⟨(hc i j x y hx hy).1, (hc i j x y hx hy).2.2⟩) (fun i j x y hx hy => (hc i j x y hx hy).2.1)
      simpa using this
     ·obtain ⟨i, hi, rfl⟩ := List.mem_map.1 hx
      exact (hf i (by simpa using hi)).2.2
  ·rename_i fs hu
   simp only [Bool.and_eq_true, decide_eq_true_eq, List.all_eq_true, List.contains_iff_mem] at h1
   obtain ⟨ys, n, hn, -, hcl, hyl, hy⟩ := DataW.trod_struct hu h
   obtain rfl : n = fuel := by omega
   obtain ⟨xs, hxr, hxv⟩ := fields_open (w := w) cs fs.toList h1.1 (by omega) fun f hf => by
    obtain ⟨i, hi, hif⟩ := List.mem_iff_getElem.1 hf
    have hg := hy i f (by rw [← hif]; simp at hi; simp [hi])
    rw [List.getElem?_eq_getElem (by simp at hi; omega)] at hg
    exact ih (h1.2 f hf) hg
   rw [Nat.sub_zero, List.drop_zero, List.take_of_length_le (by omega)] at hxr
   refine ⟨xs, hxr, .st hu (by rw [hxr.1]; exact hcl) fun i f hf => ?_⟩
   have := hxv f (by rw [← Array.getElem?_toList] at hf; exact List.mem_of_getElem? hf)
   simpa using this
  ·cases h1
def topV (P : Program) (t : TypeId) (xs : List AV) : AV := match P.underlying t with | some (.struct _) => .agg xs | _ => xs.headD .any
theorem open_val {S : List TypeId} (hS : plainB P S = true) {t : TypeId} {v : Value} {d : DataW H} {ps : List MemPlace} {r : Reach} {base : Nat} (ht : t ∈ S) (hval : Value.okWide P w r base t v) (h : DataW.Trod enc P w 0 sp held t v d ps) :
  ∃ xs, Val P t xs ∧ Rep w X0 (fun _ => {}) 0 (topV P t xs) v := by
 obtain ⟨fuel, hf⟩ := h
 obtain ⟨xs, hx, hv⟩ := open_cells hS fuel ht hf
 refine ⟨xs, hv, ?_⟩
 unfold plainB at hS
 rw [List.all_eq_true] at hS
 have h1 := hS t ht
 have single : v.cells = #[v] → (∀ fs, P.underlying t ≠ some (.struct fs)) → Rep w X0 (fun _ => {}) 0 (topV P t xs) v := by
  intro hc hn
  have e : topV P t xs = xs.headD .any := by
   unfold topV
   split
   ·rename_i fs hu; exact absurd hu (hn fs)
   ·rfl
  rw [e]
  rw [hc] at hx
  obtain ⟨hl, hr⟩ := hx
  match xs, hl with
  | [x], _ => exact (hr 0 x v rfl rfl).1
 split at h1
 ·rename_i k hu
  obtain ⟨n, rfl⟩ := okWide_int hu hval
  exact single rfl fun fs => by rw [hu]; simp
 ·rename_i hu
  obtain ⟨n, rfl⟩ := okWide_bool hu hval
  exact single rfl fun fs => by rw [hu]; simp
 ·rename_i hu
  obtain ⟨n, rfl⟩ := okWide_string hu hval
  exact single rfl fun fs => by rw [hu]; simp
 ·rename_i e hu
  obtain ⟨a, len, cap, rfl⟩ := okWide_slice hu hval
  exact single rfl fun fs => by rw [hu]; simp
 ·rename_i fs hu
  obtain ⟨cs, rfl, hsz⟩ := okWide_struct hu hval
  have e : topV P t xs = .agg xs := by unfold topV; rw [hu]
  rw [e]
  exact .agg _ _ _ (by rw [hx.1]; simp [Value.cells]) fun i x u hxi hui => (hx.2 i x u hxi (by simpa [Value.cells] using hui)).1
 ·cases h1
def ValAll (P : Program) : List TypeId → List (List AV) → Prop
 | [], [] => True
 | t :: ts, xs :: l => Val P t xs ∧ ValAll P ts l
 | _, _ => False
def zCF (P : Program) : List TypeId → List (List AV) → List AV
 | t :: ts, xs :: l => topV P t xs :: zCF P ts l
 | _, _ => []
theorem open_all {S : List TypeId} (hS : plainB P S = true) : ∀ {ts : List TypeId} {vs : List Value} {ds : List (DataW H)} {ps : List MemPlace}, (∀ t ∈ ts, t ∈ S) → (∀ (j : Nat) t v, ts[j]? = some t → vs[j]? = some v → ∃ r base, Value.okWide P w r base t v) →
  DataW.TrodAll enc P w 0 sp held ts vs ds ps → ∃ l, ValAll P ts l ∧ (zCF P ts l).length = vs.length ∧ ∀ (i : Nat) (x : AV) (u : Value), (zCF P ts l)[i]? = some x → vs[i]? = some u → Rep w X0 (fun _ => {}) 0 x u
 | [], vs, ds, ps, _, _, h => by
  obtain ⟨rfl, rfl, rfl⟩ := trodAll_nil h
  exact ⟨[], trivial, rfl, fun i x u hx => by simp [zCF] at hx⟩
 | t :: ts, vs, ds, ps, hts, hv, h => by
  obtain ⟨v, vs1, d, ds1, a, b, rfl, rfl, rfl, h1, h2⟩ := trodAll_cons h
  obtain ⟨r, base, hok⟩ := hv 0 t v rfl rfl
  obtain ⟨xs, hx, hr⟩ := open_val hS (hts t (by simp)) hok h1
  obtain ⟨l, hl, hlen, hrep⟩ := open_all hS (fun t ht => hts t (by simp [ht])) (fun j t v ht hv' => hv (j + 1) t v (by simpa using ht) (by simpa using hv')) h2
  refine ⟨xs :: l, ⟨hx, hl⟩, by simp [zCF, hlen], fun i x u hxi hui => ?_⟩
  cases i with
  | zero => simp [zCF] at hxi hui; subst hxi; subst hui; exact hr
  | succ i => exact hrep i x u (by simpa [zCF] using hxi) (by simpa using hui)
theorem stays_all (hl : laidOutB P = true) {w' : World} {sp' : Nat → Bool} : ∀ {ts : List TypeId} {vs : List Value} {ds : List (DataW H)} {ps : List MemPlace}, (∀ t ∈ ts, P.readableRec t = true ∧ t < P.types.size) →
  DataW.TrodAll enc P w 0 (fun _ => true) true ts vs ds ps → (∀ p ∈ ps, w.sameAt w' p) → (∀ p ∈ ps, sp' p.block = true) → DataW.TrodAll enc P w' 0 sp' true ts vs ds ps
 | [], vs, ds, ps, _, h, _, _ => by
  obtain ⟨rfl, rfl, rfl⟩ := trodAll_nil h
  exact trodAll_mk0
 | t :: ts, vs, ds, ps, hts, h, hsame, hs => by
  obtain ⟨v, vs1, d, ds1, a, b, rfl, rfl, rfl, h1, h2⟩ := trodAll_cons h
  have ht := hts t (by simp)
  exact ⟨a, b, WideElems.Trod_stays hl ht.1 ht.2 h1 (fun p hp => hsame p (by simp [hp])) (fun p hp => hs p (by simp [hp])), stays_all hl (fun t ht => hts t (by simp [ht])) h2 (fun p hp => hsame p (by simp [hp])) (fun p hp => hs p (by simp [hp])), rfl⟩
end
def intVars (P : Program) : Bool := glbs.all fun g => decide (g < P.globals.size) &&
 match ((begin P (fun _ _ => 0) default).world.heap[g]?).bind Obj.row? with
 | some (zero, t) => zero.size == 1 && P.buildable t && P.cellTypes P.depth t == some [t] && (match P.underlying t with | some (.int .i64) => true | _ => false)
 | none => false
theorem glbs_shaped {P : Program} {w : World} (h : intVars P = true) (hsh : w.ShapedOpen P) : ∀ g ∈ glbs, ∃ m, w.cell? ⟨g, 0, none⟩ = some (.int .i64 m) := by
 intro g hg
 have h1 := List.all_eq_true.1 h g hg
 rw [Bool.and_eq_true, decide_eq_true_eq] at h1
 obtain ⟨h1, h2⟩ := h1
 split at h2
 ·rename_i zero t h0
  simp only [Bool.and_eq_true, beq_iff_eq] at h2
  obtain ⟨⟨⟨h3, h4⟩, h5⟩, h6⟩ := h2
  refine Go.Proofs.cell_of_shapedOpen_int hsh h1 h0 h3 h4 h5 ?_
  split at h6
  ·assumption
  ·cases h6
 ·cases h2
theorem law_lifted {C : Checked} {k : FuncId} {fn : Func} {s : ChangeSpec} {conds : List PathCond} {tb : TypeId} {S : List TypeId} {os : Os} {H : Type} {enc : TypeId × Value → H} {ts : List TypeId}
  (own : ownKnob C.prog.godebug = none) (started : os.Started) (noInit : C.prog.inits.idxOf? k = none) (hfn : C.prog.funcs[k]? = some fn)
  (witness : ∃ (w : World) (tape : Tape) (i : Input), w.os = os ∧ (w.forCall tape i).Shaped C.prog ∧ i.vars = [] ∧ Input.okWide C.prog (w.forCall tape i) .any w.heap.size k i ∧
   s.pre6 enc C.prog fn conds false (w.forCall tape i).memory i.args ∧ (({} : Assume)).holds C.prog (lone (Frame.enter C.prog k i.args .normal) [] (w.forCall tape i)))
  (hv : s.vars = []) (hts : fn.params.toList = ts) (hf : fn.resultTypes = #[tb]) (htb : C.prog.underlying tb = some .bool) (hs : ∀ ds : List (DataW H), ds.length = ts.length → s.fn H ds = ⟨[.lit (.bool true)], ds, []⟩)
  (hgl : intVars C.prog = true) (hl : laidOutB C.prog = true) (hr : ts.all (fun t => C.prog.readableRec t && decide (t < C.prog.types.size) && S.contains t) = true) (hS : plainB C.prog S = true)
  (law : ∀ l, ValAll C.prog ts l → ∃ R : zB → Prop, ACall C.prog k (zCF C.prog ts l) [] fun x H' => x = bool true ∧ R H') :
  ReturnsInHanded {} C os k .any (s.pre6 enc C.prog fn conds false) (s.post enc C.prog fn false true false false) := by
 refine returnsInHanded_of_change_shaped own started noInit hfn witness ?_
 intro W base args ds gs before hval hW hcnd _ hsh _
 have hW' := hW
 obtain ⟨p, q, hA, hV, rfl, hfz, hnd⟩ := hW
 rw [hv] at hV
 obtain ⟨rfl, rfl⟩ := trodVars_none hV
 have hall : ∀ t ∈ ts, C.prog.readableRec t = true ∧ t < C.prog.types.size ∧ t ∈ S := fun t ht => by
  have := List.all_eq_true.1 hr t ht
  simpa [and_assoc] using this
 rw [hts] at hA
 obtain ⟨l, hl1, hl2, hl3⟩ := open_all hS (fun t ht => (hall t ht).2.2) (fun j t v ht hvv => ⟨_, _, hval j t v (by rw [← Array.getElem?_toList, hts]; exact ht) (by rw [← Array.getElem?_toList]; exact hvv)⟩) hA
 obtain ⟨R, hlaw⟩ := law l hl1
 have hrep : RepL W X0 (fun _ => {}) 0 (zCF C.prog ts l) args := ⟨by simpa using hl2, fun i x u hx hu => hl3 i x u hx (by rw [Array.getElem?_toList]; exact hu)⟩
 refine (hlaw.top hrep (glbs_shaped hgl hsh)).mono fun e W' ⟨v, x, H', ρ', he, hx, hrx, hb⟩ => ?_
 obtain ⟨rfl, _⟩ := hx
 have hvv := zAX hrx
 subst hvv
 subst he
 have hlt : ∀ x ∈ p ++ [], x.block < W.heap.size := fun x hx => hW'.lt x hx
 have hdl : ds.length = ts.length := by
  have aux : ∀ {ts : List TypeId} {vs : List Value} {ds : List (DataW H)} {ps : List MemPlace}, DataW.TrodAll enc C.prog W 0 (fun _ => true) true ts vs ds ps → ds.length = ts.length := by
   intro ts
   induction ts with
   | nil => intro vs ds ps h; obtain ⟨_, rfl, _⟩ := trodAll_nil h; rfl
   | cons t ts ih => intro vs ds ps h; obtain ⟨v, vs1, d, ds1, a, b, rfl, rfl, rfl, h1, h2⟩ := trodAll_cons h; simp [ih h2]
  exact aux hA
 refine ⟨_, rfl, post_law hW' hv hf htb (hs ds hdl) (fun sp hsp => ?_) hb⟩
 rw [hts, List.append_nil]
 exact stays_all hl (fun t ht => ⟨(hall t ht).1, (hall t ht).2.1⟩) hA (fun x hx => hb.same (hlt x (by simpa using hx))) (fun x hx => hsp x (by simpa using hx))
end Go.Ax
namespace Go.Ax
open Go Go.RowKit Go.WideShapes Go.ChangeShapes
open Go.Proofs.YtaipgalanpcgoaaGreat
set_option linter.unusedSimpArgs false
set_option linter.unusedVariables false
section
variable {H : Type} {enc : TypeId × Value → H} {P : Program} {w : World} {sp : Nat → Bool} {held : Bool}
end
end Go.Ax
namespace Go.Ax
open Go
abbrev oM (d a : Nat) : LO := ⟨some d, none, .mv (.t a)⟩
abbrev oX (d : Nat) (o : LOp) : LO := ⟨some d, none, o⟩
abbrev oT (d g : Nat) (o : LOp) : LO := ⟨some d, some (g, true), o⟩
abbrev oF (d g : Nat) (o : LOp) : LO := ⟨some d, some (g, false), o⟩
abbrev oN (o : LOp) : LO := ⟨none, none, o⟩
abbrev oL (d a : Nat) : LO := ⟨some d, none, .load false 1 (.t a)⟩
abbrev oA (d k a : Nat) : LO := ⟨some d, none, .load true k (.t a)⟩
abbrev oD (d k a : Nat) : LO := ⟨some d, none, .faddr k (.t a)⟩
abbrev oE (d a k : Nat) : LO := ⟨some d, none, .ext (.t a) k⟩
abbrev oI (d k a b : Nat) : LO := ⟨some d, none, .iaddr k (.t a) (.t b)⟩
abbrev oK (d a : Nat) : LO := ⟨some d, none, .nilchk (.t a)⟩
abbrev oP (d a : Nat) (x y : LX) : LO := ⟨some d, none, .pick (.t a) x y⟩
abbrev oS (k a b : Nat) : LO := ⟨none, none, .store k (.t a) (.t b)⟩
abbrev kI (n : Int) : LX := .c (.v (.int .i64 n))
abbrev kB (b : Bool) : LX := .c (.v (.bool b))
abbrev cF (f : FuncId) (l : List LX) : LOp := .call (.c (.fn (.func f) [] [])) l
abbrev bI (o : BinOp) (x y : LX) : LOp := .bin .int o x y
abbrev oC (d : Nat) (n : Int) : LO := ⟨some d, none, .mv (.c (.v (.int .i64 n)))⟩
abbrev oB (d : Nat) (o : BinOp) (a b : Nat) : LO := ⟨some d, none, .bin .int o (.t a) (.t b)⟩
abbrev oV (d : Nat) (o : BinOp) (a : Nat) (n : Int) : LO := ⟨some d, none, .bin .int o (.t a) (.c (.v (.int .i64 n)))⟩
abbrev oU (d g a : Nat) : LO := ⟨some d, some (g, true), .mv (.t a)⟩
abbrev oW (d g a : Nat) : LO := ⟨some d, some (g, false), .mv (.t a)⟩
abbrev cD (n : Nat) (a b : LCode) : LCode := .cond (.t n) a b
abbrev sO (l : List LO) (c : LCode) : LCode := .seq (.ops l) c
abbrev i0 : AV := .v (.int .i64 0)
abbrev s0 : AV := .v (.string (mkS []))
abbrev y0 (f : FuncId) : LOp := .call (.c (.fn (.func f) [] [])) []
abbrev y1 (f : FuncId) (a : Nat) : LOp := .call (.c (.fn (.func f) [] [])) [.t a]
abbrev y2 (f : FuncId) (a b : Nat) : LOp := .call (.c (.fn (.func f) [] [])) [.t a, .t b]
abbrev y3 (f : FuncId) (a b c : Nat) : LOp := .call (.c (.fn (.func f) [] [])) [.t a, .t b, .t c]
abbrev y4 (f : FuncId) (a b c d : Nat) : LOp := .call (.c (.fn (.func f) [] [])) [.t a, .t b, .t c, .t d]
end Go.Ax
namespace Go.Proofs.YtaipgalanpcgoaaGreat
open Go Go.Ax
set_option maxRecDepth 100000
set_option maxHeartbeats 4000000
def L3 : LFn := ⟨49,[(.tmp 6)],(sO [oX 6 (.mv (kB false))] (.seq (sO [oM 13 2,oX 14 (.len .slc (.t 13)),oV 15 .gtr 14 60] (cD 15 (sO [oX 16 (y0 8),oM 6 16] .ret) .skip)) (sO [oM 18 0,oM 19 1,oM 20 2,oX 21 (y3 9 18 19 20),oM 17 21,oE 22 17 0,oE 23 17 1,oE 24 17 2,oM 7 22,oM 8 23,oM 9 24] (sO [oM 26 0,oM 27 1,oM 28 2,oX 29 (y3 10 26 27 28),oM 25 29,oE 30 25 0,oE 31 25 1,oE 32 25 2,oM 10 30,oM 11 31,oM 12 32] (sO [oM 33 7,oM 34 10,oX 35 (y2 11 33 34),oM 36 35,oU 37 36 8,oU 38 36 11,oT 39 36 (bI .eql (.t 37) (.t 38)),oP 40 36 (.t 39) (kB false),oM 41 40,oU 42 41 9,oU 43 41 12,oT 44 41 (bI .eql (.t 42) (.t 43)),oP 45 41 (.t 44) (kB false),oM 46 45,oT 47 46 (y0 8),oP 48 46 (.t 47) (kB false),oM 6 48] .ret)))))⟩
theorem L3_ok : zY Tryz.prog Tryz.f3 [] = some L3 := by kernel_rfl
def L8 : LFn := ⟨66,[(.tmp 0)],(sO [oX 0 (.mv (kB false))] (sO [oX 14 (cF 24 [(.c (.v (.string (mkS [112,114,111,99,32,102,40,120,58,32,105,110,116,41,58,32,105,110,116,32,123,32,114,101,116,117,114,110,32,54,32,47,32,120,59,32,125]))))]),oM 13 14,oE 15 13 0,oE 16 13 1,oE 17 13 2,oX 1 (.alloc [i0,s0,i0,i0,zAf,zAf,zAf,zAf,zAf]),oS 9 1 15,oM 2 16,oM 3 17] (sO [oA 19 9 1,oX 20 (y1 25 19),oM 18 20,oE 21 18 0,oE 22 18 1,oX 4 (.alloc [zAf]),oS 1 4 21,oM 5 22] (sO [oA 24 1 4,oX 25 (.build [i0,i0] [(0,(1,(kI 4)))]),oX 26 (.bsl true 1 1 [i0] [(0,(kI 0))]),oX 27 (cF 17 [(.t 24),(kI 0),(.t 25),(.t 26)]),oM 23 27,oE 28 23 0,oE 29 23 1,oE 30 23 2,oE 31 23 3,oX 6 (.alloc [i0,zAf]),oS 2 6 28,oM 7 29,oM 8 30,oM 9 31] (sO [oX 33 (.bsl true 1 3 [i0] [(0,(kI 5)),(1,(kI 1)),(2,(kI 3))]),oX 34 (cF 9 [(kI 4),(kI 6),(.t 33)]),oM 32 34,oE 35 32 0,oE 36 32 1,oE 37 32 2,oM 10 35,oM 11 36,oM 12 37] (sO [oA 38 2 6,oX 39 (.build [i0,zAf] [(0,(1,(kI 1)))]),oX 40 (y2 22 38 39),oM 41 40,oU 42 41 7,oT 43 41 (bI .eql (.t 42) (kI 0)),oP 44 41 (.t 43) (kB false),oM 45 44,oU 46 45 8,oT 47 45 (bI .eql (.t 46) (kI 2)),oP 48 45 (.t 47) (kB false),oM 49 48,oU 50 49 9,oT 51 49 (bI .eql (.t 50) (kI 0)),oP 52 49 (.t 51) (kB false),oM 53 52,oU 54 53 10,oT 55 53 (.bsl true 1 2 [i0] [(0,(kI 5)),(1,(kI (-2)))]),oT 56 53 (y2 11 54 55),oP 57 53 (.t 56) (kB false),oM 58 57,oU 59 58 11,oT 60 58 (bI .eql (.t 59) (kI 0)),oP 61 58 (.t 60) (kB false),oM 62 61,oU 63 62 12,oT 64 62 (bI .eql (.t 63) (kI 0)),oP 65 62 (.t 64) (kB false),oM 0 65] .ret))))))⟩
theorem L8_ok : zY Tryz.prog Tryz.f8 [⟨3,2,.imm⟩,⟨4,0,.imm⟩,⟨5,17,.imm⟩] = some L8 := by kernel_rfl
def L11 : LFn := ⟨26,[(.tmp 4)],(sO [oX 4 (.mv (kB false))] (.seq (sO [oM 6 0,oX 7 (.len .slc (.t 6)),oM 8 1,oX 9 (.len .slc (.t 8)),oB 10 .neq 7 9] (cD 10 (sO [oX 4 (.mv (kB false))] .ret) .skip)) (.seq (sO [oC 5 0] (.block 0 (.loop (.seq (sO [oM 11 5,oM 12 0,oX 13 (.len .slc (.t 12)),oB 14 .lss 11 13] (cD 14 .skip (.exit 0))) (.seq (.block 1 (.seq (.draw [oM 17 0,oM 18 5,oI 19 1 17 18,oL 20 19,oM 21 1,oM 22 5,oI 23 1 21 22,oL 24 23,oB 25 .neq 20 24] []) (cD 25 (sO [oX 4 (.mv (kB false))] .ret) .skip))) (.ops [oM 15 5,oV 16 .add 15 1,oM 5 16])))))) (sO [oX 4 (.mv (kB true))] .ret))))⟩
theorem L11_ok : zY Tryz.prog Tryz.f11 [] = some L11 := by kernel_rfl
def L15 : LFn := ⟨10,[(.tmp 2)],(sO [oC 2 0] (.seq (sO [oM 3 0,oX 4 (y1 32 3),oX 5 (.not (.t 4))] (cD 5 (sO [oC 2 0] .ret) .skip)) (sO [oM 6 0,oV 7 .sub 6 1,oX 8 (y1 40 7),oX 9 (.neg (.t 8)),oM 2 9] .ret)))⟩
theorem L15_ok : zY Tryz.prog Tryz.f15 [] = some L15 := by kernel_rfl
def L16 : LFn := ⟨10,[(.tmp 2)],(sO [oC 2 0] (.seq (sO [oM 3 0,oX 4 (y1 32 3),oX 5 (.not (.t 4))] (cD 5 (sO [oC 2 0] .ret) .skip)) (sO [oM 6 0,oV 7 .sub 6 1,oX 8 (y1 40 7),oV 9 .sub 8 1,oM 2 9] .ret)))⟩
theorem L16_ok : zY Tryz.prog Tryz.f16 [] = some L16 := by kernel_rfl
def L18 : LFn := ⟨73,[(.tmp 8),(.tmp 9),(.tmp 10)],(sO [oC 8 0,oC 9 0,oC 10 0] (.seq (sO [oM 15 0,oX 16 (y1 43 15),oX 17 (.not (.t 16))] (cD 17 (sO [oC 8 0,oC 9 0,oC 10 2] .ret) .skip)) (sO [oX 19 (y0 44),oM 20 1,oX 21 (.look .str (.v .nilFunc) true (.t 19) (.t 20)),oM 18 21,oE 22 18 0,oE 23 18 1,oM 11 22,oM 12 23] (.seq (sO [oM 24 12,oX 25 (.not (.t 24))] (cD 25 (sO [oC 8 0,oC 9 0,oC 10 1] .ret) .skip)) (sO [oM 26 1,oX 27 (.bin .str .eql (.t 26) (.c (.v (.string (mkS [97,110,100]))))),oM 28 27,oW 29 28 1,oF 30 28 (.bin .str .eql (.t 29) (.c (.v (.string (mkS [111,114]))))),oP 31 28 (kB true) (.t 30),oM 13 31] (.seq (sO [oM 32 13,oM 33 32,oU 34 33 2,oT 35 33 (y1 45 34),oU 36 33 35,oU 37 36 3,oT 38 36 (y1 45 37),oT 39 33 (.pick (.t 36) (.t 38) (kB false)),oT 40 33 (.not (.t 39)),oP 41 33 (.t 40) (kB false),oM 42 41,oW 43 42 0,oW 44 42 2,oF 45 42 (y2 46 43 44),oW 46 42 45,oU 47 46 0,oU 48 46 3,oT 49 46 (y2 46 47 48),oF 50 42 (.pick (.t 46) (.t 49) (kB false)),oF 51 42 (.not (.t 50)),oP 52 42 (kB true) (.t 51)] (cD 52 (sO [oC 8 0,oC 9 0,oC 10 2] .ret) .skip)) (.seq (sO [oM 53 3,oV 54 .eql 53 0,oM 55 54,oU 56 55 1,oT 57 55 (.bin .str .eql (.t 56) (.c (.v (.string (mkS [47]))))),oU 58 55 57,oW 59 58 1,oF 60 58 (.bin .str .eql (.t 59) (.c (.v (.string (mkS [37]))))),oT 61 55 (.pick (.t 58) (kB true) (.t 60)),oP 62 55 (.t 61) (kB false)] (cD 62 (sO [oC 8 0,oC 9 1,oC 10 0] .ret) .skip)) (sO [oM 63 11,oM 64 2,oM 65 3,oX 66 (.call (.t 63) [(.t 64),(.t 65)]),oM 14 66] (.seq (sO [oM 67 1,oX 68 (cF 47 [(.c (.v (.string (mkS [43,45,42,47,37])))),(.t 67)])] (cD 68 (.ops [oM 69 0,oM 70 14,oX 71 (y2 48 69 70),oM 14 71]) .skip)) (sO [oM 72 14,oM 8 72,oC 9 0,oC 10 0] .ret))))))))))⟩
theorem L18_ok : zY Tryz.prog Tryz.f18 [] = some L18 := by kernel_rfl
def L22 : LFn := ⟨17,[(.tmp 4)],(sO [oX 2 (.box false (.t 0)),oX 3 (.box false (.t 1)),oX 4 (.mv (kB false))] (sO [oD 5 0 2,oL 6 5,oD 7 0 3,oL 8 7,oB 9 .eql 6 8,oM 10 9,oT 11 10 (.faddr 1 (.t 2)),oT 12 10 (.load false 1 (.t 11)),oT 13 10 (.faddr 1 (.t 3)),oT 14 10 (.load false 1 (.t 13)),oT 15 10 (y2 11 12 14),oP 16 10 (.t 15) (kB false),oM 4 16] .ret))⟩
theorem L22_ok : zY Tryz.prog Tryz.f22 [] = some L22 := by kernel_rfl
def L32 : LFn := ⟨9,[(.tmp 2)],(sO [oX 2 (.mv (kB false))] (sO [oM 3 0,oV 4 .geq 3 2,oM 5 4,oU 6 5 0,oT 7 5 (bI .leq (.t 6) (kI 8)),oP 8 5 (.t 7) (kB false),oM 2 8] .ret))⟩
theorem L32_ok : zY Tryz.prog Tryz.f32 [] = some L32 := by kernel_rfl
def L33 : LFn := ⟨29,[(.tmp 4)],(sO [oC 4 0] (.seq (sO [oM 5 0,oX 6 (y1 32 5),oX 7 (.not (.t 6))] (cD 7 (sO [oC 4 0] .ret) .skip)) (sO [oM 8 1,oM 9 0,oX 10 (y1 40 9),oB 11 .rem 8 10,oM 1 11] (.seq (sO [oM 12 1,oM 13 0,oX 14 (y1 15 13),oB 15 .lss 12 14] (cD 15 (sO [oM 16 1,oM 17 0,oX 18 (y1 40 17),oB 19 .add 16 18,oM 4 19] .ret) .skip)) (.seq (sO [oM 20 1,oM 21 0,oX 22 (y1 16 21),oB 23 .gtr 20 22] (cD 23 (sO [oM 24 1,oM 25 0,oX 26 (y1 40 25),oB 27 .sub 24 26,oM 4 27] .ret) .skip)) (sO [oM 28 1,oM 4 28] .ret))))))⟩
theorem L33_ok : zY Tryz.prog Tryz.f33 [] = some L33 := by kernel_rfl
def L40 : LFn := ⟨13,[(.tmp 2)],(sO [oC 2 0] (sO [oC 3 1] (.seq (sO [oC 4 0] (.block 0 (.loop (.seq (sO [oM 5 4,oM 6 0,oB 7 .lss 5 6] (cD 7 .skip (.exit 0))) (.seq (.block 1 (.ops [oM 10 3,oX 11 (bI .mul (kI 2) (.t 10)),oM 3 11])) (.ops [oM 8 4,oV 9 .add 8 1,oM 4 9])))))) (sO [oM 12 3,oM 2 12] .ret))))⟩
theorem L40_ok : zY Tryz.prog Tryz.f40 [] = some L40 := by kernel_rfl
def L43 : LFn := ⟨9,[(.tmp 2)],(sO [oX 2 (.mv (kB false))] (sO [oM 3 0,oV 4 .geq 3 2,oM 5 4,oU 6 5 0,oT 7 5 (bI .leq (.t 6) (kI 8)),oP 8 5 (.t 7) (kB false),oM 2 8] .ret))⟩
theorem L43_ok : zY Tryz.prog Tryz.f43 [] = some L43 := by kernel_rfl
def L44 : LFn := ⟨3,[(.tmp 0)],(sO [oX 0 (.mv (.c (.v (.map none))))] (sO [⟨(some 1),none,.mkmap⟩,oN (.ins .str (.t 1) (.c (.v (.string (mkS [43])))) (.c (.fn (.func 75) [] []))),oN (.ins .str (.t 1) (.c (.v (.string (mkS [45])))) (.c (.fn (.func 76) [] []))),oN (.ins .str (.t 1) (.c (.v (.string (mkS [42])))) (.c (.fn (.func 77) [] []))),oN (.ins .str (.t 1) (.c (.v (.string (mkS [47])))) (.c (.fn (.func 78) [] []))),oN (.ins .str (.t 1) (.c (.v (.string (mkS [37])))) (.c (.fn (.func 79) [] []))),oN (.ins .str (.t 1) (.c (.v (.string (mkS [61,61])))) (.c (.fn (.func 80) [] []))),oN (.ins .str (.t 1) (.c (.v (.string (mkS [33,61])))) (.c (.fn (.func 82) [] []))),oN (.ins .str (.t 1) (.c (.v (.string (mkS [60])))) (.c (.fn (.func 83) [] []))),oN (.ins .str (.t 1) (.c (.v (.string (mkS [60,61])))) (.c (.fn (.func 84) [] []))),oN (.ins .str (.t 1) (.c (.v (.string (mkS [62])))) (.c (.fn (.func 85) [] []))),oN (.ins .str (.t 1) (.c (.v (.string (mkS [62,61])))) (.c (.fn (.func 86) [] []))),oN (.ins .str (.t 1) (.c (.v (.string (mkS [97,110,100])))) (.c (.fn (.func 87) [] []))),oN (.ins .str (.t 1) (.c (.v (.string (mkS [111,114])))) (.c (.fn (.func 88) [] []))),oM 2 1,oM 0 2,oX 0 (.frz (.t 0))] .ret))⟩
theorem L44_ok : zY Tryz.prog Tryz.f44 [⟨1,16,(.pre 0 (.frz (.t 0)))⟩] = some L44 := by kernel_rfl
def L46 : LFn := ⟨15,[(.tmp 4)],(sO [oX 4 (.mv (kB false))] (sO [oM 5 1,oM 6 0,oX 7 (y1 59 6),oB 8 .geq 5 7,oM 9 8,oU 10 9 1,oU 11 9 0,oT 12 9 (y1 60 11),oT 13 9 (bI .leq (.t 10) (.t 12)),oP 14 9 (.t 13) (kB false),oM 4 14] .ret))⟩
theorem L46_ok : zY Tryz.prog Tryz.f46 [] = some L46 := by kernel_rfl
def L48 : LFn := ⟨16,[(.tmp 4)],(sO [oC 4 0] (.seq (sO [oM 6 0,oX 7 (y1 43 6),oX 8 (.not (.t 7))] (cD 8 (sO [oC 4 0] .ret) .skip)) (sO [oM 9 0,oX 10 (bI .sub (kI 64) (.t 9)),oM 5 10] (sO [oM 11 1,oM 12 5,oB 13 .shl 11 12,oM 14 5,oB 15 .shr 13 14,oM 4 15] .ret))))⟩
theorem L48_ok : zY Tryz.prog Tryz.f48 [] = some L48 := by kernel_rfl
def L59 : LFn := ⟨9,[(.tmp 2)],(sO [oC 2 0] (.seq (sO [oM 3 0,oX 4 (y1 43 3),oX 5 (.not (.t 4))] (cD 5 (sO [oC 2 0] .ret) .skip)) (sO [oM 6 0,oV 7 .sub 6 1,oX 8 (bI .shl (kI (-1)) (.t 7)),oM 2 8] .ret)))⟩
theorem L59_ok : zY Tryz.prog Tryz.f59 [] = some L59 := by kernel_rfl
def L60 : LFn := ⟨10,[(.tmp 2)],(sO [oC 2 0] (.seq (sO [oM 3 0,oX 4 (y1 43 3),oX 5 (.not (.t 4))] (cD 5 (sO [oC 2 0] .ret) .skip)) (sO [oM 6 0,oV 7 .sub 6 1,oX 8 (bI .shl (kI 1) (.t 7)),oV 9 .sub 8 1,oM 2 9] .ret)))⟩
theorem L60_ok : zY Tryz.prog Tryz.f60 [] = some L60 := by kernel_rfl
def L62 : LFn := ⟨148,[(.tmp 8),(.tmp 9),(.tmp 10)],(sO [oC 8 0,oC 9 0,oC 10 0] (.seq (sO [oM 13 0,oX 14 (y1 32 13),oX 15 (.not (.t 14))] (cD 15 (sO [oC 8 0,oC 9 0,oC 10 2] .ret) .skip)) (.seq (sO [oX 16 (.bsl true 1 13 [s0] [(0,(.c (.v (.string (mkS [43]))))),(1,(.c (.v (.string (mkS [45]))))),(2,(.c (.v (.string (mkS [42]))))),(3,(.c (.v (.string (mkS [47]))))),(4,(.c (.v (.string (mkS [37]))))),(5,(.c (.v (.string (mkS [61,61]))))),(6,(.c (.v (.string (mkS [33,61]))))),(7,(.c (.v (.string (mkS [60]))))),(8,(.c (.v (.string (mkS [60,61]))))),(9,(.c (.v (.string (mkS [62]))))),(10,(.c (.v (.string (mkS [62,61]))))),(11,(.c (.v (.string (mkS [97,110,100]))))),(12,(.c (.v (.string (mkS [111,114])))))]),oM 17 1,oX 18 (y2 118 16 17),oX 19 (.not (.t 18))] (cD 19 (sO [oC 8 0,oC 9 0,oC 10 1] .ret) .skip)) (sO [oM 20 1,oX 21 (.bin .str .eql (.t 20) (.c (.v (.string (mkS [97,110,100]))))),oM 22 21,oW 23 22 1,oF 24 22 (.bin .str .eql (.t 23) (.c (.v (.string (mkS [111,114]))))),oP 25 22 (kB true) (.t 24),oM 11 25] (.seq (sO [oM 26 11,oM 27 26,oU 28 27 2,oT 29 27 (y1 119 28),oT 30 27 (.not (.t 29)),oU 31 27 30,oW 32 31 3,oF 33 31 (y1 119 32),oF 34 31 (.not (.t 33)),oT 35 27 (.pick (.t 31) (kB true) (.t 34)),oP 36 27 (.t 35) (kB false),oM 37 36,oW 38 37 0,oW 39 37 2,oF 40 37 (y2 120 38 39),oF 41 37 (.not (.t 40)),oW 42 37 41,oU 43 42 11,oT 44 42 (.not (.t 43)),oF 45 37 (.pick (.t 42) (.t 44) (kB false)),oP 46 37 (kB true) (.t 45),oM 47 46,oW 48 47 0,oW 49 47 3,oF 50 47 (y2 120 48 49),oF 51 47 (.not (.t 50)),oW 52 47 51,oU 53 52 11,oT 54 52 (.not (.t 53)),oF 55 47 (.pick (.t 52) (.t 54) (kB false)),oP 56 47 (kB true) (.t 55)] (cD 56 (sO [oC 8 0,oC 9 0,oC 10 2] .ret) .skip)) (.seq (sO [oM 57 1,oX 58 (.bin .str .eql (.t 57) (.c (.v (.string (mkS [47]))))),oM 59 58,oW 60 59 1,oF 61 59 (.bin .str .eql (.t 60) (.c (.v (.string (mkS [37]))))),oP 62 59 (kB true) (.t 61),oM 63 62,oU 64 63 3,oT 65 63 (bI .eql (.t 64) (kI 0)),oP 66 63 (.t 65) (kB false)] (cD 66 (sO [oC 8 0,oC 9 1,oC 10 0] .ret) .skip)) (sO [oC 12 0] (.seq (sO [oM 67 1] (.block 0 (sO [oX 69 (.bin .str .eql (.t 67) (.c (.v (.string (mkS [43]))))),oM 68 69] (cD 68 (.ops [oM 70 0,oM 71 2,oM 72 3,oB 73 .add 71 72,oX 74 (y2 33 70 73),oM 12 74]) (sO [oX 76 (.bin .str .eql (.t 67) (.c (.v (.string (mkS [45]))))),oM 75 76] (cD 75 (.ops [oM 77 0,oM 78 2,oM 79 3,oB 80 .sub 78 79,oX 81 (y2 33 77 80),oM 12 81]) (sO [oX 83 (.bin .str .eql (.t 67) (.c (.v (.string (mkS [42]))))),oM 82 83] (cD 82 (.ops [oM 84 0,oM 85 2,oM 86 3,oB 87 .mul 85 86,oX 88 (y2 33 84 87),oM 12 88]) (sO [oX 90 (.bin .str .eql (.t 67) (.c (.v (.string (mkS [47]))))),oM 89 90] (cD 89 (.ops [oM 91 0,oM 92 2,oM 93 3,oB 94 .quo 92 93,oX 95 (y2 33 91 94),oM 12 95]) (sO [oX 97 (.bin .str .eql (.t 67) (.c (.v (.string (mkS [37]))))),oM 96 97] (cD 96 (.ops [oM 98 2,oM 99 3,oB 100 .rem 98 99,oM 12 100]) (sO [oX 102 (.bin .str .eql (.t 67) (.c (.v (.string (mkS [61,61]))))),oM 101 102] (cD 101 (.ops [oM 103 2,oM 104 3,oB 105 .eql 103 104,oX 106 (y1 121 105),oM 12 106]) (sO [oX 108 (.bin .str .eql (.t 67) (.c (.v (.string (mkS [33,61]))))),oM 107 108] (cD 107 (.ops [oM 109 2,oM 110 3,oB 111 .neq 109 110,oX 112 (y1 121 111),oM 12 112]) (sO [oX 114 (.bin .str .eql (.t 67) (.c (.v (.string (mkS [60]))))),oM 113 114] (cD 113 (.ops [oM 115 2,oM 116 3,oB 117 .lss 115 116,oX 118 (y1 121 117),oM 12 118]) (sO [oX 120 (.bin .str .eql (.t 67) (.c (.v (.string (mkS [60,61]))))),oM 119 120] (cD 119 (.ops [oM 121 2,oM 122 3,oB 123 .leq 121 122,oX 124 (y1 121 123),oM 12 124]) (sO [oX 126 (.bin .str .eql (.t 67) (.c (.v (.string (mkS [62]))))),oM 125 126] (cD 125 (.ops [oM 127 2,oM 128 3,oB 129 .gtr 127 128,oX 130 (y1 121 129),oM 12 130]) (sO [oX 132 (.bin .str .eql (.t 67) (.c (.v (.string (mkS [62,61]))))),oM 131 132] (cD 131 (.ops [oM 133 2,oM 134 3,oB 135 .geq 133 134,oX 136 (y1 121 135),oM 12 136]) (sO [oX 138 (.bin .str .eql (.t 67) (.c (.v (.string (mkS [97,110,100]))))),oM 137 138] (cD 137 (.ops [oM 139 2,oM 140 3,oX 141 (.min2 (.t 139) (.t 140)),oM 12 141]) (sO [oX 143 (.bin .str .eql (.t 67) (.c (.v (.string (mkS [111,114]))))),oM 142 143] (cD 142 (.ops [oM 144 2,oM 145 3,oX 146 (.max2 (.t 144) (.t 145)),oM 12 146]) .skip)))))))))))))))))))))))))))) (sO [oM 147 12,oM 8 147,oC 9 0,oC 10 0] .ret)))))))))⟩
theorem L62_ok : zY Tryz.prog Tryz.f62 [⟨3,0,.imm⟩] = some L62 := by kernel_rfl
def L75 : LFn := ⟨8,[(.tmp 4)],(sO [oC 4 0] (sO [oM 5 0,oM 6 1,oB 7 .add 5 6,oM 4 7] .ret))⟩
theorem L75_ok : zY Tryz.prog Tryz.f75 [] = some L75 := by kernel_rfl
def L76 : LFn := ⟨8,[(.tmp 4)],(sO [oC 4 0] (sO [oM 5 0,oM 6 1,oB 7 .sub 5 6,oM 4 7] .ret))⟩
theorem L76_ok : zY Tryz.prog Tryz.f76 [] = some L76 := by kernel_rfl
def L77 : LFn := ⟨8,[(.tmp 4)],(sO [oC 4 0] (sO [oM 5 0,oM 6 1,oB 7 .mul 5 6,oM 4 7] .ret))⟩
theorem L77_ok : zY Tryz.prog Tryz.f77 [] = some L77 := by kernel_rfl
def L78 : LFn := ⟨8,[(.tmp 4)],(sO [oC 4 0] (sO [oM 5 0,oM 6 1,oB 7 .quo 5 6,oM 4 7] .ret))⟩
theorem L78_ok : zY Tryz.prog Tryz.f78 [] = some L78 := by kernel_rfl
def L79 : LFn := ⟨8,[(.tmp 4)],(sO [oC 4 0] (sO [oM 5 0,oM 6 1,oB 7 .rem 5 6,oM 4 7] .ret))⟩
theorem L79_ok : zY Tryz.prog Tryz.f79 [] = some L79 := by kernel_rfl
def L80 : LFn := ⟨9,[(.tmp 4)],(sO [oC 4 0] (sO [oM 5 0,oM 6 1,oB 7 .eql 5 6,oX 8 (y1 81 7),oM 4 8] .ret))⟩
theorem L80_ok : zY Tryz.prog Tryz.f80 [] = some L80 := by kernel_rfl
def L81 : LFn := ⟨4,[(.tmp 2)],(sO [oC 2 0] (.seq (sO [oM 3 0] (cD 3 (sO [oC 2 1] .ret) .skip)) (sO [oC 2 0] .ret)))⟩
theorem L81_ok : zY Tryz.prog Tryz.f81 [] = some L81 := by kernel_rfl
def L82 : LFn := ⟨9,[(.tmp 4)],(sO [oC 4 0] (sO [oM 5 0,oM 6 1,oB 7 .neq 5 6,oX 8 (y1 81 7),oM 4 8] .ret))⟩
theorem L82_ok : zY Tryz.prog Tryz.f82 [] = some L82 := by kernel_rfl
def L83 : LFn := ⟨9,[(.tmp 4)],(sO [oC 4 0] (sO [oM 5 0,oM 6 1,oB 7 .lss 5 6,oX 8 (y1 81 7),oM 4 8] .ret))⟩
theorem L83_ok : zY Tryz.prog Tryz.f83 [] = some L83 := by kernel_rfl
def L84 : LFn := ⟨9,[(.tmp 4)],(sO [oC 4 0] (sO [oM 5 0,oM 6 1,oB 7 .leq 5 6,oX 8 (y1 81 7),oM 4 8] .ret))⟩
theorem L84_ok : zY Tryz.prog Tryz.f84 [] = some L84 := by kernel_rfl
def L85 : LFn := ⟨9,[(.tmp 4)],(sO [oC 4 0] (sO [oM 5 0,oM 6 1,oB 7 .gtr 5 6,oX 8 (y1 81 7),oM 4 8] .ret))⟩
theorem L85_ok : zY Tryz.prog Tryz.f85 [] = some L85 := by kernel_rfl
def L86 : LFn := ⟨9,[(.tmp 4)],(sO [oC 4 0] (sO [oM 5 0,oM 6 1,oB 7 .geq 5 6,oX 8 (y1 81 7),oM 4 8] .ret))⟩
theorem L86_ok : zY Tryz.prog Tryz.f86 [] = some L86 := by kernel_rfl
def L120 : LFn := ⟨15,[(.tmp 4)],(sO [oX 4 (.mv (kB false))] (sO [oM 5 1,oM 6 0,oX 7 (y1 15 6),oB 8 .geq 5 7,oM 9 8,oU 10 9 1,oU 11 9 0,oT 12 9 (y1 16 11),oT 13 9 (bI .leq (.t 10) (.t 12)),oP 14 9 (.t 13) (kB false),oM 4 14] .ret))⟩
theorem L120_ok : zY Tryz.prog Tryz.f120 [] = some L120 := by kernel_rfl
def L121 : LFn := ⟨4,[(.tmp 2)],(sO [oC 2 0] (.seq (sO [oM 3 0] (cD 3 (sO [oC 2 1] .ret) .skip)) (sO [oC 2 0] .ret)))⟩
theorem L121_ok : zY Tryz.prog Tryz.f121 [] = some L121 := by kernel_rfl
end Go.Proofs.YtaipgalanpcgoaaGreat
namespace Go.Proofs
open Go.Shelf
set_option maxHeartbeats 4000000
def Tryz.lays144_ren : Go.Shelf.Ren := ⟨fun | 144 => 47 | 143 => 89 | 219 => 134 | 217 => 181 | 225 => 182 | 224 => 183 | 267 => 184 | 266 => 227 | 314 => 228 | n => n,fun | 9 => 9 | 4 => 4 | 3 => 3 | 5 => 5 | 46 => 249 | 146 => 285 | 51 => 284 | n => n,fun | 1 => 0 | n => n⟩
theorem Tryz.lays144 : Go.Proofs.Lays.n144 Tryz.prog Tryz.lays144_ren := {
 mixed := by kernel_rfl
 f143 := Tryz.func89.trans (congrArg some (by kernel_rfl))
 f144 := Tryz.func47.trans (congrArg some (by kernel_rfl))
 f217 := Tryz.func181.trans (congrArg some (by kernel_rfl))
 f219 := Tryz.func134.trans (congrArg some (by kernel_rfl))
 f224 := Tryz.func183.trans (congrArg some (by kernel_rfl))
 f225 := Tryz.func182.trans (congrArg some (by kernel_rfl))
 f266 := Tryz.func227.trans (congrArg some (by kernel_rfl))
 f267 := Tryz.func184.trans (congrArg some (by kernel_rfl))
 f314 := Tryz.func228.trans (congrArg some (by kernel_rfl))
 t3 := Tryz.underlying3
 a3 := Tryz.isAgg3
 z3 := Tryz.sizeOf3
 v3 := Tryz.zeroValue3
 t4 := Tryz.underlying4
 a4 := Tryz.isAgg4
 z4 := Tryz.sizeOf4
 v4 := Tryz.zeroValue4
 t5 := Tryz.underlying5
 a5 := Tryz.isAgg5
 z5 := Tryz.sizeOf5
 v5 := Tryz.zeroValue5
 t9 := Tryz.underlying9
 a9 := Tryz.isAgg9
 z9 := Tryz.sizeOf9
 v9 := Tryz.zeroValue9
 t46 := Tryz.underlying249
 a46 := Tryz.isAgg249
 z46 := Tryz.sizeOf249
 v46 := Tryz.zeroValue249
 t51 := Tryz.underlying284
 a51 := Tryz.isAgg284
 z51 := Tryz.sizeOf284
 v51 := Tryz.zeroValue284
 t146 := Tryz.underlying285
 a146 := Tryz.isAgg285
 z146 := Tryz.sizeOf285
 v146 := Tryz.zeroValue285
 g1 := by kernel_rfl }
open Go.RowKit Go.Lib in
theorem Tryz.strings_Contains (s sub : ByteArray) (m : Int) (w : World) (hs : s.size < 4294967281) (hm : w.cell? ⟨0,0,none⟩ = some (.int .i64 m)) :
  Calls Tryz.prog 47 #[.string s,.string sub] w fun e w' => e = .returned (.bool (Lib.contains s.data.toList sub.data.toList)) ∧ w' = w := Any.strings_Contains Tryz.lays144 s sub m w hs hm
end Go.Proofs
namespace Go.Proofs.YtaipgalanpcgoaaGreat
open Go Go.Ax Go.RowKit
set_option maxRecDepth 100000
set_option linter.unusedSimpArgs false
set_option linter.unusedVariables false
set_option maxHeartbeats 4000000
theorem repL_two {w : World} {M : Nat → Prop} {ρ : Nat → Ax.Loc} {n : Nat} {x y : AV} {vs : Array Value} (h : RepL w M ρ n [x, y] vs) : ∃ a b, vs = #[a, b] ∧ Rep w M ρ n x a ∧ Rep w M ρ n y b := by
 obtain ⟨h1, h2⟩ := h
 match vs, h1 with
 | ⟨[a, b]⟩, _ => exact ⟨a, b, rfl, h2 0 x a rfl rfl, h2 1 y b rfl rfl⟩
theorem size_mkS (l : List UInt8) : (mkS l).size = l.length := rfl
theorem containsC (s p : List UInt8) (hs : s.length < 4294967281) (H : zB) : ACall Tryz.prog 47 [str s, str p] H fun x H' => x = bool (Lib.contains s p) ∧ H' = H := by
 refine ⟨⟨_, Tryz.func47, by kernel_rfl, by kernel_rfl⟩, fun X ρ w vs hrel hargs => ?_⟩
 obtain ⟨a, b, rfl, ha, hb⟩ := repL_two hargs
 have ha := rep_vx ha
 have hb := rep_vx hb
 subst ha
 subst hb
 obtain ⟨-, m, hm⟩ := hrel.gl 0 (by simp [glbs])
 refine (Tryz.strings_Contains (mkS s) (mkS p) m w (by rw [size_mkS]; exact hs) hm).mono ?_
 rintro e w' ⟨rfl, rfl⟩
 exact ⟨_, _, H, ρ, rfl, ⟨rfl, rfl⟩, hrel, .v _ _, Fut.refl _ _ _⟩
end Go.Proofs.YtaipgalanpcgoaaGreat
namespace Go.Proofs.YtaipgalanpcgoaaGreat
open Go Go.Ax
set_option maxRecDepth 100000
set_option maxHeartbeats 4000000
def L28 : LFn := ⟨9,[(.tmp 4)],(sO [oX 4 (.mv (kB false))] (sO [oM 5 0,oM 6 1,oX 7 (y2 58 5 6),oV 8 .geq 7 0,oM 4 8] .ret))⟩
theorem L28_ok : zY Tryz.prog Tryz.f28 [] = some L28 := by kernel_rfl
def L31 : LFn := ⟨8,[(.tmp 2)],(sO [oX 2 (.mv (.c zAf))] (.seq (sO [oM 3 0,oX 4 (.isnil false (.t 3))] (cD 4 (sO [oX 2 (.mv (.c zAf))] .ret) .skip)) (sO [oX 5 (.bsl false 1 0 [i0] []),oM 6 0,oX 7 (.append 1 8 (.t 5) (.t 6)),oM 2 7] .ret)))⟩
theorem L31_ok : zY Tryz.prog Tryz.f31 [] = some L31 := by kernel_rfl
def L58 : LFn := ⟨19,[(.tmp 4)],(sO [oC 4 0] (.seq (sO [oM 6 0,oX 7 (.len .slc (.t 6)),oC 8 0] (.block 0 (.loop (sO [oB 9 .lss 8 7] (.seq (cD 9 .skip (.exit 0)) (.seq (.block 1 (sO [oM 10 8,oM 5 10] (sO [oM 11 1,oM 12 0,oM 13 5,oI 14 1 12 13,oL 15 14,oX 16 (.call (.t 11) [(.t 15)])] (cD 16 (sO [oM 17 5,oM 4 17] .ret) .skip)))) (.ops [oV 18 .add 8 1,oM 8 18]))))))) (sO [oC 4 (-1)] .ret)))⟩
theorem L58_ok : zY Tryz.prog Tryz.f58 [] = some L58 := by kernel_rfl
def L129 : LFn := ⟨9,[(.tmp 4)],(sO [oX 4 (.mv (kB false))] (sO [oM 5 0,oM 6 1,oX 7 (y2 176 5 6),oV 8 .geq 7 0,oM 4 8] .ret))⟩
theorem L129_ok : zY Tryz.prog Tryz.f129 [] = some L129 := by kernel_rfl
def L176 : LFn := ⟨19,[(.tmp 4)],(sO [oC 4 0] (.seq (sO [oM 6 0,oX 7 (.len .slc (.t 6)),oC 8 0] (.block 0 (.loop (sO [oB 9 .lss 8 7] (.seq (cD 9 .skip (.exit 0)) (.seq (.block 1 (sO [oM 10 8,oM 5 10] (sO [oM 11 1,oM 12 0,oM 13 5,oI 14 6 12 13,oA 15 6 14,oX 16 (.call (.t 11) [(.t 15)])] (cD 16 (sO [oM 17 5,oM 4 17] .ret) .skip)))) (.ops [oV 18 .add 8 1,oM 8 18]))))))) (sO [oC 4 (-1)] .ret)))⟩
theorem L176_ok : zY Tryz.prog Tryz.f176 [] = some L176 := by kernel_rfl
end Go.Proofs.YtaipgalanpcgoaaGreat
namespace Go.Ax
open Go Go.RowKit
section
variable {P : Program} {k : List Item} {Q : Out → Env → zB → Prop} {e : Env} {H : zB} {d : Option Nat} {l : List LO}
def goK (P : Program) (r : Res) (e : Env) (d : Option Nat) (l : List LO) (k : List Item) (Q : Out → Env → zB → Prop) : Prop :=
 r.ok ∧ zU P (.ops l :: k) Q .normal (ups e d r.x) r.H
def opK (P : Program) (op : LOp) (e : Env) (H : zB) (d : Option Nat) (l : List LO) (k : List Item) (Q : Out → Env → zB → Prop) : Prop :=
 aop P op e H fun x H' => zU P (.ops l :: k) Q .normal (ups e d x) H'
def callK (P : Program) (f : AV) (args : List AV) (H : zB) (e : Env) (d : Option Nat) (l : List LO) (k : List Item) (Q : Out → Env → zB → Prop) : Prop :=
 acall P f args H fun x H' => zU P (.ops l :: k) Q .normal (ups e d x) H'
def callF (P : Program) (f : FuncId) (args : List AV) (H : zB) (e : Env) (d : Option Nat) (l : List LO) (k : List Item) (Q : Out → Env → zB → Prop) : Prop :=
 ACall P f args H fun x H' => zU P (.ops l :: k) Q .normal (ups e d x) H'
def nilK (P : Program) (neg : Bool) (x : AV) (e : Env) (H : zB) (d : Option Nat) (l : List LO) (k : List Item) (Q : Out → Env → zB → Prop) : Prop :=
 slcK H x ∧ ∀ b, nilOk x b → zU P (.ops l :: k) Q .normal (ups e d (bool (b ^^ neg))) H
def gK (P : Program) (x : AV) (want : Bool) (op : LOp) (e : Env) (t : Nat) (H : zB) (d : Option Nat) (l : List LO) (k : List Item) (Q : Out → Env → zB → Prop) : Prop :=
 match x with
 | .v (.bool b) => if b = true then (if want = true then opK P op (up e t (bool true)) H d l k Q else zU P (.ops l :: k) Q .normal (ups (up e t (bool true)) d zAs) H)
   else (if want = true then zU P (.ops l :: k) Q .normal (ups (up e t (bool false)) d zAs) H else opK P op (up e t (bool false)) H d l k Q)
 | .v (.tuple _) => zU P (.ops l :: k) Q .normal (ups e d zAs) H
 | _ => False
def pickK (P : Program) (c a b : AV) (e : Env) (H : zB) (d : Option Nat) (l : List LO) (k : List Item) (Q : Out → Env → zB → Prop) : Prop :=
 match c with
 | .v (.bool t) => if t = true then zU P (.ops l :: k) Q .normal (ups e d a) H else zU P (.ops l :: k) Q .normal (ups e d b) H
 | _ => False
def cK (P : Program) (v : AV) (x : LX) (a b : LCode) (e : Env) (H : zB) (k : List Item) (Q : Out → Env → zB → Prop) : Prop :=
 match v with
 | .v (.bool t) => if t = true then zU P (.code a :: k) Q .normal (markX e x true) H else zU P (.code b :: k) Q .normal (markX e x false) H
 | _ => False
@[push_cast] theorem goK_mk (p : Prop) (x : AV) (H' : zB) : goK P ⟨p, x, H'⟩ e d l k Q = (p ∧ zU P (.ops l :: k) Q .normal (ups e d x) H') := rfl
@[push_cast] theorem also_mk (p q : Prop) (x : AV) (H' : zB) : Res.also p ⟨q, x, H'⟩ = ⟨p ∧ q, x, H'⟩ := rfl
@[push_cast] theorem rk_nil (o : Out) : zU P [] Q o e H = Q o e H := rfl
@[push_cast] theorem rk_skip : zU P (.code .skip :: k) Q .normal e H = zU P k Q .normal e H := rfl
@[push_cast] theorem rk_seq (a b : LCode) : zU P (.code (.seq a b) :: k) Q .normal e H = zU P (.code a :: .code b :: k) Q .normal e H := by
 show awp P a e H _ = awp P a e H _
 congr 1
 funext o e' H'
 cases o <;> rfl
@[push_cast] theorem rk_block (id : Nat) (c : LCode) : zU P (.code (.block id c) :: k) Q .normal e H = zU P (.code c :: .blk id :: k) Q .normal e H := by
 show awp P c e H _ = awp P c e H _
 rfl
@[push_cast] theorem rk_code_pan (c : LCode) (v : Value) : zU P (.code c :: k) Q (.pan v) e H = zU P k Q (.pan v) e H := rfl
@[push_cast] theorem rk_blk_pan (id : Nat) (v : Value) : zU P (.blk id :: k) Q (.pan v) e H = zU P k Q (.pan v) e H := rfl
@[push_cast] theorem rk_lp_pan (R : Env → zB → Prop) (v : Value) : zU P (.lp R :: k) Q (.pan v) e H = zU P k Q (.pan v) e H := rfl
@[push_cast] theorem rk_ops_pan (l : List LO) (v : Value) : zU P (.ops l :: k) Q (.pan v) e H = zU P k Q (.pan v) e H := rfl
@[push_cast] theorem rk_exit (id : Nat) : zU P (.code (.exit id) :: k) Q .normal e H = zU P k Q (.exit id) e H := rfl
@[push_cast] theorem rk_ret : zU P (.code .ret :: k) Q .normal e H = zU P k Q .ret e H := rfl
@[push_cast] theorem rk_code_exit (c : LCode) (id : Nat) : zU P (.code c :: k) Q (.exit id) e H = zU P k Q (.exit id) e H := rfl
@[push_cast] theorem rk_code_ret (c : LCode) : zU P (.code c :: k) Q .ret e H = zU P k Q .ret e H := rfl
@[push_cast] theorem rk_blk : ∀ (id : Nat), zU P (.blk id :: k) Q .normal e H = zU P k Q .normal e H := fun _ => rfl
@[push_cast] theorem rk_blk_exit (id j : Nat) : zU P (.blk id :: k) Q (.exit j) e H = if j = id then zU P k Q .normal e H else zU P k Q (.exit j) e H := rfl
@[push_cast] theorem rk_blk_ret (id : Nat) : zU P (.blk id :: k) Q .ret e H = zU P k Q .ret e H := rfl
@[push_cast] theorem rk_lp (R : Env → zB → Prop) : zU P (.lp R :: k) Q .normal e H = R e H := rfl
@[push_cast] theorem rk_lp_exit (R : Env → zB → Prop) (j : Nat) : zU P (.lp R :: k) Q (.exit j) e H = zU P k Q (.exit j) e H := rfl
@[push_cast] theorem rk_lp_ret (R : Env → zB → Prop) : zU P (.lp R :: k) Q .ret e H = zU P k Q .ret e H := rfl
@[push_cast] theorem rk_ops (l : List LO) : zU P (.code (.ops l) :: k) Q .normal e H = zU P (.ops l :: k) Q .normal e H := rfl
@[push_cast] theorem rk_opsnil : zU P (.ops [] :: k) Q .normal e H = zU P k Q .normal e H := rfl
@[push_cast] theorem rk_op (op : LOp) : zU P (.ops (⟨d, none, op⟩ :: l) :: k) Q .normal e H = opK P op e H d l k Q := rfl
@[push_cast] theorem rk_opg (t : Nat) (want : Bool) (op : LOp) : zU P (.ops (⟨d, some (t, want), op⟩ :: l) :: k) Q .normal e H = gK P (e t) want op e t H d l k Q := by
 simp only [zU, zAY, gK, opK]
 try (cases e t with
 | v x => cases x <;> rfl
 | _ => rfl)
@[push_cast] theorem rk_cond (x : LX) (a b : LCode) : zU P (.code (.cond x a b) :: k) Q .normal e H = cK P (ev e x) x a b e H k Q := by
 simp only [zU, awp, cK]
 cases ev e x with
 | v x => cases x <;> rfl
 | _ => rfl
@[push_cast] theorem cK_bool (t : Bool) (x : LX) (a b : LCode) : cK P (.v (.bool t)) x a b e H k Q = if t = true then zU P (.code a :: k) Q .normal (markX e x true) H else zU P (.code b :: k) Q .normal (markX e x false) H := rfl
@[push_cast] theorem gK_t (b : Bool) (op : LOp) (t : Nat) : gK P (.v (.bool b)) true op e t H d l k Q = if b = true then opK P op (up e t (bool true)) H d l k Q else zU P (.ops l :: k) Q .normal (ups (up e t (bool false)) d zAs) H := by simp [gK]
@[push_cast] theorem gK_f (b : Bool) (op : LOp) (t : Nat) : gK P (.v (.bool b)) false op e t H d l k Q = if b = true then zU P (.ops l :: k) Q .normal (ups (up e t (bool true)) d zAs) H else opK P op (up e t (bool false)) H d l k Q := by simp [gK]
@[push_cast] theorem gK_u (us : Array Value) (want : Bool) (op : LOp) (t : Nat) : gK P (.v (.tuple us)) want op e t H d l k Q = zU P (.ops l :: k) Q .normal (ups e d zAs) H := rfl
@[push_cast] theorem opK_mv (x : LX) : opK P (.mv x) e H d l k Q = zU P (.ops l :: k) Q .normal (ups e d (ev e x)) H := by simp [opK, aop, zBc]
@[push_cast] theorem opK_pick (c a b : LX) : opK P (.pick c a b) e H d l k Q = pickK P (ev e c) (ev e a) (ev e b) e H d l k Q := by
 simp only [opK, aop, pickK]
 cases ev e c with
 | v x => cases x <;> rfl
 | _ => rfl
@[push_cast] theorem pickK_b (t : Bool) (a b : AV) : pickK P (.v (.bool t)) a b e H d l k Q = if t = true then zU P (.ops l :: k) Q .normal (ups e d a) H else zU P (.ops l :: k) Q .normal (ups e d b) H := rfl
@[push_cast] theorem opK_allocb (t : TypeId) (zs : List AV) : opK P (.allocb t zs) e H d l k Q = goK P ⟨isNilP (zs.headD .any) = true ∧ c1s zs = true, .ptr H.length 0 0, H ++ [.box (.bnil t :: zs.drop 1)]⟩ e d l k Q := rfl
@[push_cast] theorem opK_alloc (zs : List AV) : opK P (.alloc zs) e H d l k Q = goK P ⟨c1s zs = true, .ptr H.length 0 0, H ++ [.box zs]⟩ e d l k Q := rfl
@[push_cast] theorem opK_box (imm : Bool) (x : LX) : opK P (.box imm x) e H d l k Q = goK P (rBox imm (ev e x) H) e d l k Q := rfl
@[push_cast] theorem opK_build (zs : List AV) (ps : List (Nat × Nat × LX)) : opK P (.build zs ps) e H d l k Q = goK P (rBuild zs (ps.map fun (o, n, x) => (o, n, ev e x)) H) e d l k Q := rfl
@[push_cast] theorem opK_bsl (imm : Bool) (sz len : Nat) (zs : List AV) (ps : List (Nat × LX)) : opK P (.bsl imm sz len zs ps) e H d l k Q = goK P (rBsl imm sz len zs (ps.map fun (i, x) => (i, ev e x)) H) e d l k Q := rfl
@[push_cast] theorem opK_mkmap : opK P .mkmap e H d l k Q = goK P ⟨True, .om H.length 0, H ++ [.map 0 [] []]⟩ e d l k Q := rfl
@[push_cast] theorem keyV_v (x : Value) : keyV (.v x) = .v x := rfl
@[push_cast] theorem keyV_two (a b : Value) : keyV (.agg [.v a, .v b]) = .v (.agg #[a, b]) := rfl
@[push_cast] theorem opK_ins (kd : KD) (m x y : LX) : opK P (.ins kd m x y) e H d l k Q = goK P (rIns kd (ev e m) (keyV (ev e x)) (ev e y) H) e d l k Q := rfl
@[push_cast] theorem opK_load (ag : Bool) (n : Nat) (p : LX) : opK P (.load ag n p) e H d l k Q = goK P (rLoad ag n (ev e p) H) e d l k Q := rfl
@[push_cast] theorem opK_loadb (ag : Bool) (n : Nat) (p : LX) : opK P (.loadb ag n p) e H d l k Q = goK P (zCb ag n (ev e p) H) e d l k Q := rfl
@[push_cast] theorem opK_store (n : Nat) (p x : LX) : opK P (.store n p x) e H d l k Q = goK P (rStore n (ev e p) (ev e x) H) e d l k Q := rfl
@[push_cast] theorem opK_nilchk (x : LX) : opK P (.nilchk x) e H d l k Q = goK P (rNil (ev e x) H) e d l k Q := rfl
@[push_cast] theorem opK_bin (kd : KD) (op : BinOp) (x y : LX) : opK P (.bin kd op x y) e H d l k Q = goK P (rBin kd op (ev e x) (ev e y) H) e d l k Q := rfl
@[push_cast] theorem opK_not (x : LX) : opK P (.not x) e H d l k Q = goK P (rNot (ev e x) H) e d l k Q := rfl
@[push_cast] theorem opK_neg (x : LX) : opK P (.neg x) e H d l k Q = goK P (rNeg (ev e x) H) e d l k Q := rfl
@[push_cast] theorem opK_conv (c : Cv) (x : LX) : opK P (.conv c x) e H d l k Q = goK P (rConv c (ev e x) H) e d l k Q := rfl
@[push_cast] theorem opK_mkfn (f : Fn) (a b : List LX) : opK P (.mkfn f a b) e H d l k Q = goK P ⟨True, .fn f (a.map (ev e)) (b.map (ev e)), H⟩ e d l k Q := rfl
@[push_cast] theorem opK_msl (sz bytes : Nat) (zs : List AV) (len cap : LX) : opK P (.msl sz bytes zs len cap) e H d l k Q = goK P (rMsl sz bytes zs (ev e len) (ev e cap) H) e d l k Q := rfl
@[push_cast] theorem opK_slice (lk : LK) (n : Nat) (x : LX) (lo hi : Option LX) : opK P (.slice lk n x lo hi) e H d l k Q = goK P (rSlice lk n (ev e x) (lo.map (ev e)) (hi.map (ev e)) H) e d l k Q := rfl
@[push_cast] theorem opK_slicev (lk : LK) (n : Nat) (x : LX) (lo hi : Option LX) : opK P (.slicev lk n x lo hi) e H d l k Q = goK P (zCW lk n (ev e x) (lo.map (ev e)) (hi.map (ev e)) H) e d l k Q := rfl
@[push_cast] theorem opK_faddr (off : Nat) (p : LX) : opK P (.faddr off p) e H d l k Q = goK P (rFaddr off (ev e p) H) e d l k Q := rfl
@[push_cast] theorem opK_fld (ag : Bool) (off n : Nat) (x : LX) : opK P (.fld ag off n x) e H d l k Q = goK P (rFld ag off n (ev e x) H) e d l k Q := rfl
@[push_cast] theorem opK_iaddr (sz : Nat) (x i : LX) : opK P (.iaddr sz x i) e H d l k Q = goK P (rIaddr sz (ev e x) (ev e i) H) e d l k Q := rfl
@[push_cast] theorem opK_iaddrv (sz : Nat) (x i : LX) : opK P (.iaddrv sz x i) e H d l k Q = goK P (zCX sz (ev e x) (ev e i) H) e d l k Q := rfl
@[push_cast] theorem opK_faddrb (off : Nat) (p : LX) : opK P (.faddrb off p) e H d l k Q = goK P (zBv off (ev e p) H) e d l k Q := rfl
@[push_cast] theorem opK_idx (x i : LX) : opK P (.idx x i) e H d l k Q = goK P (rIdx (ev e x) (ev e i) H) e d l k Q := rfl
@[push_cast] theorem opK_look (kd : KD) (zero : AV) (ok : Bool) (m x : LX) : opK P (.look kd zero ok m x) e H d l k Q = goK P (rLook kd zero ok (ev e m) (keyV (ev e x)) H) e d l k Q := rfl
@[push_cast] theorem opK_ext (x : LX) (i : Nat) : opK P (.ext x i) e H d l k Q = goK P (rExt (ev e x) i H) e d l k Q := rfl
@[push_cast] theorem opK_len (lk : LK) (x : LX) : opK P (.len lk x) e H d l k Q = goK P (rLen lk (ev e x) H) e d l k Q := rfl
@[push_cast] theorem opK_append (sz bytes : Nat) (s x : LX) : opK P (.append sz bytes s x) e H d l k Q = goK P (rAppend sz bytes (ev e s) (ev e x) H) e d l k Q := rfl
@[push_cast] theorem opK_appendb (t : TypeId) (s x : LX) : opK P (.appendb t s x) e H d l k Q = goK P (rAppendB t (ev e s) (ev e x) H) e d l k Q := rfl
@[push_cast] theorem opK_copy (sz : Nat) (s x : LX) : opK P (.copy sz s x) e H d l k Q = goK P (rCopy sz (ev e s) (ev e x) H) e d l k Q := rfl
@[push_cast] theorem opK_min (x y : LX) : opK P (.min2 x y) e H d l k Q = goK P (rMin (ev e x) (ev e y) H) e d l k Q := rfl
@[push_cast] theorem opK_nili (neg : Bool) (x : LX) : opK P (.nili neg x) e H d l k Q = goK P (rNilI neg (ev e x) H) e d l k Q := rfl
@[push_cast] theorem opK_asrt (t : TypeId) (z : AV) (x : LX) : opK P (.asrt t z x) e H d l k Q = goK P (rAsrt t z (ev e x) H) e d l k Q := rfl
@[push_cast] theorem opK_rangem (x : LX) : opK P (.rangem x) e H d l k Q = goK P (rRangeM (ev e x) H) e d l k Q := rfl
@[push_cast] theorem opK_entrym (x : LX) : opK P (.entrym x) e H d l k Q = goK P (rEntryM (ev e x) H) e d l k Q := rfl
def nextK (P : Program) (x : AV) (e : Env) (H : zB) (d : Option Nat) (l : List LO) (k : List Item) (Q : Out → Env → zB → Prop) : Prop :=
 nextA x H fun x H' => zU P (.ops l :: k) Q .normal (ups e d x) H'
@[push_cast] theorem opK_nextm (x : LX) : opK P (.nextm x) e H d l k Q = nextK P (ev e x) e H d l k Q := rfl
theorem nextK_of {r : Nat} {ks : List Value} {vs : List AV} {left : List Nat} {cur : Option Nat} (hr : H[r]? = some (.mit ks vs left cur)) (h0 : left = [] → zU P (.ops l :: k) Q .normal (ups e d (.tup [bool false])) H)
  (h1 : ∀ i ∈ left, zU P (.ops l :: k) Q .normal (ups e d (.tup [bool true, .v (ks.getD i default), vs.getD i .any])) (H.set r (.mit ks vs (left.filter fun j => !decide (j = i)) (some i)))) : nextK P (.ptr r 0 0) e H d l k Q := by
 simp only [nextK, nextA, nextO, hr]
 exact ⟨h0, h1⟩
@[push_cast] theorem opK_mkif (t : TypeId) (x : LX) : opK P (.mkif t x) e H d l k Q = goK P (rMkif t (ev e x) H) e d l k Q := rfl
@[push_cast] theorem opK_max3 (x y z : LX) : opK P (.max3 x y z) e H d l k Q = goK P (rMax3 (ev e x) (ev e y) (ev e z) H) e d l k Q := rfl
@[push_cast] theorem opK_max (x y : LX) : opK P (.max2 x y) e H d l k Q = goK P (rMax (ev e x) (ev e y) H) e d l k Q := rfl
@[push_cast] theorem opK_frz (x : LX) : opK P (.frz x) e H d l k Q = goK P (rFrz (ev e x) H) e d l k Q := rfl
@[push_cast] theorem opK_frzf (sz off : Nat) (x : LX) : opK P (.frzf sz off x) e H d l k Q = goK P (rFrzf sz off (ev e x) H) e d l k Q := rfl
@[push_cast] theorem opK_own (sz : Nat) (x : LX) : opK P (.own sz x) e H d l k Q = goK P (rOwn sz (ev e x) H) e d l k Q := rfl
@[push_cast] theorem opK_bad : opK P .bad e H d l k Q = goK P (.no H) e d l k Q := rfl
@[push_cast] theorem opK_isnil (neg : Bool) (x : LX) : opK P (.isnil neg x) e H d l k Q = nilK P neg (ev e x) e H d l k Q := rfl
@[push_cast] theorem opK_callh (f : LX) (args : List LX) : opK P (.callh f args) e H d l k Q = callK P (ev e f) (args.map (ev e)) H e d l k Q := rfl
@[push_cast] theorem opK_call (f : LX) (args : List LX) : opK P (.call f args) e H d l k Q = callK P (ev e f) (args.map (ev e)) H e d l k Q := rfl
@[push_cast] theorem callK_fn (f : FuncId) (a b args : List AV) : callK P (.fn (.func f) a b) args H e d l k Q = callF P f (a ++ args ++ b) H e d l k Q := rfl
def callY (P : Program) (f : Nat) (args : List AV) (H : zB) (e : Env) (d : Option Nat) (l : List LO) (k : List Item) (Q : Out → Env → zB → Prop) : Prop :=
 AYield P f args H fun x H' => zU P (.ops l :: k) Q .normal (ups e d x) H'
@[push_cast] theorem callK_yield (f : Nat) (args : List AV) : callK P (.v (.func (.yield f) #[] #[])) args H e d l k Q = callY P f args H e d l k Q := rfl
@[push_cast] theorem rk_bgn (l0 : Nat) (lr : Go.Loop) (e0 : Env) (r : Nat) : zU P (.bgn l0 lr e0 r :: k) Q .normal e H = (H[r]? = some (.lp l0 lr e0 .ready) ∧ zU P k Q .normal e (H.set r (.lp l0 lr e0 .busy))) := rfl
@[push_cast] theorem rndQ_normal (l0 : Nat) (lr : Go.Loop) (e0 : Env) (r : Nat) (R : AV → zB → Prop) : rndQ l0 lr e0 r R .normal e H = (H[r]? = some (.lp l0 lr e0 .busy) ∧ R (bool true) (H.set r (.lp l0 lr e0 .ready))) := rfl
@[push_cast] theorem rndQ_exit (l0 : Nat) (lr : Go.Loop) (e0 : Env) (r id : Nat) (R : AV → zB → Prop) : rndQ l0 lr e0 r R (.exit id) e H = (H[r]? = some (.lp l0 lr e0 .busy) ∧ R (bool false) (H.set r (.lp l0 lr e0 (.done (some id))))) := rfl
@[push_cast] theorem rndQ_ret (l0 : Nat) (lr : Go.Loop) (e0 : Env) (r : Nat) (R : AV → zB → Prop) : rndQ l0 lr e0 r R .ret e H = (H[r]? = some (.lp l0 lr e0 .busy) ∧ R (bool false) (H.set r (.lp l0 lr e0 (.done none)))) := rfl
@[push_cast] theorem upL_cons (p : Nat) (ps : List Nat) (x : AV) (xs : List AV) : upL e (p :: ps) (x :: xs) = upL (up e p x) ps xs := rfl
@[push_cast] theorem upL_nil (xs : List AV) : upL e [] xs = e := by cases xs <;> rfl
def callXK (P : Program) (f : AV) (args : List AV) (H : zB) (e : Env) (d : Option Nat) (k : List Item) (Q : Out → Env → zB → Prop) : Prop :=
 acallx P f args H (fun y H' => zU P k Q .normal (ups e d y) H') fun v H' => zU P k Q (.pan v) e H'
def callXF (P : Program) (f : FuncId) (args : List AV) (H : zB) (e : Env) (d : Option Nat) (k : List Item) (Q : Out → Env → zB → Prop) : Prop :=
 ACallX P f args H (fun y H' => zU P k Q .normal (ups e d y) H') fun v H' => zU P k Q (.pan v) e H'
@[push_cast] theorem rk_callp (f : LX) (args : List LX) : zU P (.code (.callp d f args) :: k) Q .normal e H = callXK P (ev e f) (args.map (ev e)) H e d k Q := rfl
@[push_cast] theorem callXK_fn (f : FuncId) (a b args : List AV) : callXK P (.fn (.func f) a b) args H e d k Q = callXF P f (a ++ args ++ b) H e d k Q := rfl
theorem zG {f : FuncId} {args : List AV} {R : AV → zB → Prop} {Z : Value → zB → Prop} (h : ACallX P f args H R Z) (hk : ∀ y H', R y H' → zU P k Q .normal (ups e d y) H') (hz : ∀ v H', Z v H' → zU P k Q (.pan v) e H') : callXF P f args H e d k Q := h.mono hk hz
theorem zD {f : FuncId} {args : List AV} {x : AV} (h : ACall P f args H fun y H' => y = x ∧ H' = H) (hk : zU P k Q .normal (ups e d x) H) : callXF P f args H e d k Q :=
 (h.mono (R' := fun y H' => zU P k Q .normal (ups e d y) H') fun y H' ⟨h1, h2⟩ => by subst h1; subst h2; exact hk).x _
def panK (P : Program) (d : Nat) (t : TypeId) (x : Option Value) (e : Env) (H : zB) (k : List Item) (Q : Out → Env → zB → Prop) : Prop := ∃ v, x = some v ∧ zU P k Q (.pan (.iface t v)) (up e d (.v (.iface t v))) H
@[push_cast] theorem rk_pan (d0 : Nat) (t : TypeId) (x : LX) : zU P (.code (.pan d0 t x) :: k) Q .normal e H = panK P d0 t (valA (ev e x)) e H k Q := rfl
@[push_cast] theorem panK_some (d0 : Nat) (t : TypeId) (v : Value) : panK P d0 t (some v) e H k Q = zU P k Q (.pan (.iface t v)) (up e d0 (.v (.iface t v))) H := by simp [panK]
def tiK (P : Program) (c : Bool) (o : LO) (e : Env) (H : zB) (em : Env) (k : List Item) (Q : Out → Env → zB → Prop) : Prop :=
 aTI P c o e H (fun e' H' => zU P k Q .normal e' H') fun v H' => zU P k Q (.pan v) em H'
def tiG (P : Program) (x : AV) (want : Bool) (f : LX) (args : List LX) (e : Env) (H : zB) (d : Option Nat) (em : Env) (k : List Item) (Q : Out → Env → zB → Prop) : Prop :=
 match x with
 | .v (.bool b) => if b = want then acallx P (ev e f) (args.map (ev e)) H (fun y H' => zU P k Q .normal (ups e d y) H') (fun v H' => zU P k Q (.pan v) em H') else zU P k Q .normal (ups e d zAs) H
 | .v (.tuple _) => zU P k Q .normal (ups e d zAs) H
 | _ => False
def callXM (P : Program) (f : AV) (args : List AV) (H : zB) (e : Env) (d : Option Nat) (em : Env) (k : List Item) (Q : Out → Env → zB → Prop) : Prop :=
 acallx P f args H (fun y H' => zU P k Q .normal (ups e d y) H') fun v H' => zU P k Q (.pan v) em H'
def callXMF (P : Program) (f : FuncId) (args : List AV) (H : zB) (e : Env) (d : Option Nat) (em : Env) (k : List Item) (Q : Out → Env → zB → Prop) : Prop :=
 ACallX P f args H (fun y H' => zU P k Q .normal (ups e d y) H') fun v H' => zU P k Q (.pan v) em H'
@[push_cast] theorem callXM_fn (f : FuncId) (em : Env) (a b args : List AV) : callXM P (.fn (.func f) a b) args H e d em k Q = callXMF P f (a ++ args ++ b) H e d em k Q := rfl
theorem zAQ {f : FuncId} {em : Env} {args : List AV} {R : AV → zB → Prop} {Z : Value → zB → Prop} (h : ACallX P f args H R Z) (hk : ∀ y H', R y H' → zU P k Q .normal (ups e d y) H') (hz : ∀ v H', Z v H' → zU P k Q (.pan v) em H') : callXMF P f args H e d em k Q := h.mono hk hz
theorem zBi {f : FuncId} {em : Env} {args : List AV} {x : AV} (h : ACall P f args H fun y H' => y = x ∧ H' = H) (hk : zU P k Q .normal (ups e d x) H) : callXMF P f args H e d em k Q :=
 (h.mono (R' := fun y H' => zU P k Q .normal (ups e d y) H') fun y H' ⟨h1, h2⟩ => by subst h1; subst h2; exact hk).x _
@[push_cast] theorem rk_ti (o : LO) : zU P (.code (.ti o) :: k) Q .normal e H = tiK P true o e H e k Q := rfl
@[push_cast] theorem tiK_call (f : LX) (args : List LX) (em : Env) : tiK P true ⟨d, none, .call f args⟩ e H em k Q = callXM P (ev e f) (args.map (ev e)) H e d em k Q := rfl
@[push_cast] theorem tiK_callg (t : Nat) (want : Bool) (f : LX) (args : List LX) (em : Env) : tiK P true ⟨d, some (t, want), .call f args⟩ e H em k Q = tiG P (e t) want f args e H d em k Q := rfl
def panX (P : Program) (x : AV) (em : Env) (H : zB) (k : List Item) (Q : Out → Env → zB → Prop) : Prop := ∃ t z, x = .v (.iface t z) ∧ zU P k Q (.pan (.iface t z)) em H
@[push_cast] theorem tiK_pan (x : LX) (em : Env) : tiK P true ⟨d, none, .panicv x⟩ e H em k Q = panX P (ev e x) em H k Q := rfl
@[push_cast] theorem panX_v (t : TypeId) (z : Value) (em : Env) : panX P (.v (.iface t z)) em H k Q = zU P k Q (.pan (.iface t z)) em H := propext ⟨by rintro ⟨_, _, h, h2⟩; cases h; exact h2, fun h => ⟨_, _, rfl, h⟩⟩
@[push_cast] theorem tiG_b (b want : Bool) (f : LX) (args : List LX) (em : Env) : tiG P (.v (.bool b)) want f args e H d em k Q = if b = want then callXM P (ev e f) (args.map (ev e)) H e d em k Q else zU P k Q .normal (ups e d zAs) H := rfl
@[push_cast] theorem tiG_u (us : Array Value) (want : Bool) (f : LX) (args : List LX) (em : Env) : tiG P (.v (.tuple us)) want f args e H d em k Q = zU P k Q .normal (ups e d zAs) H := rfl
@[push_cast] theorem rk_drawX (hd : List LO) (tl : List (LO × Bool × List Nat)) (gs : List LO) : zU P (.code (.drawX hd tl gs) :: k) Q .normal e H = zU P (.opq hd [] :: .opx hd tl gs (maskX e hd tl) :: k) Q .normal e H := rfl
@[push_cast] theorem rk_opx_nil (hd : List LO) (gs : List LO) (em : Env) : zU P (.opx hd [] gs em :: k) Q .normal e H = zU P (.ops gs :: k) Q .normal e H := rfl
@[push_cast] theorem rk_keepx (hd : List LO) (e1 : Env) (js : List Nat) (gs : List LO) (em : Env) : zU P (.keepx hd e1 js [] gs em :: k) Q .normal e H = (keepA P hd e1 H js ∧ zU P (.ops gs :: k) Q .normal e H) := rfl
@[push_cast] theorem rk_opx (c : Bool) (o : LO) (js : List Nat) (tl : List (LO × Bool × List Nat)) (hd gs : List LO) (em : Env) : zU P (.opx hd ((o, c, js) :: tl) gs em :: k) Q .normal e H = tiK P c o e H em (.keepx hd e js tl gs em :: k) Q := rfl
@[push_cast] theorem rk_keepx1 (c : Bool) (o : LO) (js js1 : List Nat) (tl : List (LO × Bool × List Nat)) (hd gs : List LO) (e1 em : Env) : zU P (.keepx hd e1 js1 ((o, c, js) :: tl) gs em :: k) Q .normal e H = (keepA P hd e1 H js1 ∧ tiK P c o e H em (.keepx hd e1 js tl gs em :: k) Q) := rfl
@[push_cast] theorem tiK_f (o : LO) (em : Env) : tiK P false o e H em k Q = zU P (.ops [o] :: k) Q .normal e H := rfl
@[push_cast] theorem rk_opx_pan (hd : List LO) (tl : List (LO × Bool × List Nat)) (gs : List LO) (em : Env) (v : Value) : zU P (.opx hd tl gs em :: k) Q (.pan v) e H = zU P k Q (.pan v) e H := rfl
@[push_cast] theorem rk_keepx_pan (hd : List LO) (e1 : Env) (js : List Nat) (tl : List (LO × Bool × List Nat)) (gs : List LO) (em : Env) (v : Value) : zU P (.keepx hd e1 js tl gs em :: k) Q (.pan v) e H = zU P k Q (.pan v) e H := rfl
@[push_cast] theorem keepA_nil (hd : List LO) (e1 : Env) : keepA P hd e1 H [] = True := by simp [keepA]
def keep1 (P : Program) (o : LO) (e1 : Env) (H : zB) : Prop := zAZ P [o] e1 H fun e' => e' = e1
@[push_cast] theorem keepA_cons (hd : List LO) (e1 : Env) (j : Nat) (js : List Nat) : keepA P hd e1 H (j :: js) = (keep1 P (hd.getD j default) e1 H ∧ keepA P hd e1 H js) := by simp [keepA, keep1]
theorem up_self (e1 : Env) (t : Nat) (x : AV) : (up e1 t x = e1) = (e1 t = x) := by
 apply propext
 constructor
 ·intro h; have := congrFun h t; simpa [up] using this.symm
 ·intro h; funext u; simp only [up]; split <;> simp_all
def keepR (r : Res) (e1 : Env) (t : Nat) (H : zB) : Prop := r.ok ∧ r.H = H ∧ e1 t = r.x
@[push_cast] theorem keepR_mk (p : Prop) (x : AV) (H' : zB) (e1 : Env) (t : Nat) : keepR ⟨p, x, H'⟩ e1 t H = (p ∧ H' = H ∧ e1 t = x) := rfl
@[push_cast] theorem keep1_load (e1 : Env) (t : Nat) (ag : Bool) (m : Nat) (p : LX) : keep1 P ⟨some t, none, .load ag m p⟩ e1 H = keepR (rLoad ag m (ev e1 p) H) e1 t H := by
 simp only [keep1, zAZ, zCO, zBc, ups, keepR, up_self]
@[push_cast] theorem keep1_nilchk (e1 : Env) (t : Nat) (p : LX) : keep1 P ⟨some t, none, .nilchk p⟩ e1 H = keepR (rNil (ev e1 p) H) e1 t H := by
 simp only [keep1, zAZ, zCO, zBc, ups, keepR, up_self]
@[push_cast] theorem keep1_faddr (e1 : Env) (t : Nat) (m : Nat) (p : LX) : keep1 P ⟨some t, none, .faddr m p⟩ e1 H = keepR (rFaddr m (ev e1 p) H) e1 t H := by
 simp only [keep1, zAZ, zCO, zBc, ups, keepR, up_self]
@[push_cast] theorem keep1_iaddr (e1 : Env) (t : Nat) (m : Nat) (p i : LX) : keep1 P ⟨some t, none, .iaddr m p i⟩ e1 H = keepR (rIaddr m (ev e1 p) (ev e1 i) H) e1 t H := by
 simp only [keep1, zAZ, zCO, zBc, ups, keepR, up_self]
@[push_cast] theorem keep1_len (e1 : Env) (t : Nat) (lk : LK) (p : LX) : keep1 P ⟨some t, none, .len lk p⟩ e1 H = keepR (rLen lk (ev e1 p) H) e1 t H := by
 simp only [keep1, zAZ, zCO, zBc, ups, keepR, up_self]
@[push_cast] theorem keep1_look (e1 : Env) (t : Nat) (kd : KD) (z : AV) (ok : Bool) (p i : LX) : keep1 P ⟨some t, none, .look kd z ok p i⟩ e1 H = keepR (rLook kd z ok (ev e1 p) (keyV (ev e1 i)) H) e1 t H := by
 simp only [keep1, zAZ, zCO, zBc, ups, keepR, up_self]
@[push_cast] theorem keep1_slice (e1 : Env) (t : Nat) (lk : LK) (n : Nat) (x : LX) (lo hi : Option LX) : keep1 P ⟨some t, none, .slice lk n x lo hi⟩ e1 H = keepR (rSlice lk n (ev e1 x) (lo.map (ev e1)) (hi.map (ev e1)) H) e1 t H := by
 simp only [keep1, zAZ, zCO, zBc, ups, keepR, up_self]
@[push_cast] theorem valA_v (v : Value) : valA (.v v) = some v := rfl
@[push_cast] theorem valA_agg (cs : List AV) : valA (.agg cs) = (valsA cs).map fun l => .agg l.toArray := rfl
@[push_cast] theorem valsA_nil : valsA [] = some [] := rfl
@[push_cast] theorem valsA_cons (v : Value) (l : List AV) : valsA (.v v :: l) = (valsA l).map (v :: ·) := rfl
theorem zA {f : FuncId} {args : List AV} {x : AV} (h : ACall P f args H fun y H' => y = x ∧ H' = H) (hk : zU P (.ops l :: k) Q .normal (ups e d x) H) : callF P f args H e d l k Q :=
 h.mono fun y H' ⟨hy, hH⟩ => by subst hy; subst hH; exact hk
theorem zP {f : FuncId} {args : List AV} {R : AV → zB → Prop} (h : ACall P f args H R) (hk : ∀ y H', R y H' → zU P (.ops l :: k) Q .normal (ups e d y) H') : callF P f args H e d l k Q :=
 h.mono hk
theorem rk_loop {c : LCode} (I : Env → zB → Prop) (μ : Env → zB → Nat) (h0 : I e H)
  (h : ∀ e H, I e H → zU P (.code c :: .lp (fun e' H' => I e' H' ∧ μ e' H' < μ e H) :: k) Q .normal e H) : zU P (.code (.loop c) :: k) Q .normal e H := by
 refine ⟨I, μ, h0, fun e H hI => ?_⟩
 have h1 : awp P c e H (zU P (.lp (fun e' H' => I e' H' ∧ μ e' H' < μ e H) :: k) Q) := h e H hI
 have : (zU P (.lp (fun e' H' => I e' H' ∧ μ e' H' < μ e H) :: k) Q) = (fun o e' H' => match o with | .normal => I e' H' ∧ μ e' H' < μ e H | o => zU P k Q o e' H') := by
  funext o e' H'; cases o <;> rfl
 rw [this] at h1
 exact h1
def gqK (P : Program) (r : Res) (e : Env) (H : zB) (d : Option Nat) (l tl : List LO) (k : List Item) (Q : Out → Env → zB → Prop) : Prop :=
 r.ok ∧ r.H = H ∧ zU P (.opq l tl :: k) Q .normal (ups e d r.x) H
def oqK (P : Program) (op : LOp) (e : Env) (H : zB) (d : Option Nat) (l tl : List LO) (k : List Item) (Q : Out → Env → zB → Prop) : Prop :=
 zCO P op e H fun x => zU P (.opq l tl :: k) Q .normal (ups e d x) H
def callQ (P : Program) (f : AV) (args : List AV) (H : zB) (e : Env) (d : Option Nat) (l tl : List LO) (k : List Item) (Q : Out → Env → zB → Prop) : Prop :=
 match f with
 | .fn (.func f) a b => ∃ x, APure P f (a ++ args ++ b) x ∧ clL (a ++ args ++ b) = true ∧ zU P (.opq l tl :: k) Q .normal (ups e d x) H
 | _ => False
def callQF (P : Program) (f : FuncId) (args : List AV) (H : zB) (e : Env) (d : Option Nat) (l tl : List LO) (k : List Item) (Q : Out → Env → zB → Prop) : Prop :=
 ∃ x, APure P f args x ∧ clL args = true ∧ zU P (.opq l tl :: k) Q .normal (ups e d x) H
def gqG (P : Program) (x : AV) (want : Bool) (op : LOp) (e : Env) (t : Nat) (H : zB) (d : Option Nat) (l tl : List LO) (k : List Item) (Q : Out → Env → zB → Prop) : Prop :=
 match x with
 | .v (.bool b) => if b = true then (if want = true then oqK P op (up e t (bool true)) H d l tl k Q else zU P (.opq l tl :: k) Q .normal (ups (up e t (bool true)) d zAs) H)
   else (if want = true then zU P (.opq l tl :: k) Q .normal (ups (up e t (bool false)) d zAs) H else oqK P op (up e t (bool false)) H d l tl k Q)
 | .v (.tuple _) => zU P (.opq l tl :: k) Q .normal (ups e d zAs) H
 | _ => False
variable {tl : List LO}
@[push_cast] theorem gqK_mk (p : Prop) (x : AV) (H' : zB) : gqK P ⟨p, x, H'⟩ e H d l tl k Q = (p ∧ H' = H ∧ zU P (.opq l tl :: k) Q .normal (ups e d x) H) := rfl
@[push_cast] theorem rk_draw (hd tl : List LO) : zU P (.code (.draw hd tl) :: k) Q .normal e H = zU P (.opq hd tl :: k) Q .normal e H := rfl
@[push_cast] theorem rk_opqnil : zU P (.opq [] tl :: k) Q .normal e H = zU P (.ops tl :: k) Q .normal e H := rfl
@[push_cast] theorem rk_oq (op : LOp) : zU P (.opq (⟨d, none, op⟩ :: l) tl :: k) Q .normal e H = oqK P op e H d l tl k Q := rfl
@[push_cast] theorem rk_oqg (t : Nat) (want : Bool) (op : LOp) : zU P (.opq (⟨d, some (t, want), op⟩ :: l) tl :: k) Q .normal e H = gqG P (e t) want op e t H d l tl k Q := by
 simp only [zU, zAZ, gqG, oqK]
 cases e t with
 | v x => cases x <;> rfl
 | _ => rfl
@[push_cast] theorem gqG_t (b : Bool) (op : LOp) (t : Nat) : gqG P (.v (.bool b)) true op e t H d l tl k Q = if b = true then oqK P op (up e t (bool true)) H d l tl k Q else zU P (.opq l tl :: k) Q .normal (ups (up e t (bool false)) d zAs) H := by simp [gqG]
@[push_cast] theorem gqG_f (b : Bool) (op : LOp) (t : Nat) : gqG P (.v (.bool b)) false op e t H d l tl k Q = if b = true then zU P (.opq l tl :: k) Q .normal (ups (up e t (bool true)) d zAs) H else oqK P op (up e t (bool false)) H d l tl k Q := by simp [gqG]
@[push_cast] theorem gqG_u (us : Array Value) (want : Bool) (op : LOp) (t : Nat) : gqG P (.v (.tuple us)) want op e t H d l tl k Q = zU P (.opq l tl :: k) Q .normal (ups e d zAs) H := rfl
@[push_cast] theorem oqK_mv (x : LX) : oqK P (.mv x) e H d l tl k Q = zU P (.opq l tl :: k) Q .normal (ups e d (ev e x)) H := by simp [oqK, zCO, zBc]
@[push_cast] theorem oqK_pick (c a b : LX) : oqK P (.pick c a b) e H d l tl k Q = match ev e c with | .v (.bool t) => (if t = true then zU P (.opq l tl :: k) Q .normal (ups e d (ev e a)) H else zU P (.opq l tl :: k) Q .normal (ups e d (ev e b)) H) | _ => False := rfl
@[push_cast] theorem oqK_box (imm : Bool) (x : LX) : oqK P (.box imm x) e H d l tl k Q = gqK P (rBox imm (ev e x) H) e H d l tl k Q := rfl
@[push_cast] theorem oqK_build (zs : List AV) (ps : List (Nat × Nat × LX)) : oqK P (.build zs ps) e H d l tl k Q = gqK P (rBuild zs (ps.map fun (o, n, x) => (o, n, ev e x)) H) e H d l tl k Q := rfl
@[push_cast] theorem oqK_bsl (imm : Bool) (sz len : Nat) (zs : List AV) (ps : List (Nat × LX)) : oqK P (.bsl imm sz len zs ps) e H d l tl k Q = gqK P (rBsl imm sz len zs (ps.map fun (i, x) => (i, ev e x)) H) e H d l tl k Q := rfl
@[push_cast] theorem oqK_load (ag : Bool) (n : Nat) (p : LX) : oqK P (.load ag n p) e H d l tl k Q = gqK P (rLoad ag n (ev e p) H) e H d l tl k Q := rfl
@[push_cast] theorem oqK_loadb (ag : Bool) (n : Nat) (p : LX) : oqK P (.loadb ag n p) e H d l tl k Q = gqK P (zCb ag n (ev e p) H) e H d l tl k Q := rfl
@[push_cast] theorem oqK_nilchk (x : LX) : oqK P (.nilchk x) e H d l tl k Q = gqK P (rNil (ev e x) H) e H d l tl k Q := rfl
@[push_cast] theorem oqK_bin (kd : KD) (op : BinOp) (x y : LX) : oqK P (.bin kd op x y) e H d l tl k Q = gqK P (rBin kd op (ev e x) (ev e y) H) e H d l tl k Q := rfl
@[push_cast] theorem oqK_not (x : LX) : oqK P (.not x) e H d l tl k Q = gqK P (rNot (ev e x) H) e H d l tl k Q := rfl
@[push_cast] theorem oqK_neg (x : LX) : oqK P (.neg x) e H d l tl k Q = gqK P (rNeg (ev e x) H) e H d l tl k Q := rfl
@[push_cast] theorem oqK_conv (c : Cv) (x : LX) : oqK P (.conv c x) e H d l tl k Q = gqK P (rConv c (ev e x) H) e H d l tl k Q := rfl
@[push_cast] theorem oqK_mkfn (f : Fn) (a b : List LX) : oqK P (.mkfn f a b) e H d l tl k Q = gqK P ⟨True, .fn f (a.map (ev e)) (b.map (ev e)), H⟩ e H d l tl k Q := rfl
@[push_cast] theorem oqK_slice (lk : LK) (n : Nat) (x : LX) (lo hi : Option LX) : oqK P (.slice lk n x lo hi) e H d l tl k Q = gqK P (rSlice lk n (ev e x) (lo.map (ev e)) (hi.map (ev e)) H) e H d l tl k Q := rfl
@[push_cast] theorem oqK_slicev (lk : LK) (n : Nat) (x : LX) (lo hi : Option LX) : oqK P (.slicev lk n x lo hi) e H d l tl k Q = gqK P (zCW lk n (ev e x) (lo.map (ev e)) (hi.map (ev e)) H) e H d l tl k Q := rfl
@[push_cast] theorem oqK_faddr (off : Nat) (p : LX) : oqK P (.faddr off p) e H d l tl k Q = gqK P (rFaddr off (ev e p) H) e H d l tl k Q := rfl
@[push_cast] theorem oqK_fld (ag : Bool) (off n : Nat) (x : LX) : oqK P (.fld ag off n x) e H d l tl k Q = gqK P (rFld ag off n (ev e x) H) e H d l tl k Q := rfl
@[push_cast] theorem oqK_iaddr (sz : Nat) (x i : LX) : oqK P (.iaddr sz x i) e H d l tl k Q = gqK P (rIaddr sz (ev e x) (ev e i) H) e H d l tl k Q := rfl
@[push_cast] theorem oqK_iaddrv (sz : Nat) (x i : LX) : oqK P (.iaddrv sz x i) e H d l tl k Q = gqK P (zCX sz (ev e x) (ev e i) H) e H d l tl k Q := rfl
@[push_cast] theorem oqK_faddrb (off : Nat) (p : LX) : oqK P (.faddrb off p) e H d l tl k Q = gqK P (zBv off (ev e p) H) e H d l tl k Q := rfl
@[push_cast] theorem oqK_idx (x i : LX) : oqK P (.idx x i) e H d l tl k Q = gqK P (rIdx (ev e x) (ev e i) H) e H d l tl k Q := rfl
@[push_cast] theorem oqK_look (kd : KD) (zero : AV) (ok : Bool) (m x : LX) : oqK P (.look kd zero ok m x) e H d l tl k Q = gqK P (rLook kd zero ok (ev e m) (keyV (ev e x)) H) e H d l tl k Q := rfl
@[push_cast] theorem oqK_ext (x : LX) (i : Nat) : oqK P (.ext x i) e H d l tl k Q = gqK P (rExt (ev e x) i H) e H d l tl k Q := rfl
@[push_cast] theorem oqK_len (lk : LK) (x : LX) : oqK P (.len lk x) e H d l tl k Q = gqK P (rLen lk (ev e x) H) e H d l tl k Q := rfl
@[push_cast] theorem oqK_min (x y : LX) : oqK P (.min2 x y) e H d l tl k Q = gqK P (rMin (ev e x) (ev e y) H) e H d l tl k Q := rfl
@[push_cast] theorem oqK_max3 (x y z : LX) : oqK P (.max3 x y z) e H d l tl k Q = gqK P (rMax3 (ev e x) (ev e y) (ev e z) H) e H d l tl k Q := rfl
@[push_cast] theorem oqK_max (x y : LX) : oqK P (.max2 x y) e H d l tl k Q = gqK P (rMax (ev e x) (ev e y) H) e H d l tl k Q := rfl
@[push_cast] theorem oqK_call (f : LX) (args : List LX) : oqK P (.call f args) e H d l tl k Q = callQ P (ev e f) (args.map (ev e)) H e d l tl k Q := by
 simp only [oqK, zCO, callQ]
 cases ev e f with
 | fn f a b => cases f <;> rfl
 | _ => rfl
def callH (P : Program) (f : AV) (args : List AV) (H : zB) (e : Env) (d : Option Nat) (l tl : List LO) (k : List Item) (Q : Out → Env → zB → Prop) : Prop :=
 match f with
 | .fn (.func f) a b => ∃ x, ACall P f (a ++ args ++ b) H (fun y H' => y = x ∧ H' = H) ∧ zU P (.opq l tl :: k) Q .normal (ups e d x) H
 | _ => False
def callHF (P : Program) (f : FuncId) (args : List AV) (H : zB) (e : Env) (d : Option Nat) (l tl : List LO) (k : List Item) (Q : Out → Env → zB → Prop) : Prop :=
 ∃ x, ACall P f args H (fun y H' => y = x ∧ H' = H) ∧ zU P (.opq l tl :: k) Q .normal (ups e d x) H
@[push_cast] theorem oqK_callh (f : LX) (args : List LX) : oqK P (.callh f args) e H d l tl k Q = callH P (ev e f) (args.map (ev e)) H e d l tl k Q := by
 simp only [oqK, zCO, callH]
 cases ev e f with
 | fn f a b => cases f <;> rfl
 | _ => rfl
@[push_cast] theorem callH_fn (f : FuncId) (a b args : List AV) : callH P (.fn (.func f) a b) args H e d l tl k Q = callHF P f (a ++ args ++ b) H e d l tl k Q := rfl
theorem zAJ {f : FuncId} {args : List AV} {x : AV} (h : ACall P f args H (fun y H' => y = x ∧ H' = H)) (hk : zU P (.opq l tl :: k) Q .normal (ups e d x) H) : callHF P f args H e d l tl k Q := ⟨x, h, hk⟩
@[push_cast] theorem callQ_fn (f : FuncId) (a b args : List AV) : callQ P (.fn (.func f) a b) args H e d l tl k Q = callQF P f (a ++ args ++ b) H e d l tl k Q := rfl
theorem zW {f : FuncId} {args : List AV} {x : AV} (h : APure P f args x) (hc : clL args = true) (hk : zU P (.opq l tl :: k) Q .normal (ups e d x) H) : callQF P f args H e d l tl k Q := ⟨x, h, hc, hk⟩
@[push_cast] theorem ups_some (t : Nat) (x : AV) : ups e (some t) x = up e t x := rfl
@[push_cast] theorem ups_none (x : AV) : ups e none x = e := rfl
@[push_cast] theorem up_same (t : Nat) (x : AV) : up e t x t = x := by simp [up]
@[push_cast] theorem up_at (t u : Nat) (x : AV) : up e t x u = if u = t then x else e u := rfl
@[push_cast] theorem ev_t (n : Nat) : ev e (.t n) = e n := rfl
@[push_cast] theorem ev_c (x : AV) : ev e (.c x) = x := rfl
@[push_cast] theorem markX_t (n : Nat) (b : Bool) : markX e (.t n) b = up e n (bool b) := rfl
@[push_cast] theorem markX_c (x : AV) (b : Bool) : markX e (.c x) b = e := rfl
@[push_cast] theorem retQX_ret (res : List RV) (R : AV → zB → Prop) (Z : Value → zB → Prop) : retQX res R Z .ret e H = ((zAO e H res).ok ∧ R (zAO e H res).x H) := rfl
@[push_cast] theorem retQX_normal (res : List RV) (R : AV → zB → Prop) (Z : Value → zB → Prop) : retQX res R Z .normal e H = ((zAO e H res).ok ∧ R (zAO e H res).x H) := rfl
@[push_cast] theorem retQX_pan (res : List RV) (R : AV → zB → Prop) (Z : Value → zB → Prop) (v : Value) : retQX res R Z (.pan v) e H = Z v H := rfl
@[push_cast] theorem retQ_ret (res : List RV) (R : AV → zB → Prop) : retQ res R .ret e H = ((zAO e H res).ok ∧ R (zAO e H res).x H) := rfl
@[push_cast] theorem retQ_normal (res : List RV) (R : AV → zB → Prop) : retQ res R .normal e H = ((zAO e H res).ok ∧ R (zAO e H res).x H) := rfl
@[push_cast] theorem resVs_1 (r : RV) : zAO e H [r] = zCU e H r := rfl
@[push_cast] theorem resVs_2 (a b : RV) : zAO e H [a, b] = ⟨(zCU e H a).ok ∧ (zCU e H b).ok, .tup [(zCU e H a).x, (zCU e H b).x], H⟩ := by simp [zAO]
@[push_cast] theorem resVs_3 (a b c : RV) : zAO e H [a, b, c] = ⟨(zCU e H a).ok ∧ (zCU e H b).ok ∧ (zCU e H c).ok, .tup [(zCU e H a).x, (zCU e H b).x, (zCU e H c).x], H⟩ := by simp [zAO]
@[push_cast] theorem resVs_4 (a b c d : RV) : zAO e H [a, b, c, d] = ⟨(zCU e H a).ok ∧ (zCU e H b).ok ∧ (zCU e H c).ok ∧ (zCU e H d).ok, .tup [(zCU e H a).x, (zCU e H b).x, (zCU e H c).x, (zCU e H d).x], H⟩ := by simp [zAO]
@[push_cast] theorem resV_tmp (t : Nat) : zCU e H (.tmp t) = ⟨True, e t, H⟩ := rfl
@[push_cast] theorem resV_cell (t : Nat) (ag : Bool) (n : Nat) : zCU e H (.cell t ag n) = rLoad ag n (e t) H := rfl
@[push_cast] theorem envOf_nil (i : Nat) : envOf [] i = e0 := rfl
@[push_cast] theorem envOf_cons (x : AV) (l : List AV) (i : Nat) : envOf (x :: l) i = up (envOf l (i + 1)) i x := rfl
end
@[push_cast] theorem rIaddrV_sl (sz a : Nat) (b : List (List AV)) (i : AV) (H : zB) : zCX sz (.sl a b) i H = rIaddr sz (.sl a b) i H := rfl
@[push_cast] theorem rSliceV_sl (lk : LK) (n a : Nat) (b : List (List AV)) (lo hi : Option AV) (H : zB) : zCW lk n (.sl a b) lo hi H = rSlice lk n (.sl a b) lo hi H := rfl
@[push_cast] theorem rSliceV_v (lk : LK) (n : Nat) (v : Value) (lo hi : Option AV) (H : zB) : zCW lk n (.v v) lo hi H = rSlice lk n (.v v) lo hi H := rfl
@[push_cast] theorem rFaddrB_ptr (off r v o : Nat) (H : zB) : zBv off (.ptr r v o) H = rFaddr off (.ptr r v o) H := rfl
@[push_cast] theorem rFaddrB_vp (off : Nat) (cs : List AV) (o : Nat) (H : zB) : zBv off (.vp cs o) H = rFaddr off (.vp cs o) H := rfl
@[push_cast] theorem rLoadB_ptr (ag : Bool) (n r v o : Nat) (H : zB) : zCb ag n (.ptr r v o) H = rLoad ag n (.ptr r v o) H := rfl
@[push_cast] theorem rLoadB_vp (ag : Bool) (n : Nat) (cs : List AV) (o : Nat) (H : zB) : zCb ag n (.vp cs o) H = rLoad ag n (.vp cs o) H := rfl
attribute [push_cast] rBox.eq_1 fillA.eq_1 fillA.eq_2 rBuild.eq_1 fillS.eq_1 fillS.eq_2 rBsl.eq_1 rIns.eq_1 rIns.eq_2 rLoadO.eq_1 rLoadO.eq_2 rLoadO.eq_3 isVer.eq_1 isVer.eq_2 isVer.eq_3 isVer.eq_4 isBox.eq_1 isBox.eq_2 isArr.eq_1 isArr.eq_2 rLoad.eq_1 rLoad.eq_2 rLoad.eq_3 rLoad.eq_4 rStoreO.eq_1 rStoreO.eq_2 rStoreO.eq_3 rStore.eq_1 rStore.eq_2 rStore.eq_3 rNil.eq_1 rNil.eq_2 rNil.eq_3 rNil.eq_4 rNil.eq_5 rNil.eq_6 cEq.eq_1 cEq.eq_2 cEq.eq_3 iBin.eq_1 iBin.eq_2 iBin.eq_3 iBin.eq_4 iBin.eq_5 iBin.eq_6 iBin.eq_7 iBin.eq_8 iBin.eq_9 iBin.eq_10 iBin.eq_11 iBin.eq_12 iBin.eq_13 iBin.eq_14 iBin.eq_15 iBin.eq_16 sBin.eq_1 sBin.eq_2 sBin.eq_3 sBin.eq_4 sBin.eq_5 sBin.eq_6 sBin.eq_7 sBin.eq_8 eqRes.eq_1 eqRes.eq_2 eqRes.eq_3 isKD.eq_1 isKD.eq_2 isKD.eq_3 isKD.eq_4 rBin.eq_1 rBin.eq_2 rBin.eq_3 rBin.eq_4 rBin.eq_5 rBin.eq_6 rBin.eq_7 rNot.eq_1 rNot.eq_2 rNeg.eq_1 rNeg.eq_2 rConv.eq_1 rConv.eq_2 rConv.eq_3 rConv.eq_4 rConv.eq_5 rConv.eq_6 rConv.eq_7 rConv.eq_8 rMsl.eq_1 rMsl.eq_2 bnd.eq_1 bnd.eq_2 bnd.eq_3 rSliceN.eq_1 rSliceN.eq_2 rSliceN.eq_3 rSliceN.eq_4 rSliceN.eq_5 lenOf.eq_1 lenOf.eq_2 lenOf.eq_3 lenOf.eq_4 lenOf.eq_5 lenOf.eq_6 lenOf.eq_7 lenOf.eq_8 rSlice.eq_1 lkOk.eq_1 lkOk.eq_2 lkOk.eq_3 lkOk.eq_4 lkOk.eq_5 lkOk.eq_6 lkOk.eq_7 verOk.eq_1 verOk.eq_2 rLen.eq_1 rFaddr.eq_1 rFaddr.eq_2 rFaddr.eq_3 rFaddr.eq_4 rFld.eq_1 rFld.eq_2 rIaddr.eq_1 rIaddr.eq_2 rIaddr.eq_3 rIdx.eq_1 rIdx.eq_2 lookV.eq_1 lookV.eq_2 rLookN.eq_1 rLook.eq_1 rLook.eq_2 rLook.eq_3 rExt.eq_1 rExt.eq_2 rAppendO.eq_1 rAppendO.eq_2 rAppendO.eq_3 rAppendN.eq_1 rAppendN.eq_2 rAppend.eq_1 rAppend.eq_2 rAppend.eq_3 rAppend.eq_4 rAppendC.eq_1 rAppendC.eq_2 rCopy.eq_1 rCopy.eq_2 rMin.eq_1 rMin.eq_2 rMax.eq_1 rMax3.eq_1 rNilI.eq_1 rMkif.eq_1 rNilI.eq_2 rAsrt.eq_1 rAsrt.eq_2 vA.eq_1 rRangeM.eq_1 rEntryM.eq_1 rEntryO.eq_1 rMax.eq_2 rFrz.eq_1 rFrz.eq_2 rFrz.eq_3 rFrz.eq_4 rFrz.eq_5 rFrz.eq_6 rFrz.eq_7 rFrzN.eq_1 rFrzN.eq_2 rFrzN.eq_3 rFrzO.eq_1 rFrzfO.eq_1 rFrzfO.eq_2 rFrzf.eq_1 rOwn.eq_1 rOwn.eq_2 cellsOf.eq_1 cellsOf.eq_2 c1.eq_1 c1.eq_2 c1.eq_3 c1.eq_4 one.eq_1 one.eq_2 one.eq_3 cellsV.eq_1 splice.eq_1 osRows.eq_1 rowsOf.eq_1 rowsOf.eq_2 rowsOf.eq_3 rowsOf.eq_4 rowsOf.eq_5 rowsOf.eq_6 szOk.eq_1 szOk.eq_2 szOk.eq_3 szOk.eq_4 szOk.eq_5 szOk.eq_6 nilOk.eq_1 nilOk.eq_2 nilOk.eq_3 nilOk.eq_4 slcK.eq_1 slcK.eq_2 slcK.eq_3 slcK.eq_4 slcK.eq_5 kIs.eq_1 kIs.eq_2 kIs.eq_3 kIs.eq_4 AV.cl.eq_1 AV.cl.eq_2 AV.cl.eq_3 AV.cl.eq_4 AV.cl.eq_5 AV.cl.eq_6 AV.cl.eq_7 AV.cl.eq_8 kCmp.eq_1 kCmp.eq_2 kCmp.eq_3 kCmp.eq_4
@[push_cast] theorem verOk_v (H : zB) (x : Value) : verOk H (.v x) = True := rfl
@[push_cast] theorem verOk_sl (H : zB) (sz : Nat) (xs : List (List AV)) : verOk H (.sl sz xs) = True := rfl
@[push_cast] theorem verOk_mp (H : zB) (ks : List Value) (vs : List AV) : verOk H (.mp ks vs) = True := rfl
@[push_cast] theorem verOk_nc (H : zB) : verOk H .nc = True := rfl
@[push_cast] theorem bs_mkS (l : List UInt8) : bs (mkS l) = l := by simp [bs, mkS]
theorem mkS_bs (s : ByteArray) : mkS (bs s) = s := by cases s; simp [bs, mkS]
@[push_cast] theorem c1s_nil : c1s [] = true := rfl
@[push_cast] theorem c1s_cons (x : AV) (l : List AV) : c1s (x :: l) = (c1 x && c1s l) := rfl
@[push_cast] theorem clL_nil : clL [] = true := rfl
@[push_cast] theorem clL_cons (x : AV) (l : List AV) : clL (x :: l) = (x.cl && clL l) := by simp [clL]
@[push_cast] theorem zBC (n : Int) (h : -9223372036854775808 ≤ n) (h' : n < 9223372036854775808) : IntKind.i64.wrap n = n := by
 simp [IntKind.wrap, IntKind.bits, IntKind.signed]
 split <;> omega
@[push_cast] theorem wrap8_of (n : Int) (h : 0 ≤ n) (h' : n < 256) : IntKind.u8.wrap n = n := by
 simp [IntKind.wrap, IntKind.bits, IntKind.signed]
 omega
@[push_cast] theorem wrap32_of (n : Int) (h : -2147483648 ≤ n) (h' : n < 2147483648) : IntKind.i32.wrap n = n := by
 simp [IntKind.wrap, IntKind.bits, IntKind.signed]
 split <;> omega
@[push_cast] theorem wrapu64_of (n : Int) (h : 0 ≤ n) (h' : n < 18446744073709551616) : IntKind.u64.wrap n = n := by
 simp [IntKind.wrap, IntKind.bits, IntKind.signed]
 omega
attribute [push_cast] List.map_cons List.map_nil List.cons_append List.nil_append List.append_nil List.length_cons List.length_nil List.take_zero List.take_nil List.take_succ_cons List.drop_zero List.drop_nil List.drop_succ_cons List.headD_cons
 List.getElem?_cons_zero List.getElem?_cons_succ List.set_cons_zero List.set_cons_succ List.getD_cons_zero List.getD_cons_succ List.replicate_succ List.replicate_zero List.length_append List.length_map
 if_true if_false ite_true ite_false true_and and_true Option.map_some Option.map_none Option.getD_some Option.getD_none Option.isSome_some decide_eq_true_eq decide_eq_false_iff_not Bool.not_eq_true' Bool.and_eq_true Bool.or_eq_true beq_iff_eq ne_eq not_true not_false_eq_true
 false_and and_false Bool.false_eq_true Bool.not_true Bool.not_false Bool.and_true Bool.and_false Bool.true_and Bool.false_and Bool.or_true Bool.or_false Bool.true_or Bool.false_or Bool.not_not Bool.not_eq_eq_eq_not ite_not
 List.mem_cons List.mem_nil_iff List.not_mem_nil forall_eq forall_eq_or_imp forall_const or_true true_or or_false false_or implies_true and_self or_self List.length_set Int.toNat_natCast eq_self
@[push_cast] theorem cellsOf_v (x : Value) : cellsOf (.v x) = [(.v x)] := rfl
@[push_cast] theorem cl_v (x : Value) : AV.cl (.v x) = true := by simp [AV.cl]
@[push_cast] theorem cellsOf_sl (a : Nat) (b : List (List AV)) : cellsOf (.sl a b) = [(.sl a b)] := rfl
@[push_cast] theorem c1_sl (a : Nat) (b : List (List AV)) : c1 (.sl a b) = true := rfl
@[push_cast] theorem cl_sl (a : Nat) (b : List (List AV)) : AV.cl (.sl a b) = true := by simp [AV.cl]
@[push_cast] theorem cellsOf_vp (a : List AV) (b : Nat) : cellsOf (.vp a b) = [(.vp a b)] := rfl
@[push_cast] theorem c1_vp (a : List AV) (b : Nat) : c1 (.vp a b) = true := rfl
@[push_cast] theorem cl_vp (a : List AV) (b : Nat) : AV.cl (.vp a b) = true := by simp [AV.cl]
@[push_cast] theorem cellsOf_fn (a : Fn) (b c : List AV) : cellsOf (.fn a b c) = [(.fn a b c)] := rfl
@[push_cast] theorem c1_fn (a : Fn) (b c : List AV) : c1 (.fn a b c) = true := rfl
@[push_cast] theorem cellsOf_mp (a : List Value) (b : List AV) : cellsOf (.mp a b) = [(.mp a b)] := rfl
@[push_cast] theorem c1_mp (a : List Value) (b : List AV) : c1 (.mp a b) = true := rfl
@[push_cast] theorem cl_mp (a : List Value) (b : List AV) : AV.cl (.mp a b) = true := by simp [AV.cl]
@[push_cast] theorem cellsOf_os (a b c d : Nat) : cellsOf (.os a b c d) = [(.os a b c d)] := rfl
@[push_cast] theorem c1_os (a b c d : Nat) : c1 (.os a b c d) = true := rfl
@[push_cast] theorem cellsOf_ptr (a b c : Nat) : cellsOf (.ptr a b c) = [(.ptr a b c)] := rfl
@[push_cast] theorem c1_ptr (a b c : Nat) : c1 (.ptr a b c) = true := rfl
@[push_cast] theorem cellsOf_pe (a b c d : Nat) : cellsOf (.pe a b c d) = [(.pe a b c d)] := rfl
@[push_cast] theorem c1_pe (a b c d : Nat) : c1 (.pe a b c d) = true := rfl
@[push_cast] theorem cellsOf_om (a b : Nat) : cellsOf (.om a b) = [(.om a b)] := rfl
@[push_cast] theorem c1_om (a b : Nat) : c1 (.om a b) = true := rfl
@[push_cast] theorem rAppendB_str (t : TypeId) (s : AV) (y : List UInt8) (H : zB) : rAppendB t s (str y) H = rAppendBS t s y H := rfl
@[push_cast] theorem rAppendBS_os (t : TypeId) (r ver len : Nat) (y : List UInt8) (H : zB) : rAppendBS t (.os r ver 0 len) y H = zCi t r ver len y H H[r]? := rfl
@[push_cast] theorem rAppendBS_nil (t : TypeId) (y : List UInt8) (H : zB) : rAppendBS t zAf y H = rAppendBZ t y H := rfl
@[push_cast] theorem rAppendBZ_nil (t : TypeId) (H : zB) : rAppendBZ t [] H = ⟨True, zAf, H⟩ := rfl
@[push_cast] theorem rAppendBO_barr (t : TypeId) (r ver len : Nat) (y : List UInt8) (H : zB) (t' ver' : Nat) (l : List UInt8) : zCi t r ver len y H (some (.barr t' ver' l)) = ⟨ver = ver' ∧ t = t' ∧ len = l.length ∧ len + y.length ≤ 140737488355328, .os r (ver + 1) 0 (len + y.length), H.set r (.barr t (ver + 1) (l ++ y))⟩ := rfl
@[push_cast] theorem isNilP_nil : isNilP (.v (.pointer none)) = true := rfl
@[push_cast] theorem cellsOf_bnil (t : TypeId) : cellsOf (.bnil t) = [.bnil t] := rfl
@[push_cast] theorem c1_bnil (t : TypeId) : c1 (.bnil t) = false := rfl
@[push_cast] theorem cl_bnil (t : TypeId) : AV.cl (.bnil t) = true := by simp [AV.cl]
@[push_cast] theorem cellsOf_nc  : cellsOf .nc = [.nc] := rfl
@[push_cast] theorem c1_nc  : c1 .nc = true := rfl
@[push_cast] theorem cl_nc  : AV.cl .nc = true := by simp [AV.cl]
@[push_cast] theorem c1_v (x : Value) : c1 (.v x) = one x := rfl
@[push_cast] theorem one_int (k : IntKind) (n : Int) : one (.int k n) = true := rfl
@[push_cast] theorem one_bool (b : Bool) : one (.bool b) = true := rfl
@[push_cast] theorem one_string (s : ByteArray) : one (.string s) = true := rfl
@[push_cast] theorem one_slice (a : Option Addr) (l c : Nat) : one (.slice a l c) = true := rfl
@[push_cast] theorem one_map (a : Option Nat) : one (.map a) = true := rfl
@[push_cast] theorem one_pointer (a : Option Addr) : one (.pointer a) = true := rfl
@[push_cast] theorem get_len {α : Type} (H : List α) (x : α) (l : List α) : (H ++ x :: l)[H.length]? = some x := by simp
@[push_cast] theorem set_len {α : Type} (H : List α) (x y : α) (l : List α) : (H ++ x :: l).set H.length y = H ++ y :: l := by simp
@[push_cast] theorem zAt {α : Type} (H l : List α) (k : Nat) : (H ++ l)[H.length + k]? = l[k]? := by rw [List.getElem?_append_right (by omega)]; congr 1; omega
@[push_cast] theorem set_add {α : Type} (H l : List α) (k : Nat) (y : α) : (H ++ l).set (H.length + k) y = H ++ l.set k y := by rw [List.set_append_right _ _ (by omega)]; congr 2; omega
attribute [push_cast] List.append_assoc
set_option linter.unusedSimpArgs false
set_option linter.unusedVariables false
section
variable {P : Program} {k : List Item} {Q : Out → Env → zB → Prop} {e : Env} {H : zB}
theorem zBK : ∀ {l : List LO} {e : Env} {H : zB} {K K' : Env → zB → Prop}, zAY P l e H K → (∀ e H, K e H → K' e H) → zAY P l e H K'
 | [], _, _, _, _, h, hK => hK _ _ h
 | o :: l, _, _, _, _, h, hK => by
  refine aops_of ?_
  rcases aops_cons h with ⟨h1, h2⟩ | ⟨h1, h2⟩
  ·exact .inl ⟨h1, zCz h2 fun x H' hh => zBK hh hK⟩
  ·exact .inr ⟨h1, zBK h2 hK⟩
theorem aopq_mono {op : LOp} {K K' : AV → Prop} (h : zCO P op e H K) (hK : ∀ x, K x → K' x) : zCO P op e H K' := by
 cases op <;> simp only [zCO] at h ⊢ <;> first | exact ⟨h.1, h.2.1, hK _ h.2.2⟩ | exact h.elim | skip
 case call f args =>
  split at h
  ·obtain ⟨x, h1, h2, h3⟩ := h; exact ⟨x, h1, h2, hK _ h3⟩
  ·exact h.elim
 case callh f args =>
  split at h
  ·obtain ⟨x, h1, h3⟩ := h; exact ⟨x, h1, hK _ h3⟩
  ·exact h.elim
 case pick c a b =>
  split at h
  ·split at h
   ·rename_i hb; rw [if_pos hb]; exact hK _ h
   ·rename_i hb; rw [if_neg hb]; exact hK _ h
  ·exact h.elim
theorem zBT : ∀ {l : List LO} {e : Env} {K K' : Env → Prop}, zAZ P l e H K → (∀ e, K e → K' e) → zAZ P l e H K'
 | [], _, _, _, h, hK => hK _ h
 | o :: l, e, _, _, h, hK => by
  simp only [zAZ] at h ⊢
  split at h
  ·exact aopq_mono h fun x hh => zBT hh hK
  ·rename_i t want hg
   split at h
   ·rename_i b hb
    cases b <;> cases want <;> simp only [if_true, Bool.false_eq_true, if_false] at h ⊢ <;> first | exact zBT h hK | exact aopq_mono h fun x hh => zBT hh hK
   ·exact zBT h hK
   ·exact h.elim
theorem lpOut_mono {st : LpSt} {K K' : Out → Prop} (h : lpOut st K) (hK : ∀ o, K o → K' o) : lpOut st K' := by
 cases st with
 | ready => exact hK _ h
 | busy => exact h
 | done o => cases o <;> exact hK _ h
theorem aopsK_mono {hd : List LO} {e1 : Env} : ∀ {l : List (LO × List Nat)} {e : Env} {H : zB} {K K' : Env → zB → Prop}, aopsK P hd e1 l e H K → (∀ e H, K e H → K' e H) → aopsK P hd e1 l e H K'
 | [], _, _, _, _, h, hK => hK _ _ h
 | (o, js) :: l, _, _, _, _, h, hK => zBK (h : zAY P [o] _ _ _) fun e H hh => ⟨hh.1, aopsK_mono hh.2 hK⟩
theorem aTI_mono {c : Bool} {lo : LO} {K K' : Env → zB → Prop} {Z Z' : Value → zB → Prop} (h : aTI P c lo e H K Z) (hK : ∀ e H, K e H → K' e H) (hZ : ∀ v H', Z v H' → Z' v H') : aTI P c lo e H K' Z' := by
 unfold aTI at h ⊢
 split at h
 ·exact wantG_mono h (fun h => acallx_mono h (fun _ _ => hK _ _) hZ) (hK _ _)
 ·exact wantG_mono h (fun ⟨t, z, h1, h2⟩ => ⟨t, z, h1, hZ _ _ h2⟩) (hK _ _)
 ·exact zBK h fun _ _ => hK _ _
theorem aopsX_mono {hd : List LO} {e1 : Env} : ∀ {l : List (LO × Bool × List Nat)} {e : Env} {H : zB} {K K' : Env → zB → Prop} {Z Z' : Value → zB → Prop}, aopsX P hd e1 l e H K Z → (∀ e H, K e H → K' e H) → (∀ v H', Z v H' → Z' v H') → aopsX P hd e1 l e H K' Z'
 | [], _, _, _, _, _, _, h, hK, _ => hK _ _ h
 | (o, c, js) :: l, _, _, _, _, _, _, h, hK, hZ => aTI_mono (h : aTI P c o _ _ _ _) (fun e H hh => ⟨hh.1, aopsX_mono hh.2 hK hZ⟩) hZ
theorem awp_mono : ∀ {c : LCode} {e : Env} {H : zB} {K K' : Out → Env → zB → Prop}, awp P c e H K → (∀ o e H, K o e H → K' o e H) → awp P c e H K' := by
 intro c
 induction c with
 | skip => intro e H K K' h hK; exact hK _ _ _ h
 | ops l => intro e H K K' h hK; exact zBK h fun e H hh => hK _ _ _ hh
 | draw hd tl => intro e H K K' h hK; exact zBT h fun e hh => zBK hh fun e H hh => hK _ _ _ hh
 | drawA hd tl gs => intro e H K K' h hK; exact zBT h fun e hh => aopsK_mono hh fun e H hh => zBK hh fun e H hh => hK _ _ _ hh
 | seq a b iha ihb =>
  intro e H K K' h hK
  refine iha h fun o e' H' hh => ?_
  cases o with
  | normal => exact ihb hh hK
  | exit id => exact hK _ _ _ hh
  | ret => exact hK _ _ _ hh
  | pan v => exact hK _ _ _ hh
 | cond x a b iha ihb =>
  intro e H K K' h hK
  simp only [awp] at h ⊢
  split at h
  ·rename_i t ht
   cases t with
   | true => rw [if_pos rfl] at h ⊢; exact iha h hK
   | false => rw [if_neg (by simp)] at h ⊢; exact ihb h hK
  ·exact h.elim
 | block id c ih =>
  intro e H K K' h hK
  refine ih h fun o e' H' hh => ?_
  cases o with
  | normal => exact hK _ _ _ hh
  | exit j =>
   simp only at hh ⊢
   split
   ·rename_i hj; rw [if_pos hj] at hh; exact hK _ _ _ hh
   ·rename_i hj; rw [if_neg hj] at hh; exact hK _ _ _ hh
  | ret => exact hK _ _ _ hh
  | pan v => exact hK _ _ _ hh
 | loop c ih =>
  intro e H K K' h hK
  obtain ⟨I, μ, h1, h2⟩ := h
  refine ⟨I, μ, h1, fun e H hI => ih (h2 e H hI) fun o e' H' hh => ?_⟩
  cases o with
  | normal => exact hh
  | exit id => exact hK _ _ _ hh
  | ret => exact hK _ _ _ hh
  | pan v => exact hK _ _ _ hh
 | range g ps a b iha ihb =>
  intro e H K K' h hK
  simp only [awp] at h ⊢
  split at h
  ·intro l lr hy
   exact (h l lr hy).mono fun x H' ⟨st, h1, h2⟩ => ⟨st, h1, lpOut_mono h2 fun o => hK _ _ _⟩
  ·exact h.elim
 | exit id => intro e H K K' h hK; exact hK _ _ _ h
 | ret => intro e H K K' h hK; exact hK _ _ _ h
 | callp d f args =>
  intro e H K K' h hK
  simp only [awp] at h ⊢
  cases hf : ev e f with
  | fn g first caps =>
   rw [hf] at h
   cases g with
   | func k => exact ACallX.mono h (fun _ _ hh => hK _ _ _ hh) fun _ _ hh => hK _ _ _ hh
   | _ => exact h.elim
  | _ => rw [hf] at h; exact h.elim
 | pan d t x => intro e H K K' ⟨v, h1, h2⟩ hK; exact ⟨v, h1, hK _ _ _ h2⟩
 | ti o => intro e H K K' h hK; exact aTI_mono h (fun _ _ hh => hK _ _ _ hh) fun _ _ hh => hK _ _ _ hh
 | drawX hd tl gs => intro e H K K' h hK; exact zBT h fun e hh => aopsX_mono hh (fun e H hh => zBK hh fun e H hh => hK _ _ _ hh) fun _ _ hh => hK _ _ _ hh
theorem least {p : Nat → Prop} (h : ∃ n, p n) : ∃ n, p n ∧ ∀ m, p m → n ≤ m := by
 obtain ⟨n, hn⟩ := h
 induction n using Nat.strongRecOn with
 | _ n ih =>
  by_cases hh : ∃ m, m < n ∧ p m
  ·obtain ⟨m, hm, hp⟩ := hh; exact ih m hm hp
  ·exact ⟨n, hn, fun m hm => Nat.le_of_not_lt fun hlt => hh ⟨m, hlt, hm⟩⟩
inductive Nx {σ : Type} (I : σ → Env → zB → Prop) (μ : σ → Nat) (s : σ) (e : Env) (H : zB) : Prop where
 | mk (s' : σ) (h : I s' e H) (hm : μ s' < μ s)
open Classical in
theorem zAL {σ : Type} {c : LCode} (I : σ → Env → zB → Prop) (μ : σ → Nat) (s : σ) (h0 : I s e H)
  (h : ∀ s e H, I s e H → zU P (.code c :: .lp (Nx I μ s) :: k) Q .normal e H) : zU P (.code (.loop c) :: k) Q .normal e H := by
 have hex : ∀ e H, (∃ s, I s e H) → ∃ n, (∃ s, I s e H ∧ μ s = n) ∧ ∀ m, (∃ s, I s e H ∧ μ s = m) → n ≤ m := fun e H ⟨s, hs⟩ => least ⟨_, s, hs, rfl⟩
 refine rk_loop (fun e H => ∃ s, I s e H) (fun e H => if hx : ∃ s, I s e H then Classical.choose (hex e H hx) else 0) ⟨s, h0⟩ ?_
 intro e H hs
 obtain ⟨⟨s, hI, hm⟩, _⟩ := Classical.choose_spec (hex e H hs)
 refine awp_mono (h s e H hI) fun o e' H' hh => ?_
 cases o with
 | normal =>
  obtain ⟨s', hI', hlt⟩ := hh
  refine ⟨⟨s', hI'⟩, ?_⟩
  rw [dif_pos ⟨s', hI'⟩, dif_pos hs]
  have := (Classical.choose_spec (hex e' H' ⟨s', hI'⟩)).2 _ ⟨s', hI', rfl⟩
  omega
 | exit id => exact hh
 | ret => exact hh
 | pan v => exact hh
end
@[push_cast] theorem toNat_add1 (i : Nat) : ((i : Int) + 1).toNat = i + 1 := by omega
@[push_cast] theorem toNat_add2 (i : Nat) : ((i : Int) + 2).toNat = i + 2 := by omega
@[push_cast] theorem toNat_add3 (i : Nat) : ((i : Int) + 3).toNat = i + 3 := by omega
@[push_cast] theorem toNat_add4 (i : Nat) : ((i : Int) + 4).toNat = i + 4 := by omega
@[push_cast] theorem toNat_add5 (i : Nat) : ((i : Int) + 5).toNat = i + 5 := by omega
@[push_cast] theorem toNat_addC (i j : Nat) : ((i : Int) + (j : Int)).toNat = i + j := by omega
attribute [push_cast] Nat.add_sub_cancel_left
@[push_cast] theorem take_map_len {α β : Type} (f : α → β) (l : List α) : (l.map f).take l.length = l.map f := by
 rw [List.take_of_length_le (by simp)]
@[push_cast] theorem take_map_len0 {α β : Type} (f : α → β) (l : List α) : ((l.map f).drop 0).take l.length = l.map f := by
 rw [List.drop_zero, List.take_of_length_le (by simp)]
def LCode.sub : List Nat → LCode → LCode
 | [], c => c
 | 0 :: l, .seq a _ => a.sub l
 | 1 :: l, .seq _ b => b.sub l
 | 0 :: l, .cond _ a _ => a.sub l
 | 1 :: l, .cond _ _ b => b.sub l
 | _ :: l, .block _ c => c.sub l
 | _ :: l, .loop c => c.sub l
 | _, c => c
section
variable {P : Program} {t e : TypeId} {xs : List AV}
def zCc (n : Int) : Prop := -9223372036854775808 ≤ n ∧ n ≤ 9223372036854775807
theorem val_int (hu : P.underlying t = some (.int .i64)) (h : Val P t xs) : ∃ n : Int, xs = [int n] ∧ zCc n := by
 cases h with
 | int hu' hw =>
  rw [hu] at hu'
  cases hu'
  refine ⟨_, rfl, ?_⟩
  simp [Lit.wf, IntKind.min, IntKind.max, IntKind.signed, IntKind.bits] at hw
  unfold zCc; omega
 | bool hu' => rw [hu] at hu'; cases hu'
 | str hu' => rw [hu] at hu'; cases hu'
 | sl hu' => rw [hu] at hu'; cases hu'
 | st hu' => rw [hu] at hu'; cases hu'
theorem val_sl {k : Nat} (hu : P.underlying t = some (.slice e)) (hk : P.cellsOf e = k) (h : Val P t xs) : ∃ rows, xs = [.sl k rows] ∧ rows.length ≤ 9223372036854775807 ∧ ∀ x ∈ rows, Val P e x := by
 cases h with
 | sl hu' hl hr =>
  rw [hu] at hu'
  cases hu'
  subst hk
  unfold maxLen at hl
  exact ⟨_, rfl, by omega, hr⟩
 | int hu' => rw [hu] at hu'; cases hu'
 | bool hu' => rw [hu] at hu'; cases hu'
 | str hu' => rw [hu] at hu'; cases hu'
 | st hu' => rw [hu] at hu'; cases hu'
theorem val_rows {α : Type} {enc : α → List AV} {ok : α → Prop} {rows : List (List AV)} (h : ∀ x ∈ rows, Val P e x) (ho : ∀ x, Val P e x → ∃ a, x = enc a ∧ ok a) : ∃ l : List α, rows = l.map enc ∧ ∀ a ∈ l, ok a := by
 induction rows with
 | nil => exact ⟨[], rfl, by simp⟩
 | cons x rows ih =>
  obtain ⟨a, rfl, ha⟩ := ho x (h x (by simp))
  obtain ⟨l, rfl, hl⟩ := ih fun y hy => h y (by simp [hy])
  exact ⟨a :: l, rfl, by simp only [List.mem_cons, forall_eq_or_imp]; exact ⟨ha, hl⟩⟩
end
@[push_cast] theorem one_nilFunc : one .nilFunc = true := rfl
@[push_cast] theorem one_func (f : Fn) (a b : Array Value) : one (.func f a b) = true := rfl
@[push_cast] theorem rConv_bytes_os (r ver off len : Nat) (H : zB) : rConv .bytesStr (.os r ver off len) H = ⟨szOk H 1 (.os r ver off len) ∧ ((rowsOf H (.os r ver off len)).bind zAU).isSome = true, str (((rowsOf H (.os r ver off len)).bind zAU).getD []), H⟩ := rfl
@[push_cast] theorem rConv_bytes_sl (sz : Nat) (xs : List (List AV)) (H : zB) : rConv .bytesStr (.sl sz xs) H = ⟨szOk H 1 (.sl sz xs) ∧ ((rowsOf H (.sl sz xs)).bind zAU).isSome = true, str (((rowsOf H (.sl sz xs)).bind zAU).getD []), H⟩ := rfl
attribute [push_cast] Option.bind_some Bool.true_xor Bool.false_xor Bool.xor_false Bool.xor_true
def rCopyO (sz r ver off len : Nat) (ys : List (List AV)) (x : AV) (H : zB) : Option HO → Res
 | some (.arr ver' sz' xs) => ⟨ver = ver' ∧ sz' = sz ∧ szOk H sz x ∧ off + len ≤ xs.length, int (min ys.length len : Nat), H.set r (.arr ver sz (xs.take off ++ ys.take (min ys.length len) ++ xs.drop (off + min ys.length len)))⟩
 | _ => .no H
def rCopyN (sz : Nat) (s x : AV) (H : zB) : Option (List (List AV)) → Res
 | some ys => match s with
  | .os r ver off len => rCopyO sz r ver off len ys x H H[r]?
  | _ => .no H
 | none => .no H
@[push_cast] theorem rCopy_eq (sz : Nat) (s x : AV) (H : zB) : rCopy sz s x H = rCopyN sz s x H (rowsOf H x) := by
 unfold rCopy rCopyN rCopyO
 cases rowsOf H x with
 | none => cases s <;> rfl
 | some ys => cases s <;> rfl
@[push_cast] theorem rCopyN_os (sz r ver off len : Nat) (x : AV) (H : zB) (ys : List (List AV)) : rCopyN sz (.os r ver off len) x H (some ys) = rCopyO sz r ver off len ys x H H[r]? := rfl
@[push_cast] theorem rCopyO_arr (sz r ver off len ver' sz' : Nat) (ys xs : List (List AV)) (x : AV) (H : zB) : rCopyO sz r ver off len ys x H (some (.arr ver' sz' xs)) = ⟨ver = ver' ∧ sz' = sz ∧ szOk H sz x ∧ off + len ≤ xs.length, int (min ys.length len : Nat), H.set r (.arr ver sz (xs.take off ++ ys.take (min ys.length len) ++ xs.drop (off + min ys.length len)))⟩ := rfl
attribute [push_cast] List.length_replicate
theorem zO {α : Type} [Inhabited α] {l : List α} {enc : α → List AV} {j : Nat} (h : j < l.length) : (l.map enc).getD j [] = enc (l.getD j default) := by
 simp [List.getD_eq_getElem?_getD, h]
theorem zA1 {α : Type} [Inhabited α] {l : List α} {j : Nat} (h : j < l.length) : l.getD j default ∈ l := by
 simp [List.getD_eq_getElem?_getD, h]
theorem zCg {α : Type} [Inhabited α] {l : List α} {j : Nat} (h : j < l.length) : l.take (j + 1) = l.take j ++ [l.getD j default] := by
 rw [List.take_succ_eq_append_getElem h]; simp [List.getD_eq_getElem?_getD, h]
theorem drop_cons {α : Type} [Inhabited α] {l : List α} {j : Nat} (h : j < l.length) : l.drop j = l.getD j default :: l.drop (j + 1) := by
 rw [List.drop_eq_getElem_cons h]; simp [List.getD_eq_getElem?_getD, h]
theorem intc {x : AV} {a : Int} {b : Int} (h : x = int a) (h2 : a = b) : x = int b := h.trans (by rw [h2])
theorem upto_succ {j : Nat} {p : Nat → Prop} (h : ∀ i, i < j → p i) (hj : p j) : ∀ i, i < j + 1 → p i := fun i hi => by
 by_cases e : i = j
 ·rw [e]; exact hj
 ·exact h i (by omega)
theorem zQ {a b : Int} (h : a < b) : decide (a < b) = true := decide_eq_true h
theorem zAh {a b : Int} (h : ¬ a < b) : decide (a < b) = false := decide_eq_false h
theorem zAe {a b : Int} (h : a ≤ b) : decide (a ≤ b) = true := decide_eq_true h
theorem zAz {a b : Int} (h : ¬ a ≤ b) : decide (a ≤ b) = false := decide_eq_false h
theorem zAI {a b : Int} (h : a = b) : decide (a = b) = true := decide_eq_true h
theorem zAu {a b : Int} (h : ¬ a = b) : decide (a = b) = false := decide_eq_false h
attribute [push_cast] decide_true decide_false
def idxI : Option Nat → Int
 | some i => i
 | none => -1
theorem find_some {α : Type} [Inhabited α] {l : List α} {p : α → Bool} {j : Nat} (h : j < l.length) (hp : p (l.getD j default) = true) (hb : ∀ i, i < j → p (l.getD i default) = false) : l.findIdx? p = some j := by
 rw [List.findIdx?_eq_some_iff_getElem]
 have e : ∀ i (hi : i < l.length), l.getD i default = l[i] := fun i hi => by simp [List.getD_eq_getElem?_getD, hi]
 refine ⟨h, by rw [← e j h]; exact hp, fun i hi => ?_⟩
 have := hb i hi
 rw [e i (by omega)] at this
 simp [this]
theorem find_none {α : Type} [Inhabited α] {l : List α} {p : α → Bool} (hb : ∀ i, i < l.length → p (l.getD i default) = false) : l.findIdx? p = none := by
 rw [List.findIdx?_eq_none_iff]
 intro x hx
 obtain ⟨i, hi, rfl⟩ := List.mem_iff_getElem.1 hx
 have := hb i hi
 simpa [List.getD_eq_getElem?_getD, hi] using this
theorem all_take {α : Type} (l : List α) {n : Nat} (h : l.length ≤ n) : l.take n = l := List.take_of_length_le h
end Go.Ax
namespace Go.Proofs.YtaipgalanpcgoaaGreat
open Go Go.Ax
set_option maxRecDepth 100000
set_option linter.unusedSimpArgs false
set_option linter.unusedVariables false
set_option maxHeartbeats 4000000
abbrev zT (k : FuncId) (args : List AV) (H : zB) (x : AV) : Prop := ACall Tryz.prog k args H fun y H' => y = x ∧ H' = H
structure Ty where
 k : Int
 len : Int
 rc : List UInt8
 deriving Inhabited, DecidableEq
structure Fd where
 name : List UInt8
 ty : Ty
 deriving Inhabited, DecidableEq
structure Rc where
 name : List UInt8
 fields : List Fd
 deriving Inhabited, DecidableEq
structure Vr where
 name : List UInt8
 ty : Ty
 slot : Int
 node : Int
 var_ : Bool
 loop_ : Bool
 deriving Inhabited, DecidableEq
def fdR (f : Fd) : List AV := [str f.name, int f.ty.k, int f.ty.len, str f.ty.rc]
def rcR (r : Rc) : List AV := [str r.name, .sl 4 (r.fields.map fdR)]
def big (n : Nat) : Prop := n ≤ 9223372036854775807
structure Ty.Ok (t : Ty) : Prop where
 k : zCc t.k
 len : zCc t.len
 rc : big t.rc.length
structure Fd.Ok (f : Fd) : Prop where
 name : big f.name.length
 ty : f.ty.Ok
structure Rc.Ok (r : Rc) : Prop where
 name : big r.name.length
 len : big r.fields.length
 fields : ∀ f ∈ r.fields, f.Ok
structure Vr.Ok (v : Vr) : Prop where
 name : big v.name.length
 ty : v.ty.Ok
 slot : zCc v.slot
 node : zCc v.node
def idxF (rs : List Rc) (nm : List UInt8) : Option Nat := rs.findIdx? fun r => decide (r.name = nm)
def recV (rs : List Rc) (nm : List UInt8) : AV := match idxF rs nm with
 | some i => .tup [.agg (rcR (rs.getD i default)), bool true]
 | none => .tup [.agg [str [], zAf], bool false]
abbrev u64 (n : Int) : AV := .v (.int .u64 n)
structure Few (rs : List Rc) : Prop where
 len : rs.length ≤ 20
 fields : ∀ r ∈ rs, r.fields.length ≤ 20
def wOk (w : Int) : Prop := 2 ≤ w ∧ w ≤ 8
instance (w : Int) : Decidable (wOk w) := inferInstanceAs (Decidable (_ ∧ _))
def hf (w : Int) : Int := 2 ^ (w.toNat - 1)
def leF (w : Int) : Int := if wOk w then -hf w else 0
def grF (w : Int) : Int := if wOk w then hf w - 1 else 0
def wrF (w n : Int) : Int := if wOk w then (n + hf w) % (2 * hf w) - hf w else 0
theorem w_cases {w : Int} (h : wOk w) : w = 2 ∨ w = 3 ∨ w = 4 ∨ w = 5 ∨ w = 6 ∨ w = 7 ∨ w = 8 := by unfold wOk at h; omega
theorem zBe (w : Int) (H : zB) : zT 43 [int w] H (bool (decide (wOk w))) := by
 refine enter Tryz.func43 L43_ok (Nat.le_of_ble_eq_true rfl) ?_
 by_cases h1 : 2 ≤ w
 ·by_cases h2 : w ≤ 8
  ·repeat' (simp -implicitDefEqProofs (disch := omega) only [L43, zAe, push_cast, simprocAttr, ↓reduceIte])
   simp [wOk, h1, h2]
  ·repeat' (simp -implicitDefEqProofs (disch := omega) only [L43, zAe, zAz, push_cast, simprocAttr, ↓reduceIte])
   simp [wOk, h1, h2]
 ·repeat' (simp -implicitDefEqProofs (disch := omega) only [L43, zAz, push_cast, simprocAttr, ↓reduceIte])
  simp [wOk, h1]
theorem wrap64 (n : Int) : IntKind.i64.wrap n = (n + 9223372036854775808) % 18446744073709551616 - 9223372036854775808 := by
 simp only [IntKind.wrap, IntKind.bits, IntKind.signed]
 simp
 split <;> omega
theorem wrapC (w n : Int) (hn : zCc n) (H : zB) : zT 48 [int w, int n] H (int (wrF w n)) := by
 refine enter Tryz.func48 L48_ok (Nat.le_of_ble_eq_true rfl) ?_
 by_cases h : wOk w
 ·have hd : decide (wOk w) = true := by simp [h]
  have e : wrF w n = (n + hf w) % (2 * hf w) - hf w := by unfold wrF; rw [if_pos h]
  rw [e]
  clear e
  unfold zCc at hn
  rcases w_cases h with rfl | rfl | rfl | rfl | rfl | rfl | rfl
  all_goals
   repeat' (first | refine zA (zBe _ _) ?_ | simp -implicitDefEqProofs (disch := omega) only [L48, hd, push_cast, simprocAttr, ↓reduceIte])
   simp [hf, wrap64, IntKind.bits]
   rw [Int.fdiv_eq_ediv_of_nonneg _ (by decide)]
   omega
 ·have hd : decide (wOk w) = false := by simp [h]
  have e : wrF w n = 0 := by unfold wrF; rw [if_neg h]
  repeat' (first | refine zA (zBe _ _) ?_ | simp -implicitDefEqProofs (disch := omega) only [L48, hd, e, push_cast, simprocAttr, ↓reduceIte])
theorem leastC (w : Int) (H : zB) : zT 59 [int w] H (int (leF w)) := by
 refine enter Tryz.func59 L59_ok (Nat.le_of_ble_eq_true rfl) ?_
 by_cases h : wOk w
 ·have hd : decide (wOk w) = true := by simp [h]
  have e : leF w = -hf w := by unfold leF; rw [if_pos h]
  rw [e]
  clear e
  rcases w_cases h with rfl | rfl | rfl | rfl | rfl | rfl | rfl
  all_goals
   repeat' (first | refine zA (zBe _ _) ?_ | simp -implicitDefEqProofs (disch := omega) only [L59, hd, push_cast, simprocAttr, ↓reduceIte])
   simp [hf, wrap64, IntKind.bits]
 ·have hd : decide (wOk w) = false := by simp [h]
  have e : leF w = 0 := by unfold leF; rw [if_neg h]
  repeat' (first | refine zA (zBe _ _) ?_ | simp -implicitDefEqProofs (disch := omega) only [L59, hd, e, push_cast, simprocAttr, ↓reduceIte])
theorem greatestC (w : Int) (H : zB) : zT 60 [int w] H (int (grF w)) := by
 refine enter Tryz.func60 L60_ok (Nat.le_of_ble_eq_true rfl) ?_
 by_cases h : wOk w
 ·have hd : decide (wOk w) = true := by simp [h]
  have e : grF w = hf w - 1 := by unfold grF; rw [if_pos h]
  rw [e]
  clear e
  rcases w_cases h with rfl | rfl | rfl | rfl | rfl | rfl | rfl
  all_goals
   repeat' (first | refine zA (zBe _ _) ?_ | simp -implicitDefEqProofs (disch := omega) only [L60, hd, push_cast, simprocAttr, ↓reduceIte])
   simp [hf, wrap64, IntKind.bits]
 ·have hd : decide (wOk w) = false := by simp [h]
  have e : grF w = 0 := by unfold grF; rw [if_neg h]
  repeat' (first | refine zA (zBe _ _) ?_ | simp -implicitDefEqProofs (disch := omega) only [L60, hd, e, push_cast, simprocAttr, ↓reduceIte])
theorem truthC (b : Bool) (H : zB) : zT 81 [bool b] H (int (if b = true then 1 else 0)) := by
 refine enter Tryz.func81 L81_ok (Nat.le_of_ble_eq_true rfl) ?_
 cases b
 ·repeat' (simp -implicitDefEqProofs (disch := omega) only [L81, push_cast, simprocAttr, ↓reduceIte])
 ·repeat' (simp -implicitDefEqProofs (disch := omega) only [L81, push_cast, simprocAttr, ↓reduceIte])
def inI (w n : Int) : Prop := leF w ≤ n ∧ n ≤ grF w
instance (w n : Int) : Decidable (inI w n) := inferInstanceAs (Decidable (_ ∧ _))
theorem isIntC (w n : Int) (H : zB) : zT 46 [int w, int n] H (bool (decide (inI w n))) := by
 refine enter Tryz.func46 L46_ok (Nat.le_of_ble_eq_true rfl) ?_
 by_cases h1 : leF w ≤ n
 ·by_cases h2 : n ≤ grF w
  ·repeat' (first | refine zA (leastC _ _) ?_ | refine zA (greatestC _ _) ?_ | simp -implicitDefEqProofs (disch := omega) only [L46, zAe, push_cast, simprocAttr, ↓reduceIte])
   simp [inI, h1, h2]
  ·repeat' (first | refine zA (leastC _ _) ?_ | refine zA (greatestC _ _) ?_ | simp -implicitDefEqProofs (disch := omega) only [L46, zAe, zAz, push_cast, simprocAttr, ↓reduceIte])
   simp [inI, h1, h2]
 ·repeat' (first | refine zA (leastC _ _) ?_ | simp -implicitDefEqProofs (disch := omega) only [L46, zAz, push_cast, simprocAttr, ↓reduceIte])
  simp [inI, h1]
def isB (n : Int) : Prop := n = 0 ∨ n = 1
instance (n : Int) : Decidable (isB n) := inferInstanceAs (Decidable (_ ∨ _))
theorem op_add (a b : Int) (H : zB) : zT 75 [int a, int b] H (int (IntKind.i64.wrap (a + b))) := by
 refine enter Tryz.func75 L75_ok (Nat.le_of_ble_eq_true rfl) ?_
 repeat' (simp -implicitDefEqProofs (disch := omega) only [L75, push_cast, simprocAttr, ↓reduceIte])
theorem op_sub (a b : Int) (H : zB) : zT 76 [int a, int b] H (int (IntKind.i64.wrap (a - b))) := by
 refine enter Tryz.func76 L76_ok (Nat.le_of_ble_eq_true rfl) ?_
 repeat' (simp -implicitDefEqProofs (disch := omega) only [L76, push_cast, simprocAttr, ↓reduceIte])
theorem op_mul (a b : Int) (H : zB) : zT 77 [int a, int b] H (int (IntKind.i64.wrap (a * b))) := by
 refine enter Tryz.func77 L77_ok (Nat.le_of_ble_eq_true rfl) ?_
 repeat' (simp -implicitDefEqProofs (disch := omega) only [L77, push_cast, simprocAttr, ↓reduceIte])
theorem op_quo (a b : Int) (hb : b ≠ 0) (H : zB) : zT 78 [int a, int b] H (int (IntKind.i64.wrap (a.tdiv b))) := by
 refine enter Tryz.func78 L78_ok (Nat.le_of_ble_eq_true rfl) ?_
 repeat' (simp -implicitDefEqProofs (disch := omega) only [L78, push_cast, simprocAttr, ↓reduceIte])
 exact hb
theorem op_rem (a b : Int) (hb : b ≠ 0) (H : zB) : zT 79 [int a, int b] H (int (a.tmod b)) := by
 refine enter Tryz.func79 L79_ok (Nat.le_of_ble_eq_true rfl) ?_
 repeat' (simp -implicitDefEqProofs (disch := omega) only [L79, push_cast, simprocAttr, ↓reduceIte])
 exact hb
theorem op_eq (a b : Int) (H : zB) : zT 80 [int a, int b] H (int ((if a = b then 1 else 0))) := by
 refine enter Tryz.func80 L80_ok (Nat.le_of_ble_eq_true rfl) ?_
 repeat' (first | refine zA (truthC _ _) ?_ | simp -implicitDefEqProofs (disch := omega) only [L80, push_cast, simprocAttr, ↓reduceIte])
theorem op_ne (a b : Int) (H : zB) : zT 82 [int a, int b] H (int ((if a = b then 0 else 1))) := by
 refine enter Tryz.func82 L82_ok (Nat.le_of_ble_eq_true rfl) ?_
 repeat' (first | refine zA (truthC _ _) ?_ | simp -implicitDefEqProofs (disch := omega) only [L82, push_cast, simprocAttr, ↓reduceIte])
theorem op_lt (a b : Int) (H : zB) : zT 83 [int a, int b] H (int ((if a < b then 1 else 0))) := by
 refine enter Tryz.func83 L83_ok (Nat.le_of_ble_eq_true rfl) ?_
 repeat' (first | refine zA (truthC _ _) ?_ | simp -implicitDefEqProofs (disch := omega) only [L83, push_cast, simprocAttr, ↓reduceIte])
theorem op_le (a b : Int) (H : zB) : zT 84 [int a, int b] H (int ((if a ≤ b then 1 else 0))) := by
 refine enter Tryz.func84 L84_ok (Nat.le_of_ble_eq_true rfl) ?_
 repeat' (first | refine zA (truthC _ _) ?_ | simp -implicitDefEqProofs (disch := omega) only [L84, push_cast, simprocAttr, ↓reduceIte])
theorem op_gt (a b : Int) (H : zB) : zT 85 [int a, int b] H (int ((if b < a then 1 else 0))) := by
 refine enter Tryz.func85 L85_ok (Nat.le_of_ble_eq_true rfl) ?_
 repeat' (first | refine zA (truthC _ _) ?_ | simp -implicitDefEqProofs (disch := omega) only [L85, push_cast, simprocAttr, ↓reduceIte])
theorem op_ge (a b : Int) (H : zB) : zT 86 [int a, int b] H (int ((if b ≤ a then 1 else 0))) := by
 refine enter Tryz.func86 L86_ok (Nat.le_of_ble_eq_true rfl) ?_
 repeat' (first | refine zA (truthC _ _) ?_ | simp -implicitDefEqProofs (disch := omega) only [L86, push_cast, simprocAttr, ↓reduceIte])
def opsK : List Value := [.string (mkS [43]), .string (mkS [45]), .string (mkS [42]), .string (mkS [47]), .string (mkS [37]), .string (mkS [61, 61]), .string (mkS [33, 61]), .string (mkS [60]), .string (mkS [60, 61]), .string (mkS [62]), .string (mkS [62, 61]), .string (mkS [97, 110, 100]), .string (mkS [111, 114])]
def opsX : List AV := [.fn (.func 75) [] [], .fn (.func 76) [] [], .fn (.func 77) [] [], .fn (.func 78) [] [], .fn (.func 79) [] [], .fn (.func 80) [] [], .fn (.func 82) [] [], .fn (.func 83) [] [], .fn (.func 84) [] [], .fn (.func 85) [] [], .fn (.func 86) [] [], .fn (.func 87) [] [], .fn (.func 88) [] []]
theorem zBy (H : zB) : zT 44 [] H (.mp opsK opsX) := by
 refine ACall.drop (R := fun x => x = .mp opsK opsX) ?_
 refine enter Tryz.func44 L44_ok (Nat.le_of_ble_eq_true rfl) ?_
 repeat' (simp -implicitDefEqProofs (disch := omega) only [L44, push_cast, Bool.and_self])
 simp [kEq, opsK, opsX, bs, mkS]
theorem ops_cmp (o : List UInt8) : (∀ k' ∈ opsK, kCmp (.string (mkS o)) k' = true) = True := by simp [opsK, kCmp]
def opL : List (List UInt8) := [[43], [45], [42], [47], [37], [61, 61], [33, 61], [60], [60, 61], [62], [62, 61], [97, 110, 100], [111, 114]]
theorem ops_add : mget (.string (mkS [43])) opsK opsX = some (.fn (.func 75) [] []) := rfl
theorem ops_sub : mget (.string (mkS [45])) opsK opsX = some (.fn (.func 76) [] []) := rfl
theorem ops_mul : mget (.string (mkS [42])) opsK opsX = some (.fn (.func 77) [] []) := rfl
theorem ops_quo : mget (.string (mkS [47])) opsK opsX = some (.fn (.func 78) [] []) := rfl
theorem ops_rem : mget (.string (mkS [37])) opsK opsX = some (.fn (.func 79) [] []) := rfl
theorem ops_eq : mget (.string (mkS [61, 61])) opsK opsX = some (.fn (.func 80) [] []) := rfl
theorem ops_ne : mget (.string (mkS [33, 61])) opsK opsX = some (.fn (.func 82) [] []) := rfl
theorem ops_lt : mget (.string (mkS [60])) opsK opsX = some (.fn (.func 83) [] []) := rfl
theorem ops_le : mget (.string (mkS [60, 61])) opsK opsX = some (.fn (.func 84) [] []) := rfl
theorem ops_gt : mget (.string (mkS [62])) opsK opsX = some (.fn (.func 85) [] []) := rfl
theorem ops_ge : mget (.string (mkS [62, 61])) opsK opsX = some (.fn (.func 86) [] []) := rfl
abbrev andS : List UInt8 := [97, 110, 100]
abbrev orS : List UInt8 := [111, 114]
abbrev ariS : List UInt8 := [43, 45, 42, 47, 37]
def binA (n f e : Int) : AV := .tup [int n, int f, int e]
section
variable {w a b : Int} {o : List UInt8} {k : FuncId}
theorem zBj (hw : wOk w) (hget : mget (.string (mkS o)) opsK opsX = some (.fn (.func k) [] [])) (h1 : ¬ o = andS) (h2 : ¬ o = orS) (H : zB) (h : ¬ inI w a ∨ ¬ inI w b) :
  zT 18 [int w, str o, int a, int b] H (binA 0 0 2) := by
 refine enter Tryz.func18 L18_ok (Nat.le_of_ble_eq_true rfl) ?_
 have hd : decide (wOk w) = true := by simp [hw]
 have e1 : decide (o = andS) = false := by simp [h1]
 have e2 : decide (o = orS) = false := by simp [h2]
 by_cases ha : inI w a
 ·have hb : ¬ inI w b := by simpa [ha] using h
  have e3 : decide (inI w a) = true := by simp [ha]
  have e4 : decide (inI w b) = false := by simp [hb]
  repeat' (first | refine zA (zBe _ _) ?_ | refine zA (zBy _) ?_ | refine zA (isIntC _ _ _) ?_ | simp -implicitDefEqProofs (disch := omega) only [L18, hd, ops_cmp, hget, e1, e2, e3, e4, push_cast, simprocAttr, ↓reduceIte])
  rfl
 ·have e3 : decide (inI w a) = false := by simp [ha]
  repeat' (first | refine zA (zBe _ _) ?_ | refine zA (zBy _) ?_ | refine zA (isIntC _ _ _) ?_ | simp -implicitDefEqProofs (disch := omega) only [L18, hd, ops_cmp, hget, e1, e2, e3, push_cast, simprocAttr, ↓reduceIte])
  rfl
theorem bin_go (hw : wOk w) (hget : mget (.string (mkS o)) opsK opsX = some (.fn (.func k) [] [])) (h1 : ¬ o = andS) (h2 : ¬ o = orS) (ha : inI w a) (hb : inI w b) (hz : b ≠ 0 ∨ (¬ o = [47] ∧ ¬ o = [37])) (f : Int)
  (hf : ∀ H, zT k [int a, int b] H (int f)) (hk : clL [int a, int b] = true) (hr : zCc f) (H : zB) :
  zT 18 [int w, str o, int a, int b] H (binA (if Lib.contains ariS o = true then wrF w f else f) 0 0) := by
 refine enter Tryz.func18 L18_ok (Nat.le_of_ble_eq_true rfl) ?_
 have hd : decide (wOk w) = true := by simp [hw]
 have e1 : decide (o = andS) = false := by simp [h1]
 have e2 : decide (o = orS) = false := by simp [h2]
 have e3 : decide (inI w a) = true := by simp [ha]
 have e4 : decide (inI w b) = true := by simp [hb]
 by_cases hb0 : b = 0
 ·have h3 : ¬ o = [47] ∧ ¬ o = [37] := by simpa [hb0] using hz
  have e5 : decide (o = [47]) = false := by simp [h3.1]
  have e6 : decide (o = [37]) = false := by simp [h3.2]
  cases hc : Lib.contains ariS o
  ·repeat' (first | refine zA (zBe _ _) ?_ | refine zA (zBy _) ?_ | refine zA (isIntC _ _ _) ?_ | refine zA (hf _) ?_ | refine zA (containsC ariS o (by decide) _) ?_ | simp -implicitDefEqProofs (disch := omega) only [L18, hd, ops_cmp, hget, e1, e2, e3, e4, e5, e6, hc, zAI, push_cast, simprocAttr, ↓reduceIte])
   rfl
  ·repeat' (first | refine zA (zBe _ _) ?_ | refine zA (zBy _) ?_ | refine zA (isIntC _ _ _) ?_ | refine zA (hf _) ?_ | refine zA (containsC ariS o (by decide) _) ?_ | refine zA (wrapC w f hr _) ?_ | simp -implicitDefEqProofs (disch := omega) only [L18, hd, ops_cmp, hget, e1, e2, e3, e4, e5, e6, hc, zAI, push_cast, simprocAttr, ↓reduceIte])
   rfl
 ·cases hc : Lib.contains ariS o
  ·repeat' (first | refine zA (zBe _ _) ?_ | refine zA (zBy _) ?_ | refine zA (isIntC _ _ _) ?_ | refine zA (hf _) ?_ | refine zA (containsC ariS o (by decide) _) ?_ | simp -implicitDefEqProofs (disch := omega) only [L18, hd, ops_cmp, hget, e1, e2, e3, e4, hc, zAu, push_cast, simprocAttr, ↓reduceIte])
   rfl
  ·repeat' (first | refine zA (zBe _ _) ?_ | refine zA (zBy _) ?_ | refine zA (isIntC _ _ _) ?_ | refine zA (hf _) ?_ | refine zA (containsC ariS o (by decide) _) ?_ | refine zA (wrapC w f hr _) ?_ | simp -implicitDefEqProofs (disch := omega) only [L18, hd, ops_cmp, hget, e1, e2, e3, e4, hc, zAu, push_cast, simprocAttr, ↓reduceIte])
   rfl
theorem bin_zero (hw : wOk w) (ho : o = [47] ∨ o = [37]) (ha : inI w a) (hb : inI w 0) (H : zB) : zT 18 [int w, str o, int a, int 0] H (binA 0 1 0) := by
 refine enter Tryz.func18 L18_ok (Nat.le_of_ble_eq_true rfl) ?_
 have hd : decide (wOk w) = true := by simp [hw]
 have e3 : decide (inI w a) = true := by simp [ha]
 have e4 : decide (inI w 0) = true := by simp [hb]
 rcases ho with rfl | rfl
 ·repeat' (first | refine zA (zBe _ _) ?_ | refine zA (zBy _) ?_ | refine zA (isIntC _ _ _) ?_ | simp -implicitDefEqProofs (disch := omega) only [L18, hd, ops_cmp, ops_quo, e3, e4, push_cast, simprocAttr, ↓reduceIte])
  rfl
 ·repeat' (first | refine zA (zBe _ _) ?_ | refine zA (zBy _) ?_ | refine zA (isIntC _ _ _) ?_ | simp -implicitDefEqProofs (disch := omega) only [L18, hd, ops_cmp, ops_rem, e3, e4, push_cast, simprocAttr, ↓reduceIte] | split)
  all_goals first | rfl | (exfalso; rename_i h; revert h; decide)
end
section
variable {w a : Int} {o : List UInt8}
theorem zCl (hw : wOk w) (h : inI w a) : -128 ≤ a ∧ a ≤ 127 := by
 unfold inI leF grF at h
 rw [if_pos hw, if_pos hw] at h
 rcases w_cases hw with rfl | rfl | rfl | rfl | rfl | rfl | rfl <;> simp [hf] at h <;> omega
end
def iR (n : Int) : List AV := [int n]
theorem intsC (l m : List Int) (hl : big l.length) (H : zB) : zT 11 [.sl 1 (l.map iR), .sl 1 (m.map iR)] H (bool (decide (l = m))) := by
 refine enter Tryz.func11 L11_ok (Nat.le_of_ble_eq_true rfl) ?_
 unfold big at hl
 by_cases hlen : l.length = m.length
 ·repeat' (simp -implicitDefEqProofs (disch := omega) only [L11, zAI, push_cast, simprocAttr, ↓reduceIte])
  refine zAL (fun (j : Nat) e' H' => e' 0 = .sl 1 (l.map iR) ∧ e' 1 = .sl 1 (m.map iR) ∧ e' 5 = int j ∧ H = H' ∧ j ≤ l.length ∧ l.take j = m.take j) (fun j => l.length - j) 0 ?_ ?_
  ·exact ⟨rfl, rfl, rfl, rfl, Nat.zero_le _, rfl⟩
  rintro j e' H' ⟨h0, h1, h5, rfl, hj, ht⟩
  by_cases hlt : j < l.length
  ·by_cases he : l.getD j default = m.getD j default
   ·repeat' (first | refine And.intro (by omega) ?_ | simp -implicitDefEqProofs (disch := omega) only [h0, h1, h5, zO, iR, he, zQ, push_cast, simprocAttr, ↓reduceIte])
    refine .mk (j + 1) ⟨h0, h1, rfl, rfl, hlt, ?_⟩ (by omega)
    rw [zCg hlt, zCg (by omega), ht, he]
   ·have hd : decide (l = m) = false := by
     simp only [decide_eq_false_iff_not]
     intro h; exact he (by rw [h])
    repeat' (first | refine And.intro (by omega) ?_ | simp -implicitDefEqProofs (disch := omega) only [h0, h1, h5, zO, iR, zQ, zAu, push_cast, simprocAttr, ↓reduceIte])
    rw [hd]
  ·have hd : decide (l = m) = true := by
    simp only [decide_eq_true_eq]
    have := ht
    rwa [List.take_of_length_le (by omega), List.take_of_length_le (by omega)] at this
   repeat' (simp -implicitDefEqProofs (disch := omega) only [h0, h5, zAh, push_cast, simprocAttr, ↓reduceIte])
   rw [hd]
 ·have hd : decide (l = m) = false := by
   simp only [decide_eq_false_iff_not]
   intro h; exact hlen (by rw [h])
  repeat' (simp -implicitDefEqProofs (disch := omega) only [L11, zAu, push_cast, simprocAttr, ↓reduceIte])
  rw [hd]
theorem intsC_nil (H : zB) : zT 11 [zAf, zAf] H (bool true) := by
 refine enter Tryz.func11 L11_ok (Nat.le_of_ble_eq_true rfl) ?_
 repeat' (simp -implicitDefEqProofs (disch := omega) only [L11, push_cast, simprocAttr, ↓reduceIte])
 refine zAL (fun (j : Nat) e' H' => e' 0 = zAf ∧ e' 1 = zAf ∧ e' 5 = int 0 ∧ H = H') (fun j => 0) 0 ?_ ?_
 ·exact ⟨rfl, rfl, rfl, rfl⟩
 rintro j e' H' ⟨h0, h1, h5, rfl⟩
 repeat' (simp -implicitDefEqProofs (disch := omega) only [h0, h5, push_cast, simprocAttr, ↓reduceIte])
def within (low high l : List Int) : Prop := low.length = l.length ∧ high.length = l.length ∧ ∀ i, i < l.length → low.getD i default ≤ l.getD i default ∧ l.getD i default ≤ high.getD i default
instance (low high l : List Int) : Decidable (within low high l) := inferInstanceAs (Decidable (_ ∧ _ ∧ _))
def nextA : Option (List Int) → AV
 | some l => .tup [.sl 1 (l.map iR), bool true]
 | none => .tup [zAf, bool false]
theorem bin_quo {w a b : Int} (hw : wOk w) (ha : inI w a) (hb : inI w b) (hz : b ≠ 0) (H : zB) : zT 18 [int w, str [47], int a, int b] H (binA (wrF w (a.tdiv b)) 0 0) := by
 have h1 := zCl hw ha
 have h2 : -128 ≤ a.tdiv b ∧ a.tdiv b ≤ 128 := by
  have := Int.natAbs_tdiv_le_natAbs a b
  omega
 have e : IntKind.i64.wrap (a.tdiv b) = a.tdiv b := zBC _ (by omega) (by omega)
 have := bin_go hw ops_quo (by decide) (by decide) ha hb (.inl hz) (a.tdiv b) (fun H => by rw [← e]; exact op_quo a b hz H) rfl (by unfold zCc; omega) H
 exact this
theorem bin_rem {w a b : Int} (hw : wOk w) (ha : inI w a) (hb : inI w b) (hz : b ≠ 0) (H : zB) : zT 18 [int w, str [37], int a, int b] H (binA (wrF w (a.tmod b)) 0 0) := by
 have h1 := zCl hw ha
 have h2 : -128 ≤ a.tmod b ∧ a.tmod b ≤ 128 := by
  have := Int.tmod_add_mul_tdiv a b
  have h3 : (a.tmod b).natAbs ≤ a.natAbs := by rw [Int.natAbs_tmod]; exact Nat.mod_le _ _
  omega
 have := bin_go hw ops_rem (by decide) (by decide) ha hb (.inl hz) (a.tmod b) (fun H => op_rem a b hz H) rfl (by unfold zCc; omega) H
 exact this
section
variable {w : Int}
theorem zCx (hw : wOk w) : 2 ≤ hf w ∧ hf w ≤ 128 := by
 rcases w_cases hw with rfl | rfl | rfl | rfl | rfl | rfl | rfl <;> simp [hf]
theorem zBF (hw : wOk w) (n : Int) : inI w n ↔ -hf w ≤ n ∧ n < hf w := by
 unfold inI leF grF
 rw [if_pos hw, if_pos hw]
 omega
theorem wrF_in (hw : wOk w) (n : Int) : inI w (wrF w n) := by
 rw [zBF hw]
 unfold wrF
 rw [if_pos hw]
 have h := zCx hw
 have h1 := Int.emod_nonneg (n + hf w) (b := 2 * hf w) (by omega)
 have h2 := Int.emod_lt_of_pos (n + hf w) (b := 2 * hf w) (by omega)
 omega
theorem wrF_mod (hw : wOk w) (n : Int) : ∃ k, wrF w n = n + k * (2 * hf w) := by
 unfold wrF
 rw [if_pos hw]
 refine ⟨-((n + hf w) / (2 * hf w)), ?_⟩
 have := Int.emod_add_mul_ediv (n + hf w) (2 * hf w)
 rw [Int.neg_mul, Int.mul_comm ((n + hf w) / (2 * hf w))]
 omega
theorem in_eq (hw : wOk w) {x y k : Int} (hx : inI w x) (hy : inI w y) (h : x = y + k * (2 * hf w)) : x = y := by
 rw [zBF hw] at hx hy
 have hp := zCx hw
 have hk : k = 0 := by
  rcases Int.lt_trichotomy k 0 with h1 | h1 | h1
  ·have : k * (2 * hf w) ≤ (-1) * (2 * hf w) := Int.mul_le_mul_of_nonneg_right (by omega) (by omega)
   omega
  ·exact h1
  ·have : 1 * (2 * hf w) ≤ k * (2 * hf w) := Int.mul_le_mul_of_nonneg_right (by omega) (by omega)
   omega
 subst hk
 omega
theorem wrF_id (hw : wOk w) {n : Int} (h : inI w n) : wrF w n = n := by
 obtain ⟨k, hk⟩ := wrF_mod hw n
 exact in_eq hw (wrF_in hw n) h hk
theorem wrF_congr (hw : wOk w) {x y k : Int} (h : x = y + k * (2 * hf w)) : wrF w x = wrF w y := by
 obtain ⟨a, ha⟩ := wrF_mod hw x
 obtain ⟨b, hb⟩ := wrF_mod hw y
 refine in_eq hw (k := a + k - b) (wrF_in hw x) (wrF_in hw y) ?_
 rw [ha, hb, h, Int.sub_mul, Int.add_mul]
 omega
theorem mul_small {a b : Int} (h1 : -128 ≤ a) (h2 : a ≤ 128) (h3 : -128 ≤ b) (h4 : b ≤ 128) : -16384 ≤ a * b ∧ a * b ≤ 16384 := by
 have h5 : (a * b).natAbs ≤ 128 * 128 := by
  rw [Int.natAbs_mul]
  exact Nat.mul_le_mul (by omega) (by omega)
 omega
variable {a b : Int}
theorem bin_add (hw : wOk w) (ha : inI w a) (hb : inI w b) (H : zB) : zT 18 [int w, str [43], int a, int b] H (binA (wrF w (a + b)) 0 0) := by
 have h1 := zCl hw ha
 have h2 := zCl hw hb
 have e : IntKind.i64.wrap (a + b) = a + b := zBC _ (by omega) (by omega)
 exact bin_go hw ops_add (by decide) (by decide) ha hb (.inr (by decide)) (a + b) (fun H => by have := op_add a b H; rwa [e] at this) rfl (by unfold zCc; omega) H
theorem bin_sub (hw : wOk w) (ha : inI w a) (hb : inI w b) (H : zB) : zT 18 [int w, str [45], int a, int b] H (binA (wrF w (a - b)) 0 0) := by
 have h1 := zCl hw ha
 have h2 := zCl hw hb
 have e : IntKind.i64.wrap (a - b) = a - b := zBC _ (by omega) (by omega)
 exact bin_go hw ops_sub (by decide) (by decide) ha hb (.inr (by decide)) (a - b) (fun H => by have := op_sub a b H; rwa [e] at this) rfl (by unfold zCc; omega) H
theorem bin_mul (hw : wOk w) (ha : inI w a) (hb : inI w b) (H : zB) : zT 18 [int w, str [42], int a, int b] H (binA (wrF w (a * b)) 0 0) := by
 have h1 := zCl hw ha
 have h2 := zCl hw hb
 have h3 := mul_small (a := a) (b := b) (by omega) (by omega) (by omega) (by omega)
 have e : IntKind.i64.wrap (a * b) = a * b := zBC _ (by omega) (by omega)
 exact bin_go hw ops_mul (by decide) (by decide) ha hb (.inr (by decide)) (a * b) (fun H => by have := op_mul a b H; rwa [e] at this) rfl (by unfold zCc; omega) H
theorem tmod_in (hw : wOk w) {x y : Int} (hx : inI w x) : inI w (x.tmod y) := by
 rw [zBF hw] at *
 have hp := zCx hw
 have h3 : (x.tmod y).natAbs ≤ x.natAbs := by rw [Int.natAbs_tmod]; exact Nat.mod_le _ _
 by_cases h : 0 ≤ x
 ·have := Int.tmod_nonneg y h
  omega
 ·have : x.tmod y ≤ 0 := by
   have := Int.tmod_nonneg y (a := -x) (by omega)
   rw [Int.neg_tmod] at this
   omega
  omega
end
inductive Ins where
 | mk (op a b : Int) (body els : List Ins)
instance : Inhabited Ins := ⟨.mk 0 0 0 [] []⟩
def Ins.op : Ins → Int | .mk o _ _ _ _ => o
def Ins.a : Ins → Int | .mk _ a _ _ _ => a
def Ins.b : Ins → Int | .mk _ _ b _ _ => b
def Ins.body : Ins → List Ins | .mk _ _ _ l _ => l
def Ins.els : Ins → List Ins | .mk _ _ _ _ l => l
mutual
def zAF : Ins → List AV
 | .mk o a b l m => [int o, int a, int b, .sl 5 (insRs l), .sl 5 (insRs m)]
def insRs : List Ins → List (List AV)
 | [] => []
 | x :: l => zAF x :: insRs l
end
theorem zAP : ∀ l : List Ins, insRs l = l.map zAF
 | [] => rfl
 | x :: l => by simp [insRs, zAP l]
theorem insR_eq (x : Ins) : zAF x = [int x.op, int x.a, int x.b, .sl 5 (x.body.map zAF), .sl 5 (x.els.map zAF)] := by
 cases x; simp [zAF, zAP, Ins.op, Ins.a, Ins.b, Ins.body, Ins.els]
mutual
def zBn : Ins → Nat
 | .mk _ _ _ l m => zK l + zK m + 1
def zK : List Ins → Nat
 | [] => 0
 | x :: l => zBn x + zK l
end
mutual
def zCq : Ins → Nat
 | .mk _ _ _ l m => max (zAC l) (zAC m) + 1
def zAC : List Ins → Nat
 | [] => 0
 | x :: l => max (zCq x) (zAC l)
end
theorem icnt_eq (x : Ins) : zBn x = zK x.body + zK x.els + 1 := by cases x; rfl
theorem ilev_eq (x : Ins) : zCq x = max (zAC x.body) (zAC x.els) + 1 := by cases x; rfl
theorem icnt_pos (x : Ins) : 0 < zBn x := by rw [icnt_eq]; omega
theorem icnts_append : ∀ a b : List Ins, zK (a ++ b) = zK a + zK b
 | [], b => by simp [zK]
 | x :: a, b => by simp only [List.cons_append, zK, icnts_append a b]; omega
theorem ilevs_append : ∀ a b : List Ins, zAC (a ++ b) = max (zAC a) (zAC b)
 | [], b => by simp [zAC]
 | x :: a, b => by simp only [List.cons_append, zAC, ilevs_append a b]; omega
theorem icnts_mem {x : Ins} : ∀ {l : List Ins}, x ∈ l → zBn x ≤ zK l
 | y :: l, h => by
  simp only [zK]
  rcases List.mem_cons.1 h with rfl | h
  ·omega
  ·have := icnts_mem h; omega
theorem zM : ∀ l : List Ins, l.length ≤ zK l
 | [] => by simp
 | x :: l => by have := zM l; have := icnt_pos x; simp only [zK, List.length_cons]; omega
mutual
theorem ilev_le : ∀ x : Ins, zCq x ≤ zBn x
 | .mk _ _ _ l m => by simp only [zCq, zBn]; have := zAb l; have := zAb m; omega
theorem zAb : ∀ l : List Ins, zAC l ≤ zK l
 | [] => Nat.le_refl _
 | x :: l => by simp only [zAC, zK]; have := ilev_le x; have := zAb l; omega
end
theorem zAi {l : List Ins} {j : Nat} (h : j < l.length) : zK (l.take (j + 1)) = zK (l.take j) + zBn (l.getD j default) := by
 rw [zCg h, icnts_append]; simp [zK]
theorem zAH {l : List Ins} {j : Nat} (h : j < l.length) : zAC (l.take (j + 1)) = max (zAC (l.take j)) (zCq (l.getD j default)) := by
 rw [zCg h, ilevs_append]; simp [zAC]
theorem zAm (l : List Ins) (j : Nat) : zK (l.take j) ≤ zK l := by
 have h := icnts_append (l.take j) (l.drop j)
 rw [List.take_append_drop] at h
 omega
theorem Ins.indL {p : List Ins → Prop} (h : ∀ l, (∀ x ∈ l, p x.body ∧ p x.els) → p l) (l : List Ins) : p l := by
 have aux : ∀ (c : Nat) (l : List Ins), zK l ≤ c → p l := by
  intro c
  induction c with
  | zero =>
   intro l hl
   refine h l fun x hx => ?_
   have := icnts_mem hx; have := icnt_pos x; omega
  | succ c ih =>
   intro l hl
   refine h l fun x hx => ?_
   have h1 := icnts_mem hx
   rw [icnt_eq] at h1
   exact ⟨ih _ (by omega), ih _ (by omega)⟩
 exact aux _ l (Nat.le_refl _)
structure Pr where
 name : List UInt8
 par : Int
 slots : Int
 res : Int
 outs : List Int
 body : List Ins
instance : Inhabited Pr := ⟨⟨[], 0, 0, 0, [], []⟩⟩
def prR (q : Pr) : List AV := [str q.name, int q.par, int q.slots, int q.res, .sl 1 (q.outs.map iR), .sl 5 (q.body.map zAF)]
abbrev zBm (ps : List Pr) : AV := .sl 6 (ps.map prR)
def zBB : List Pr → Nat
 | [] => 0
 | q :: l => zK q.body + zBB l
theorem pcnts_append : ∀ a b : List Pr, zBB (a ++ b) = zBB a + zBB b
 | [], b => by simp [zBB]
 | x :: a, b => by simp only [List.cons_append, zBB, pcnts_append a b]; omega
theorem zCI {l : List Pr} {j : Nat} (h : j < l.length) : zBB (l.take (j + 1)) = zBB (l.take j) + zK (l.getD j default).body := by
 rw [zCg h, pcnts_append]; simp [zBB]
structure Pr.Sml (q : Pr) : Prop where
 nm : q.name.length ≤ 1048576
 os : q.outs.length ≤ 1048576
 bd : zK q.body ≤ 1048576
structure CodeSml (ps : List Pr) : Prop where
 len : ps.length ≤ 1048576
 cnt : zBB ps ≤ 1048576
 each : ∀ q ∈ ps, q.Sml
inductive Ins.Ok : Ins → Prop
 | mk {x : Ins} : zCc x.op → zCc x.a → zCc x.b → (∀ y ∈ x.body, Ins.Ok y) → (∀ y ∈ x.els, Ins.Ok y) → x.Ok
structure Pr.Ok (q : Pr) : Prop where
 par : zCc q.par
 slots : zCc q.slots
 res : zCc q.res
 outs : ∀ n ∈ q.outs, zCc n
 body : ∀ x ∈ q.body, x.Ok
theorem c_intC : Tryz.prog.cellsOf 3 = 1 := by kernel_rfl
def L118 : LFn := ⟨18,[(.tmp 4)],(sO [oX 4 (.mv (kB false))] (.seq (sO [oC 5 0] (.block 0 (.loop (.seq (sO [oM 6 5,oM 7 0,oX 8 (.len .slc (.t 7)),oB 9 .lss 6 8] (cD 9 .skip (.exit 0))) (.seq (.block 1 (sO [oM 12 0,oM 13 5,oI 14 1 12 13,oL 15 14,oM 16 1,oX 17 (.bin .str .eql (.t 15) (.t 16))] (cD 17 (sO [oX 4 (.mv (kB true))] .ret) .skip))) (.ops [oM 10 5,oV 11 .add 10 1,oM 5 11])))))) (sO [oX 4 (.mv (kB false))] .ret)))⟩
theorem L118_ok : zY Tryz.prog Tryz.f118 [] = some L118 := by kernel_rfl
def L128 : LFn := ⟨25,[(.tmp 2)],(sO [oX 2 (.mv (kB false))] (.seq (sO [oM 3 0,oX 4 (.bin .str .eql (.t 3) (.c s0)),oM 5 4,oW 6 5 0,oF 7 5 (.len .str (.t 6)),oF 8 5 (bI .gtr (.t 7) (kI 16)),oP 9 5 (kB true) (.t 8),oM 10 9,oW 11 10 0,oF 12 10 (.idx (.t 11) (kI 0)),oF 13 10 (y1 171 12),oF 14 10 (.not (.t 13)),oP 15 10 (kB true) (.t 14),oM 16 15,oW 17 16 0,oF 18 16 (y1 172 17),oP 19 16 (kB true) (.t 18)] (cD 19 (sO [oX 2 (.mv (kB false))] .ret) .skip)) (sO [oM 20 0,oX 21 (cF 173 [(.t 20),(kI 0),(.c (.fn (.func 174) [] []))]),oM 22 0,oX 23 (.len .str (.t 22)),oB 24 .eql 21 23,oM 2 24] .ret)))⟩
theorem L128_ok : zY Tryz.prog Tryz.f128 [] = some L128 := by kernel_rfl
def L171 : LFn := ⟨9,[(.tmp 2)],(sO [oX 2 (.mv (kB false))] (sO [oM 3 0,oX 4 (bI .geq (.t 3) (.c (.v (.int .u8 97)))),oM 5 4,oU 6 5 0,oT 7 5 (bI .leq (.t 6) (.c (.v (.int .u8 122)))),oP 8 5 (.t 7) (kB false),oM 2 8] .ret))⟩
theorem L171_ok : zY Tryz.prog Tryz.f171 [] = some L171 := by kernel_rfl
def L172 : LFn := ⟨6,[(.tmp 2)],(sO [oX 2 (.mv (kB false))] (sO [oX 3 (y0 222),oM 4 0,oX 5 (.look .str (.v (.bool false)) false (.t 3) (.t 4)),oM 2 5] .ret))⟩
theorem L172_ok : zY Tryz.prog Tryz.f172 [] = some L172 := by kernel_rfl
def L173 : LFn := ⟨21,[(.tmp 6)],(sO [oC 6 0] (.seq (.block 0 (.loop (.seq (sO [oM 7 1,oM 8 0,oX 9 (.len .str (.t 8)),oB 10 .lss 7 9,oM 11 10,oU 12 11 2,oU 13 11 0,oU 14 11 1,oT 15 11 (.idx (.t 13) (.t 14)),oT 16 11 (.call (.t 12) [(.t 15)]),oP 17 11 (.t 16) (kB false)] (cD 17 .skip (.exit 0))) (.block 1 (.ops [oM 18 1,oV 19 .add 18 1,oM 1 19]))))) (sO [oM 20 1,oM 6 20] .ret)))⟩
theorem L173_ok : zY Tryz.prog Tryz.f173 [] = some L173 := by kernel_rfl
def L174 : LFn := ⟨13,[(.tmp 2)],(sO [oX 2 (.mv (kB false))] (sO [oM 3 0,oX 4 (y1 171 3),oM 5 4,oW 6 5 0,oF 7 5 (y1 175 6),oP 8 5 (kB true) (.t 7),oM 9 8,oW 10 9 0,oF 11 9 (bI .eql (.t 10) (.c (.v (.int .u8 95)))),oP 12 9 (kB true) (.t 11),oM 2 12] .ret))⟩
theorem L174_ok : zY Tryz.prog Tryz.f174 [] = some L174 := by kernel_rfl
def L175 : LFn := ⟨9,[(.tmp 2)],(sO [oX 2 (.mv (kB false))] (sO [oM 3 0,oX 4 (bI .geq (.t 3) (.c (.v (.int .u8 48)))),oM 5 4,oU 6 5 0,oT 7 5 (bI .leq (.t 6) (.c (.v (.int .u8 57)))),oP 8 5 (.t 7) (kB false),oM 2 8] .ret))⟩
theorem L175_ok : zY Tryz.prog Tryz.f175 [] = some L175 := by kernel_rfl
def L222 : LFn := ⟨3,[(.tmp 0)],(sO [oX 0 (.mv (.c (.v (.map none))))] (sO [⟨(some 1),none,.mkmap⟩,oN (.ins .str (.t 1) (.c (.v (.string (mkS [114,101,99,111,114,100])))) (kB true)),oN (.ins .str (.t 1) (.c (.v (.string (mkS [112,114,111,99])))) (kB true)),oN (.ins .str (.t 1) (.c (.v (.string (mkS [118,97,114])))) (kB true)),oN (.ins .str (.t 1) (.c (.v (.string (mkS [105,102])))) (kB true)),oN (.ins .str (.t 1) (.c (.v (.string (mkS [101,108,115,101])))) (kB true)),oN (.ins .str (.t 1) (.c (.v (.string (mkS [119,104,105,108,101])))) (kB true)),oN (.ins .str (.t 1) (.c (.v (.string (mkS [102,111,114])))) (kB true)),oN (.ins .str (.t 1) (.c (.v (.string (mkS [116,111])))) (kB true)),oN (.ins .str (.t 1) (.c (.v (.string (mkS [114,101,116,117,114,110])))) (kB true)),oN (.ins .str (.t 1) (.c (.v (.string (mkS [97,115,115,101,114,116])))) (kB true)),oN (.ins .str (.t 1) (.c (.v (.string (mkS [97,110,100])))) (kB true)),oN (.ins .str (.t 1) (.c (.v (.string (mkS [111,114])))) (kB true)),oN (.ins .str (.t 1) (.c (.v (.string (mkS [110,111,116])))) (kB true)),oN (.ins .str (.t 1) (.c (.v (.string (mkS [116,114,117,101])))) (kB true)),oN (.ins .str (.t 1) (.c (.v (.string (mkS [102,97,108,115,101])))) (kB true)),oN (.ins .str (.t 1) (.c (.v (.string (mkS [105,110,116])))) (kB true)),oN (.ins .str (.t 1) (.c (.v (.string (mkS [98,111,111,108])))) (kB true)),oN (.ins .str (.t 1) (.c (.v (.string (mkS [108,101,110])))) (kB true)),oM 2 1,oM 0 2,oX 0 (.frz (.t 0))] .ret))⟩
theorem L222_ok : zY Tryz.prog Tryz.f222 [⟨1,21,(.pre 0 (.frz (.t 0)))⟩] = some L222 := by kernel_rfl
abbrev by8 (c : UInt8) : AV := u8 c.toNat
def isL (c : UInt8) : Bool := decide (97 ≤ c.toNat) && decide (c.toNat ≤ 122)
def isD (c : UInt8) : Bool := decide (48 ≤ c.toNat) && decide (c.toNat ≤ 57)
def isN (c : UInt8) : Bool := isL c || isD c || decide (c.toNat = 95)
abbrev Comp (k : FuncId) (args : List AV) (H : zB) (x : AV) : Prop := ACall Tryz.prog k args H fun y H' => y = x ∧ H' = H
theorem letter (c : UInt8) (H : zB) : Comp 171 [by8 c] H (bool (isL c)) := by
 refine enter Tryz.func171 L171_ok (Nat.le_of_ble_eq_true rfl) ?_
 repeat' (first | simp -implicitDefEqProofs (disch := omega) only [L171, push_cast, simprocAttr, ↓reduceIte] | split)
 all_goals (refine bool_eq ?_; simp [isL] <;> omega)
theorem digit (c : UInt8) (H : zB) : Comp 175 [by8 c] H (bool (isD c)) := by
 refine enter Tryz.func175 L175_ok (Nat.le_of_ble_eq_true rfl) ?_
 repeat' (first | simp -implicitDefEqProofs (disch := omega) only [L175, push_cast, simprocAttr, ↓reduceIte] | split)
 all_goals (refine bool_eq ?_; simp [isD] <;> omega)
theorem nameC (c : UInt8) (H : zB) : Comp 174 [by8 c] H (bool (isN c)) := by
 refine enter Tryz.func174 L174_ok (Nat.le_of_ble_eq_true rfl) ?_
 repeat' (first | refine zA (letter _ _) ?_ | refine zA (digit _ _) ?_ | simp -implicitDefEqProofs (disch := omega) only [L174, push_cast, simprocAttr, ↓reduceIte] | split)
 all_goals (refine bool_eq ?_; simp_all [isN] <;> omega)
def runF (p : UInt8 → Bool) (l : List UInt8) (i : Nat) : Nat := i + ((l.drop i).takeWhile p).length
theorem runF_step {p : UInt8 → Bool} {l : List UInt8} {i : Nat} (h : i < l.length) (hp : p (l.getD i 0) = true) : runF p l (i + 1) = runF p l i := by
 simp only [runF]
 rw [List.drop_eq_getElem_cons h, List.takeWhile_cons]
 simp [List.getD, h] at hp
 simp [hp]; omega
theorem runF_stop {p : UInt8 → Bool} {l : List UInt8} {i : Nat} (h : i < l.length → p (l.getD i 0) = false) : runF p l i = i := by
 simp only [runF]
 by_cases hi : i < l.length
 ·have := h hi
  rw [List.drop_eq_getElem_cons hi, List.takeWhile_cons]
  simp [List.getD, hi] at this
  simp [this]
 ·simp [List.drop_eq_nil_of_le (Nat.le_of_not_lt hi)]
theorem run (l : List UInt8) (i : Nat) (p : UInt8 → Bool) (f : FuncId) (H : zB) (hl : (l.length : Int) < 9223372036854775807) (hi : i ≤ l.length)
  (hp : ∀ c : UInt8, Comp f [by8 c] H (bool (p c))) :
  Comp 173 [str l, int i, .fn (.func f) [] []] H (int (runF p l i)) := by
 refine enter Tryz.func173 L173_ok (Nat.le_of_ble_eq_true rfl) ?_
 simp -implicitDefEqProofs (disch := omega) only [L173, push_cast, simprocAttr, ↓reduceIte, Bool.and_self]
 refine rk_loop (fun e' H' => ∃ j : Nat, e' 0 = str l ∧ e' 1 = int j ∧ e' 2 = .fn (.func f) [] [] ∧ H' = H ∧ j ≤ l.length ∧ runF p l j = runF p l i) (fun e' _ => match e' 1 with | .v (.int _ n) => l.length - n.toNat | _ => 0) ⟨i, by simp -implicitDefEqProofs (disch := omega) only [push_cast, simprocAttr, ↓reduceIte, Bool.and_self], by simp -implicitDefEqProofs (disch := omega) only [push_cast, simprocAttr, ↓reduceIte, Bool.and_self], by simp -implicitDefEqProofs (disch := omega) only [push_cast, simprocAttr, ↓reduceIte, Bool.and_self], rfl, hi, rfl⟩ ?_
 rintro e' H' ⟨j, h0, h1, h2, rfl, hj, hr⟩
 repeat' (first | refine And.intro (by omega) ?_ | refine zA (hp _) ?_ | simp -implicitDefEqProofs (disch := omega) only [h0, h1, h2, push_cast, simprocAttr, ↓reduceIte] | split)
 ·exact ⟨⟨j + 1, by simp, by omega, by rw [runF_step (by omega) ‹_›]; exact hr⟩, by omega⟩
 ·rename_i h3
  rw [← hr, runF_stop fun _ => Bool.eq_false_iff.2 h3]
 ·rw [← hr, runF_stop fun _ => by omega]
def strs (ls : List (List UInt8)) : List (List AV) := ls.map fun s => [str s]
theorem strs_getD {ls : List (List UInt8)} {j : Nat} (h : j < ls.length) : (strs ls).getD j [] = [str (ls.getD j [])] := by
 simp [strs, List.getD_eq_getElem?_getD, h]
theorem strs_len (ls : List (List UInt8)) : (strs ls).length = ls.length := by simp [strs]
theorem take_mem {α : Type} {ls : List α} {s : α} {j : Nat} (hj : j < ls.length) (h : s ∉ ls.take j) (hne : ls[j] ≠ s) : s ∉ ls.take (j + 1) := by
 rw [List.take_succ_eq_append_getElem hj]
 simp only [List.mem_append, List.mem_singleton, not_or]
 exact ⟨h, fun h => hne h.symm⟩
theorem hasR (ls : List (List UInt8)) (s : List UInt8) (H : zB) (hl : (ls.length : Int) < 9223372036854775807) : Comp 118 [.sl 1 (strs ls), str s] H (bool (decide (s ∈ ls))) := by
 refine enter Tryz.func118 L118_ok (Nat.le_of_ble_eq_true rfl) ?_
 simp -implicitDefEqProofs (disch := omega) only [L118, push_cast, simprocAttr, ↓reduceIte, Bool.and_self]
 refine rk_loop (fun e' H' => ∃ j : Nat, e' 0 = .sl 1 (strs ls) ∧ e' 1 = str s ∧ e' 5 = int j ∧ H' = H ∧ j ≤ ls.length ∧ s ∉ ls.take j) (fun e' _ => match e' 5 with | .v (.int _ n) => ls.length - n.toNat | _ => 0) ⟨0, by simp -implicitDefEqProofs (disch := omega) only [push_cast, simprocAttr, ↓reduceIte, Bool.and_self], by simp -implicitDefEqProofs (disch := omega) only [push_cast, simprocAttr, ↓reduceIte, Bool.and_self], by simp -implicitDefEqProofs (disch := omega) only [Int.natCast_zero, push_cast, simprocAttr, ↓reduceIte, Bool.and_self], rfl, Nat.zero_le _, by simp⟩ ?_
 rintro e' H' ⟨j, h0, h1, h2, rfl, hj, hr⟩
 repeat' (first | refine And.intro (by omega) ?_ | simp -implicitDefEqProofs (disch := omega) only [h0, h1, h2, strs_len, strs_getD, push_cast, simprocAttr, ↓reduceIte] | split)
 ·rename_i h3 h4
  refine bool_eq ⟨fun _ => decide_eq_true ?_, fun _ => rfl⟩
  rw [← h4]
  simp [List.getD_eq_getElem?_getD, show j < ls.length by omega]
 ·rename_i h3 h4
  have hlt : j < ls.length := by omega
  refine ⟨⟨j + 1, by simp, by omega, take_mem hlt hr ?_⟩, by omega⟩
  simpa [List.getD_eq_getElem?_getD, hlt] using h4
 ·rename_i h3
  rw [List.take_of_length_le (by omega)] at hr
  simp [hr]
def kwL : List (List UInt8) := [[114, 101, 99, 111, 114, 100], [112, 114, 111, 99], [118, 97, 114], [105, 102], [101, 108, 115, 101], [119, 104, 105, 108, 101], [102, 111, 114], [116, 111], [114, 101, 116, 117, 114, 110], [97, 115, 115, 101, 114, 116], [97, 110, 100], [111, 114], [110, 111, 116], [116, 114, 117, 101], [102, 97, 108, 115, 101], [105, 110, 116], [98, 111, 111, 108], [108, 101, 110]]
def isK (s : List UInt8) : Bool := decide (s ∈ kwL)
theorem keywords (H : zB) : Comp 222 [] H (.mp (kwL.map fun s => .string (mkS s)) (kwL.map fun _ => bool true)) := by
 refine (ACall.drop (R := fun x => x = .mp (kwL.map fun s => .string (mkS s)) (kwL.map fun _ => bool true)) ?_)
 refine enter Tryz.func222 L222_ok (Nat.le_of_ble_eq_true rfl) ?_
 simp -implicitDefEqProofs (disch := omega) only [L222, push_cast, simprocAttr, ↓reduceIte, Bool.and_self]
 simp [kEq, bs_mkS, kwL]
theorem mget_strs (s : List UInt8) : ∀ ls : List (List UInt8), mget (.string (mkS s)) (ls.map fun s => .string (mkS s)) (ls.map fun _ => bool true) = if s ∈ ls then some (bool true) else none
 | [] => by simp [mget]
 | x :: l => by
  simp only [List.map_cons, mget, kEq, bs_mkS, beq_iff_eq, List.mem_cons]
  by_cases h : s = x
  ·simp [h]
  ·simp [h, mget_strs s l]
theorem keyword (s : List UInt8) (H : zB) : Comp 172 [str s] H (bool (isK s)) := by
 refine enter Tryz.func172 L172_ok (Nat.le_of_ble_eq_true rfl) ?_
 simp -implicitDefEqProofs (disch := omega) only [L172, push_cast, simprocAttr, ↓reduceIte, Bool.and_self]
 refine zA (keywords H) ?_
 simp -implicitDefEqProofs (disch := omega) only [mget_strs, push_cast, simprocAttr, ↓reduceIte, Bool.and_self]
 refine ⟨fun k hk => ?_, ?_⟩
 ·obtain ⟨x, _, rfl⟩ := List.mem_map.1 hk; rfl
 ·unfold isK
  by_cases h : s ∈ kwL <;> simp [h, lookV]
structure Tok where
 kind : Nat
 fr : Nat
 at_ : Nat
 en : Nat
def isName (s : List UInt8) : Bool := decide (1 ≤ s.length) && decide (s.length ≤ 16) && isL (s.getD 0 0) && !isK s && decide (runF isN s 0 = s.length)
theorem isName_iff {s : List UInt8} : isName s = true ↔ 1 ≤ s.length ∧ s.length ≤ 16 ∧ isL (s.getD 0 0) = true ∧ isK s = false ∧ runF isN s 0 = s.length := by
 simp only [isName, Bool.and_eq_true, decide_eq_true_eq, Bool.not_eq_true', and_assoc]
theorem noName {s : List UInt8} (h : 1 ≤ s.length → s.length ≤ 16 → isL (s.getD 0 0) = true → isK s = false → False) : AV.v (.bool false) = bool (isName s) := by
 rw [show isName s = false from Bool.eq_false_iff.2 fun hh => by rw [isName_iff] at hh; exact h hh.1 hh.2.1 hh.2.2.1 hh.2.2.2.1]
theorem nameLx (s : List UInt8) (H : zB) (hs : (s.length : Int) < 9223372036854775806) : Comp 128 [str s] H (bool (isName s)) := by
 refine enter Tryz.func128 L128_ok (Nat.le_of_ble_eq_true rfl) ?_
 have hne : s = [] ↔ s.length = 0 := by simp
 repeat' (first | refine And.intro (by omega) ?_ | refine zA (run s 0 isN 174 _ (by omega) (by omega) fun c => nameC c _) ?_ | refine zA (letter _ _) ?_ | refine zA (keyword _ _) ?_ | simp -implicitDefEqProofs (disch := omega) only [L128, hne, push_cast, simprocAttr, ↓reduceIte] | split)
 all_goals first
  | exact noName fun h1 h2 h3 h4 => by first | omega | (simp_all; done)
  | skip
 refine bool_eq ?_
 rw [isName_iff, decide_eq_true_eq]
 exact ⟨fun h => ⟨by omega, by omega, by simpa using ‹¬ isL _ = false›, by simpa using ‹¬ isK _ = true›, by omega⟩, fun h => by omega⟩
def outsN (q : Pr) : Int := if 0 ≤ q.res then q.res else q.outs.length
def zV (slots o a b : Int) (e : Bool) : Prop :=
 0 ≤ o ∧ o ≤ 22 ∧ (o = 18 ∨ o = 19 ∨ e = true) ∧ (o = 0 → 0 ≤ a ∧ a ≤ 999999999 ∧ b = 0) ∧ (o = 1 ∨ o = 2 → 0 ≤ a ∧ a < slots ∧ b = 0) ∧
 (o = 3 ∨ o = 4 → 0 ≤ a ∧ 1 ≤ b ∧ a < slots ∧ b ≤ slots - a) ∧ (o = 20 → b = 0) ∧ (5 ≤ o ∧ ¬ o = 20 → a = 0 ∧ b = 0)
instance (slots o a b : Int) (e : Bool) : Decidable (zV slots o a b e) := by unfold zV; infer_instance
def chg (h n c : Int) : Option Int := if n ≤ h ∧ h + c ≤ 1024 then some (h + c) else none
def effS (ps : List Pr) (k : Nat) (o a : Int) (out : Bool) (h : Int) : Option Int :=
 if o = 0 ∨ o = 1 then chg h 0 1
 else if o = 2 ∨ o = 22 then chg h 1 (-1)
 else if o = 3 ∨ o = 16 ∨ o = 17 then chg h 1 0
 else if o = 4 then chg h 2 (-2)
 else if o = 20 then (if 0 ≤ a ∧ a < k then chg h (ps.getD a.toNat default).par (outsN (ps.getD a.toNat default) - (ps.getD a.toNat default).par) else none)
 else if o = 21 then (if out = true ∧ h = max (ps.getD k default).res 0 then chg h 0 (-h) else none)
 else chg h 2 (-1)
mutual
def zBR (ps : List Pr) (k : Nat) : Ins → Bool → Int → Option Int
 | .mk o a b l m, out, h =>
  if zV (ps.getD k default).slots o a b (l.isEmpty && m.isEmpty) then
   if o = 18 then
    if 1 ≤ h then
     match zBQ ps k l (out && decide (h = 1)) 0, zBQ ps k m (out && decide (h = 1)) 0 with
     | some e, some e' => if e = e' then chg h 0 (e - 1) else none
     | _, _ => none
    else none
   else if o = 19 then
    if out = true ∧ h = 0 ∧ zBQ ps k m false 0 = some 1 ∧ zBQ ps k l true 0 = some 0 then some h else none
   else effS ps k o a out h
  else none
def zBQ (ps : List Pr) (k : Nat) : List Ins → Bool → Int → Option Int
 | [], _, h => some h
 | x :: l, out, h => match zBR ps k x out h with
  | some h' => zBQ ps k l out h'
  | none => none
end
theorem effI_eq (ps : List Pr) (k : Nat) (x : Ins) (out : Bool) (h : Int) : zBR ps k x out h =
  if zV (ps.getD k default).slots x.op x.a x.b (x.body.isEmpty && x.els.isEmpty) then
   if x.op = 18 then
    if 1 ≤ h then
     match zBQ ps k x.body (out && decide (h = 1)) 0, zBQ ps k x.els (out && decide (h = 1)) 0 with
     | some e, some e' => if e = e' then chg h 0 (e - 1) else none
     | _, _ => none
    else none
   else if x.op = 19 then
    if out = true ∧ h = 0 ∧ zBQ ps k x.els false 0 = some 1 ∧ zBQ ps k x.body true 0 = some 0 then some h else none
   else effS ps k x.op x.a out h
  else none := by
 cases x; simp only [zBR]; rfl
theorem effL_cons (ps : List Pr) (k : Nat) (x : Ins) (l : List Ins) (out : Bool) (h : Int) : zBQ ps k (x :: l) out h = (zBR ps k x out h).bind fun h' => zBQ ps k l out h' := by
 simp only [zBQ]
 cases zBR ps k x out h <;> rfl
theorem zAT (ps : List Pr) (k : Nat) {l : List Ins} {j : Nat} (hj : j < l.length) (out : Bool) (h : Int) : zBQ ps k (l.drop j) out h = (zBR ps k (l.getD j default) out h).bind fun h' => zBQ ps k (l.drop (j + 1)) out h' := by
 rw [drop_cons hj, effL_cons]
def zBU (ps : List Pr) (k : Nat) : Prop := ∀ j, j < k → 0 ≤ (ps.getD j default).par ∧ (ps.getD j default).par ≤ 1024 ∧ (ps.getD j default).res ≤ 128 ∧ (ps.getD j default).outs.length ≤ 128
theorem outsN_ok {q : Pr} (h1 : q.res ≤ 128) (h2 : q.outs.length ≤ 128) : 0 ≤ outsN q ∧ outsN q ≤ 128 := by
 unfold outsN; split <;> omega
theorem zA9 {h n c h' : Int} (hc : chg h n c = some h') : n ≤ h ∧ h' = h + c ∧ h' ≤ 1024 := by
 unfold chg at hc
 split at hc
 ·simp only [Option.some.injEq] at hc; omega
 ·cases hc
theorem effS_range {ps : List Pr} {k : Nat} (hp : zBU ps k) {o a : Int} {out : Bool} {h h' : Int} (h0 : 0 ≤ h) (he : effS ps k o a out h = some h') : 0 ≤ h' ∧ h' ≤ 1024 := by
 unfold effS at he
 split at he
 ·have := zA9 he; omega
 split at he
 ·have := zA9 he; omega
 split at he
 ·have := zA9 he; omega
 split at he
 ·have := zA9 he; omega
 split at he
 ·split at he
  ·rename_i hh
   have h1 := hp a.toNat (by omega)
   have h2 := outsN_ok h1.2.2.1 h1.2.2.2
   have := zA9 he; omega
  ·cases he
 split at he
 ·split at he
  ·have := zA9 he; omega
  ·cases he
 ·have := zA9 he; omega
mutual
theorem effI_range {ps : List Pr} {k : Nat} (hp : zBU ps k) : ∀ (x : Ins) (out : Bool) (h h' : Int), 0 ≤ h → h ≤ 1024 → zBR ps k x out h = some h' → 0 ≤ h' ∧ h' ≤ 1024
 | .mk o a b l m, out, h, h', h0, h1, he => by
  simp only [zBR] at he
  split at he
  ·split at he
   ·split at he
    ·split at he
     ·rename_i e e' he1 he2
      have g := zBl hp l _ 0 e (by omega) (by omega) he1
      split at he
      ·have := zA9 he; omega
      ·cases he
     ·cases he
    ·cases he
   ·split at he
    ·split at he
     ·simp only [Option.some.injEq] at he; omega
     ·cases he
    ·exact effS_range hp h0 he
  ·cases he
theorem zBl {ps : List Pr} {k : Nat} (hp : zBU ps k) : ∀ (l : List Ins) (out : Bool) (h h' : Int), 0 ≤ h → h ≤ 1024 → zBQ ps k l out h = some h' → 0 ≤ h' ∧ h' ≤ 1024
 | [], out, h, h', h0, h1, he => by simp only [zBQ, Option.some.injEq] at he; omega
 | x :: l, out, h, h', h0, h1, he => by
  simp only [zBQ] at he
  split at he
  ·rename_i g hg
   have := effI_range hp x out h g h0 h1 hg
   exact zBl hp l out g h' (by omega) (by omega) he
  ·cases he
end
theorem effI_nn {ps : List Pr} {k : Nat} (hp : zBU ps k) (x : Ins) (out : Bool) (h h' : Int) (h0 : 0 ≤ h) (he : zBR ps k x out h = some h') : 0 ≤ h' := by
 rw [effI_eq] at he
 split at he
 ·split at he
  ·split at he
   ·split at he
    ·rename_i e e' he1 he2
     have g := zBl hp x.body _ 0 e (by omega) (by omega) he1
     split at he
     ·have := zA9 he; omega
     ·cases he
    ·cases he
   ·cases he
  ·split at he
   ·split at he
    ·simp only [Option.some.injEq] at he; omega
    ·cases he
   ·exact (effS_range hp h0 he).1
 ·cases he
def zCD (q : Pr) : Prop := 0 ≤ q.par ∧ q.par ≤ q.slots ∧ q.slots ≤ 1024 ∧ -1 ≤ q.res ∧ q.res ≤ 128 ∧ q.outs.length ≤ 128 ∧ (q.res = -1 ∨ q.outs = []) ∧ ∀ s ∈ q.outs, 0 ≤ s ∧ s < q.slots
def prP (ps : List Pr) (k : Nat) : Prop := (isName (ps.getD k default).name = true ∧ ∀ j, j < k → ¬ (ps.getD j default).name = (ps.getD k default).name) ∧ zCD (ps.getD k default) ∧
 zBB (ps.take (k + 1)) ≤ 32768 ∧ zAC (ps.getD k default).body ≤ 256 ∧ zBQ ps k (ps.getD k default).body true 0 = some 0
def zBw (ps : List Pr) : Prop := ps.length ≤ 8 ∧ ∀ k, k < ps.length → prP ps k
theorem prsOk_of {ps : List Pr} {k : Nat} (h : ∀ j, j < k → prP ps j) : zBU ps k := fun j hj => by
 obtain ⟨_, ⟨h1, h2, h3, h4, h5, h6, _⟩, _⟩ := h j hj
 exact ⟨h1, by omega, h5, h6⟩
mutual
def costI (known : List Int) (L : Int) : Ins → Int
 | .mk o a _ l m => if o = 18 then 1 + max (zBo known L l 0) (zBo known L m 0) else if o = 19 then 1 + (L + 1) * zBo known L m 0 + L * zBo known L l 0 else if o = 20 then 1 + known.getD a.toNat default else 1
def zBo (known : List Int) (L : Int) : List Ins → Int → Int
 | [], s => s
 | x :: l, s => zBo known L l (min (s + costI known L x) 67108865)
end
theorem costL_drop (known : List Int) (L : Int) {l : List Ins} {j : Nat} (hj : j < l.length) (s : Int) : zBo known L (l.drop j) s = zBo known L (l.drop (j + 1)) (min (s + costI known L (l.getD j default)) 67108865) := by
 rw [drop_cons hj, zBo]
def CostsOk (known : List Int) : Prop := ∀ n ∈ known, 0 ≤ n ∧ n ≤ 67108865
theorem costsOk_getD {known : List Int} (h : CostsOk known) (i : Nat) : 0 ≤ known.getD i default ∧ known.getD i default ≤ 67108865 := by
 by_cases hi : i < known.length
 ·exact h _ (zA1 hi)
 ·have : known.getD i default = 0 := by simp [List.getD_eq_getElem?_getD, List.getElem?_eq_none (Nat.le_of_not_lt hi)]
  omega
mutual
theorem costI_range {known : List Int} (hk : CostsOk known) {L : Int} (h0 : 0 ≤ L) (h8 : L ≤ 8) : ∀ x : Ins, 1 ≤ costI known L x ∧ costI known L x ≤ 2000000000
 | .mk o a b l m => by
  have h1 := zBS hk h0 h8 l 0 (by omega) (by omega)
  have h2 := zBS hk h0 h8 m 0 (by omega) (by omega)
  have h3 := costsOk_getD hk a.toNat
  have e1 : 0 ≤ (L + 1) * zBo known L m 0 ∧ (L + 1) * zBo known L m 0 ≤ 9 * 67108865 := ⟨Int.mul_nonneg (by omega) h2.1, Int.mul_le_mul (by omega) h2.2 h2.1 (by omega)⟩
  have e2 : 0 ≤ L * zBo known L l 0 ∧ L * zBo known L l 0 ≤ 8 * 67108865 := ⟨Int.mul_nonneg h0 h1.1, Int.mul_le_mul (by omega) h1.2 h1.1 (by omega)⟩
  simp only [costI]
  split
  ·omega
  split
  ·omega
  split <;> omega
theorem zBS {known : List Int} (hk : CostsOk known) {L : Int} (h0 : 0 ≤ L) (h8 : L ≤ 8) : ∀ (l : List Ins) (s : Int), 0 ≤ s → s ≤ 67108865 → 0 ≤ zBo known L l s ∧ zBo known L l s ≤ 67108865
 | [], s, h, h' => by simp only [zBo]; omega
 | x :: l, s, h, h' => by
  have h1 := costI_range hk h0 h8 x
  simp only [zBo]
  exact zBS hk h0 h8 l _ (by omega) (by omega)
end
def zBA (ps : List Pr) (L : Int) : Nat → List Int
 | 0 => []
 | k + 1 => zBA ps L k ++ [zBo (zBA ps L k) L (ps.getD k default).body 0]
theorem costsF_len (ps : List Pr) (L : Int) : ∀ k, (zBA ps L k).length = k
 | 0 => rfl
 | k + 1 => by simp [zBA, costsF_len ps L k]
theorem costsF_ok (ps : List Pr) {L : Int} (h0 : 0 ≤ L) (h8 : L ≤ 8) : ∀ k, CostsOk (zBA ps L k)
 | 0 => by intro n hn; simp [zBA] at hn
 | k + 1 => by
  intro n hn
  have ih := costsF_ok ps h0 h8 k
  simp only [zBA, List.mem_append, List.mem_singleton] at hn
  rcases hn with hn | rfl
  ·exact ih n hn
  ·exact zBS ih h0 h8 _ 0 (by omega) (by omega)
theorem costsF_get (ps : List Pr) (L : Int) {i k : Nat} (h : i < k) : (zBA ps L k).getD i default = zBo (zBA ps L i) L (ps.getD i default).body 0 := by
 induction k with
 | zero => omega
 | succ k ih =>
  have hl := costsF_len ps L k
  simp only [zBA, List.getD_eq_getElem?_getD] at ih ⊢
  by_cases hi : i < k
  ·rw [List.getElem?_append_left (by omega)]
   exact ih hi
  ·have : i = k := by omega
   subst this
   rw [List.getElem?_append_right (by omega), hl, Nat.sub_self]
   rfl
def costF (ps : List Pr) (k : Nat) (L : Int) : Int := zBo (zBA ps L k) L (ps.getD k default).body 0
mutual
def callI (k : Nat) : Ins → Prop
 | .mk o a _ l m => (o = 20 → 0 ≤ a ∧ a < k) ∧ callL k l ∧ callL k m
def callL (k : Nat) : List Ins → Prop
 | [] => True
 | x :: l => callI k x ∧ callL k l
end
theorem callI_eq (k : Nat) (x : Ins) : callI k x ↔ (x.op = 20 → 0 ≤ x.a ∧ x.a < k) ∧ callL k x.body ∧ callL k x.els := by cases x; simp only [callI, Ins.op, Ins.a, Ins.body, Ins.els]
theorem callL_mem {k : Nat} {x : Ins} : ∀ {l : List Ins}, callL k l → x ∈ l → callI k x
 | y :: l, h, hx => by
  simp only [callL] at h
  rcases List.mem_cons.1 hx with rfl | hx
  ·exact h.1
  ·exact callL_mem h.2 hx
mutual
theorem eff_callI {ps : List Pr} {k : Nat} : ∀ (x : Ins) (out : Bool) (h h' : Int), zBR ps k x out h = some h' → callI k x
 | .mk o a b l m, out, h, h', he => by
  simp only [zBR] at he
  simp only [callI]
  have emp : ∀ l : List Ins, l.isEmpty = true → callL k l := fun l hl => by
   cases l with
   | nil => trivial
   | cons x l => simp at hl
  split at he
  ·rename_i hf
   obtain ⟨_, _, hf, _⟩ := hf
   split at he
   ·rename_i ho
    split at he
    ·split at he
     ·rename_i e e' he1 he2
      exact ⟨fun hh => by omega, zCM l _ 0 e he1, zCM m _ 0 e' he2⟩
     ·cases he
    ·cases he
   ·split at he
    ·rename_i ho
     split at he
     ·rename_i hh
      exact ⟨fun hh => by omega, zCM l _ 0 _ hh.2.2.2, zCM m _ 0 _ hh.2.2.1⟩
     ·cases he
    ·rename_i h18 h19
     have he2 : (l.isEmpty && m.isEmpty) = true := by
      rcases hf with hf | hf | hf
      ·exact absurd hf h18
      ·exact absurd hf h19
      ·exact hf
     rw [Bool.and_eq_true] at he2
     refine ⟨fun hh => ?_, emp l he2.1, emp m he2.2⟩
     subst hh
     simp only [effS, show ¬ ((20 : Int) = 0 ∨ (20 : Int) = 1) by omega, show ¬ ((20 : Int) = 2 ∨ (20 : Int) = 22) by omega, show ¬ ((20 : Int) = 3 ∨ (20 : Int) = 16 ∨ (20 : Int) = 17) by omega, show ¬ ((20 : Int) = 4) by omega, if_false, if_true] at he
     split at he
     ·rename_i hh; exact hh
     ·cases he
  ·cases he
theorem zCM {ps : List Pr} {k : Nat} : ∀ (l : List Ins) (out : Bool) (h h' : Int), zBQ ps k l out h = some h' → callL k l
 | [], out, h, h', he => trivial
 | x :: l, out, h, h', he => by
  simp only [zBQ] at he
  split at he
  ·rename_i g hg
   exact ⟨eff_callI x out h g hg, zCM l out g h' he⟩
  ·cases he
end
structure St where
 slots : List Int
 stk : List Int
 cnt : Int
def St.top (s : St) : Int := s.stk.headD 0
def St.pop (s : St) : St := ⟨s.slots, s.stk.tail, s.cnt⟩
def St.push (s : St) (v : Int) : St := ⟨s.slots, v :: s.stk, s.cnt⟩
def St.put (s : St) (i v : Int) : St := ⟨s.slots.set i.toNat v, s.stk, s.cnt⟩
def St.tick (s : St) : St := ⟨s.slots, s.stk, IntKind.i64.wrap (s.cnt + 1)⟩
inductive Flow where
 | go
 | ret
 | flt (kind proc num : Int)
inductive CR where
 | ok (l : List Int)
 | flt (kind proc num : Int)
structure Cx where
 ps : List Pr
 w : Int
 L : Int
 k : Nat
 cl : Nat → List Int → Int → CR × Int
abbrev Cx.q (C : Cx) : Pr := C.ps.getD C.k default
def zC8 (o w a b : Int) : Int × Int :=
 if o = 5 then (wrF w (a + b), 0) else if o = 6 then (wrF w (a - b), 0) else if o = 7 then (wrF w (a * b), 0)
 else if o = 8 then (if b = 0 then (0, 1) else (wrF w (a.tdiv b), 0)) else if o = 9 then (if b = 0 then (0, 1) else (a.tmod b, 0))
 else if o = 10 then (if a = b then 1 else 0, 0) else if o = 11 then (if a = b then 0 else 1, 0) else if o = 12 then (if a < b then 1 else 0, 0)
 else if o = 13 then (if a ≤ b then 1 else 0, 0) else if o = 14 then (if b < a then 1 else 0, 0) else (if b ≤ a then 1 else 0, 0)
def callS (s : St) (p : Nat) : CR × Int → Flow × St
 | (.ok out, c) => (.go, ⟨s.slots, out.reverse ++ s.stk.drop p, c⟩)
 | (.flt x y z, c) => (.flt x y z, ⟨s.slots, s.stk, c⟩)
def binS (C : Cx) (num : Int) (s : St) (r : Int × Int) : Flow × St := if r.2 = 0 then (.go, s.pop.pop.push r.1) else (.flt r.2 C.k num, s)
def exS (C : Cx) (o a b num : Int) (s : St) : Flow × St :=
 if o = 0 then (.go, s.push (wrF C.w a))
 else if o = 1 then (.go, s.push (s.slots.getD a.toNat default))
 else if o = 2 then (.go, s.pop.put a s.top)
 else if o = 3 then (if s.top < 0 ∨ b ≤ s.top then (.flt 2 C.k num, s) else (.go, s.pop.push (s.slots.getD (a + s.top).toNat default)))
 else if o = 4 then (if s.pop.top < 0 ∨ b ≤ s.pop.top then (.flt 2 C.k num, s) else (.go, s.pop.pop.put (a + s.pop.top) s.top))
 else if o = 16 then (.go, s.pop.push (wrF C.w (-s.top)))
 else if o = 17 then (.go, s.pop.push (if s.top = 0 then 1 else 0))
 else if o = 20 then callS s (C.ps.getD a.toNat default).par.toNat (C.cl a.toNat (s.stk.take (C.ps.getD a.toNat default).par.toNat).reverse s.cnt)
 else if o = 21 then (.ret, s)
 else if o = 22 then (if s.top = 0 then (.flt 3 C.k num, s) else (.go, s.pop))
 else binS C num s (zC8 o C.w s.pop.top s.top)
def zBL (c b : St → Flow × St) (k num : Int) : Nat → St → Flow × St
 | n, s => match c s with
  | (.flt x y z, s') => (.flt x y z, s')
  | (_, s') => if s'.top = 0 then (.go, s'.pop) else match n with
   | 0 => (.flt 5 k num, s'.pop)
   | n + 1 => match b s'.pop with
    | (.go, s3) => zBL c b k num n s3
    | r => r
mutual
def exI (C : Cx) : Ins → Int → St → Flow × St
 | .mk o a b l m, num, s =>
  if o = 18 then (if s.tick.top = 0 then exL C m (num + 1 + zK l) s.tick.pop else exL C l (num + 1) s.tick.pop)
  else if o = 19 then zBL (exL C m (num + 1 + zK l)) (exL C l (num + 1)) C.k num C.L.toNat s.tick
  else exS C o a b num s.tick
def exL (C : Cx) : List Ins → Int → St → Flow × St
 | [], _, s => (.go, s)
 | x :: l, num, s => match exI C x num s with
  | (.go, s') => exL C l (num + zBn x) s'
  | (.ret, s') => (.ret, s')
  | (.flt x y z, s') => (.flt x y z, s')
end
theorem exI_eq (C : Cx) (x : Ins) (num : Int) (s : St) : exI C x num s =
  if x.op = 18 then (if s.tick.top = 0 then exL C x.els (num + 1 + zK x.body) s.tick.pop else exL C x.body (num + 1) s.tick.pop)
  else if x.op = 19 then zBL (exL C x.els (num + 1 + zK x.body)) (exL C x.body (num + 1)) C.k num C.L.toNat s.tick
  else exS C x.op x.a x.b num s.tick := by cases x; simp only [exI]; rfl
def fin (q : Pr) (k : Int) : Flow × St → CR × Int
 | (.flt x y z, s) => (.flt x y z, s.cnt)
 | (.ret, s) => if 0 ≤ q.res then (.ok s.stk.reverse, s.cnt) else (.ok (q.outs.map fun i => s.slots.getD i.toNat default), s.cnt)
 | (.go, s) => if 0 ≤ q.res then (.flt 4 k (zK q.body), s.cnt) else (.ok (q.outs.map fun i => s.slots.getD i.toNat default), s.cnt)
def slots0 (q : Pr) (inp : List Int) : List Int := inp ++ List.replicate (q.slots.toNat - inp.length) 0
def runP (ps : List Pr) (w L : Int) : Nat → Nat → List Int → Int → CR × Int
 | 0, _, _, c => (.flt 0 0 0, c)
 | n + 1, k, inp, c => fin (ps.getD k default) k (exL ⟨ps, w, L, k, runP ps w L n⟩ (ps.getD k default).body 0 ⟨slots0 (ps.getD k default) inp, [], c⟩)
structure TyS (C : Cx) (s : St) (n : Int) : Prop where
 sl : (s.slots.length : Int) = C.q.slots
 sr : ∀ v ∈ s.slots, inI C.w v
 st : ∀ v ∈ s.stk, inI C.w v
 ln : (s.stk.length : Int) = n
def CRok (ps : List Pr) (w : Int) (j : Nat) : CR × Int → Prop
 | (.ok out, _) => (out.length : Int) = outsN (ps.getD j default) ∧ ∀ v ∈ out, inI w v
 | (.flt f _ _, _) => 1 ≤ f ∧ f ≤ 5
def ClOk (C : Cx) : Prop := ∀ j, j < C.k → ∀ (inp : List Int) (c : Int), (inp.length : Int) = (C.ps.getD j default).par → (∀ v ∈ inp, inI C.w v) → CRok C.ps C.w j (C.cl j inp c)
def ResOk (C : Cx) (out : Bool) (n : Int) : Flow × St → Prop
 | (.go, s) => TyS C s n
 | (.ret, s) => out = true ∧ TyS C s (max C.q.res 0)
 | (.flt f _ _, _) => 1 ≤ f ∧ f ≤ 5
section
variable {C : Cx} {s : St} {n : Int}
theorem TyS.tick (h : TyS C s n) : TyS C s.tick n := ⟨h.sl, h.sr, h.st, h.ln⟩
theorem TyS.pop (h : TyS C s n) (h1 : 1 ≤ n) : TyS C s.pop (n - 1) :=
 ⟨h.sl, h.sr, fun v hv => h.st v (List.mem_of_mem_tail hv), by have := h.ln; simp only [St.pop, List.length_tail]; omega⟩
theorem TyS.top (h : TyS C s n) (h1 : 1 ≤ n) : inI C.w s.top := by
 have := h.ln
 unfold St.top
 cases hs : s.stk with
 | nil => rw [hs] at this; simp at this; omega
 | cons v l => exact h.st v (by rw [hs]; simp)
theorem TyS.push (h : TyS C s n) {v : Int} (hv : inI C.w v) : TyS C (s.push v) (n + 1) :=
 ⟨h.sl, h.sr, fun x hx => by
  rcases List.mem_cons.1 hx with rfl | hx
  ·exact hv
  ·exact h.st x hx, by have := h.ln; simp only [St.push, List.length_cons]; omega⟩
theorem TyS.put (h : TyS C s n) {i v : Int} (hv : inI C.w v) : TyS C (s.put i v) n :=
 ⟨by simpa [St.put] using h.sl, fun x hx => by
  rcases List.mem_or_eq_of_mem_set hx with hx | rfl
  ·exact h.sr x hx
  ·exact hv, h.st, h.ln⟩
theorem TyS.slot (h : TyS C s n) (hw : wOk C.w) (i : Nat) : inI C.w (s.slots.getD i default) := by
 by_cases hi : i < s.slots.length
 ·exact h.sr _ (zA1 hi)
 ·have : s.slots.getD i default = 0 := by simp [List.getD_eq_getElem?_getD, List.getElem?_eq_none (Nat.le_of_not_lt hi)]
  rw [this, zBF hw]
  have := zCx hw
  omega
theorem inI_01 {w : Int} (hw : wOk w) (p : Prop) [Decidable p] : inI w (if p then 1 else 0) := by
 rw [zBF hw]
 have := zCx hw
 split <;> omega
theorem inI_10 {w : Int} (hw : wOk w) (p : Prop) [Decidable p] : inI w (if p then 0 else 1) := by
 rw [zBF hw]
 have := zCx hw
 split <;> omega
theorem zB6 {α : Type} {P : α → Prop} {c : Prop} [Decidable c] {x y : α} (h1 : P x) (h2 : P y) : P (if c then x else y) := by split <;> assumption
def OkB (w : Int) (r : Int × Int) : Prop := (r.2 = 0 ∧ inI w r.1) ∨ r.2 = 1
theorem okB_v {w v : Int} (h : inI w v) : OkB w (v, 0) := .inl ⟨rfl, h⟩
theorem okB_f {w v : Int} : OkB w (v, 1) := .inr rfl
theorem binO_ok {w a b : Int} (o : Int) (hw : wOk w) (ha : inI w a) (hb : inI w b) : OkB w (zC8 o w a b) :=
 zB6 (okB_v (wrF_in hw _)) (zB6 (okB_v (wrF_in hw _)) (zB6 (okB_v (wrF_in hw _)) (zB6 (zB6 okB_f (okB_v (wrF_in hw _))) (zB6 (zB6 okB_f (okB_v (tmod_in hw ha)))
  (zB6 (okB_v (inI_01 hw _)) (zB6 (okB_v (inI_10 hw _)) (zB6 (okB_v (inI_01 hw _)) (zB6 (okB_v (inI_01 hw _)) (zB6 (okB_v (inI_01 hw _)) (okB_v (inI_01 hw _)))))))))))
theorem exS_ok (hw : wOk C.w) (hp : zBU C.ps C.k) (hcl : ClOk C) {o a b num base h h' : Int} {out : Bool} (hf : zV C.q.slots o a b true) (h18 : ¬ o = 18) (h19 : ¬ o = 19) (he : effS C.ps C.k o a out h = some h') (h0 : 0 ≤ h) (hb : 0 ≤ base) (hbo : out = true → base = 0)
  (hs : TyS C s (base + h)) : ResOk C out (base + h') (exS C o a b num s) := by
 obtain ⟨f1, f2, _, _⟩ := hf
 unfold effS at he
 unfold exS
 split at he
 ·have hc := zA9 he
  rename_i ho
  have e : base + h' = base + h + 1 := by omega
  rcases ho with rfl | rfl
  ·rw [if_pos rfl, e]; exact hs.push (wrF_in hw _)
  ·rw [if_neg (by omega), if_pos rfl, e]; exact hs.push (hs.slot hw _)
 split at he
 ·have hc := zA9 he
  rename_i ho
  have e : base + h' = base + h - 1 := by omega
  rcases ho with rfl | rfl
  ·rw [if_neg (by omega), if_neg (by omega), if_pos rfl, e]; exact (hs.pop (by omega)).put (hs.top (by omega))
  ·simp only [show ¬ ((22 : Int) = 0) by omega, show ¬ ((22 : Int) = 1) by omega, show ¬ ((22 : Int) = 2) by omega, show ¬ ((22 : Int) = 3) by omega, show ¬ ((22 : Int) = 4) by omega, show ¬ ((22 : Int) = 16) by omega, show ¬ ((22 : Int) = 17) by omega, show ¬ ((22 : Int) = 20) by omega, show ¬ ((22 : Int) = 21) by omega, if_false, if_true]
   split
   ·exact ⟨by omega, by omega⟩
   ·rw [e]; exact hs.pop (by omega)
 split at he
 ·have hc := zA9 he
  rename_i ho
  have e : base + h' = base + h - 1 + 1 := by omega
  rw [e]
  rcases ho with rfl | rfl | rfl
  ·simp only [show ¬ ((3 : Int) = 0) by omega, show ¬ ((3 : Int) = 1) by omega, show ¬ ((3 : Int) = 2) by omega, if_false, if_true]
   split
   ·exact ⟨by omega, by omega⟩
   ·exact (hs.pop (by omega)).push (hs.slot hw _)
  ·simp only [show ¬ ((16 : Int) = 0) by omega, show ¬ ((16 : Int) = 1) by omega, show ¬ ((16 : Int) = 2) by omega, show ¬ ((16 : Int) = 3) by omega, show ¬ ((16 : Int) = 4) by omega, if_false, if_true]
   exact (hs.pop (by omega)).push (wrF_in hw _)
  ·simp only [show ¬ ((17 : Int) = 0) by omega, show ¬ ((17 : Int) = 1) by omega, show ¬ ((17 : Int) = 2) by omega, show ¬ ((17 : Int) = 3) by omega, show ¬ ((17 : Int) = 4) by omega, show ¬ ((17 : Int) = 16) by omega, if_false, if_true]
   exact (hs.pop (by omega)).push (inI_01 hw _)
 split at he
 ·have hc := zA9 he
  rename_i ho
  subst ho
  have e : base + h' = base + h - 1 - 1 := by omega
  rw [e]
  simp only [show ¬ ((4 : Int) = 0) by omega, show ¬ ((4 : Int) = 1) by omega, show ¬ ((4 : Int) = 2) by omega, show ¬ ((4 : Int) = 3) by omega, if_false, if_true]
  split
  ·exact ⟨by omega, by omega⟩
  ·exact ((hs.pop (by omega)).pop (by omega)).put (hs.top (by omega))
 split at he
 ·rename_i ho
  subst ho
  simp only [show ¬ ((20 : Int) = 0) by omega, show ¬ ((20 : Int) = 1) by omega, show ¬ ((20 : Int) = 2) by omega, show ¬ ((20 : Int) = 3) by omega, show ¬ ((20 : Int) = 4) by omega, show ¬ ((20 : Int) = 16) by omega, show ¬ ((20 : Int) = 17) by omega, if_false, if_true]
  split at he
  ·rename_i ha
   have hc := zA9 he
   obtain ⟨p1, p2, p3, p4⟩ := hp a.toNat (by omega)
   have hln := hs.ln
   have hpl : (C.ps.getD a.toNat default).par.toNat ≤ s.stk.length := by omega
   have hr := hcl a.toNat (by omega) (s.stk.take (C.ps.getD a.toNat default).par.toNat).reverse s.cnt (by rw [List.length_reverse, List.length_take]; omega) fun v hv => hs.st v (List.mem_of_mem_take (List.mem_reverse.1 hv))
   generalize C.cl a.toNat (s.stk.take (C.ps.getD a.toNat default).par.toNat).reverse s.cnt = r at *
   obtain ⟨r, c⟩ := r
   cases r with
   | ok l =>
    obtain ⟨r1, r2⟩ := hr
    refine ⟨hs.sl, hs.sr, fun v hv => ?_, ?_⟩
    ·rcases List.mem_append.1 hv with hv | hv
     ·exact r2 v (List.mem_reverse.1 hv)
     ·exact hs.st v (List.mem_of_mem_drop hv)
    ·show ((l.reverse ++ s.stk.drop _).length : Int) = _
     rw [List.length_append, List.length_reverse, List.length_drop]
     omega
   | flt x y z => exact hr
  ·cases he
 split at he
 ·rename_i ho
  subst ho
  simp only [show ¬ ((21 : Int) = 0) by omega, show ¬ ((21 : Int) = 1) by omega, show ¬ ((21 : Int) = 2) by omega, show ¬ ((21 : Int) = 3) by omega, show ¬ ((21 : Int) = 4) by omega, show ¬ ((21 : Int) = 16) by omega, show ¬ ((21 : Int) = 17) by omega, show ¬ ((21 : Int) = 20) by omega, if_false, if_true]
  split at he
  ·rename_i hh
   refine ⟨hh.1, ?_⟩
   have e : base + h = max C.q.res 0 := by rw [hbo hh.1, hh.2]; simp
   rw [← e]
   exact hs
  ·cases he
 ·rename_i h01 h2 h3 h4 h20 h21
  have hc := zA9 he
  rw [if_neg (by omega), if_neg (by omega), if_neg (by omega), if_neg (by omega), if_neg (by omega), if_neg (by omega), if_neg (by omega), if_neg (by omega), if_neg (by omega), if_neg (by omega)]
  have hb := binO_ok o hw ((hs.pop (by omega)).top (by omega)) (hs.top (by omega))
  unfold binS
  rcases hb with ⟨b1, b2⟩ | b1
  ·rw [if_pos b1]
   have e : base + h' = base + h - 1 - 1 + 1 := by omega
   rw [e]
   exact ((hs.pop (by omega)).pop (by omega)).push b2
  ·rw [if_neg (by omega), b1]
   exact ⟨by omega, by omega⟩
theorem loopF_ok {c b : St → Flow × St} {k num : Int} (hc : ∀ s, TyS C s 0 → ResOk C false 1 (c s)) (hb : ∀ s, TyS C s 0 → ResOk C true 0 (b s)) : ∀ (n : Nat) (s : St), TyS C s 0 → ResOk C true 0 (zBL c b k num n s) := by
 intro n
 induction n with
 | zero =>
  intro s hs
  have h1 := hc s hs
  unfold zBL
  split
  ·rename_i hh; rw [hh] at h1; exact h1
  ·rename_i f s' hno hh
   rw [hh] at h1
   have h2 : TyS C s' 1 := by
    cases f with
    | go => exact h1
    | ret => exact absurd h1.1 (by simp)
    | flt x y z => exact absurd rfl (hno x y z)
   split
   ·exact h2.pop (by omega)
   ·exact ⟨by omega, by omega⟩
 | succ n ih =>
  intro s hs
  have h1 := hc s hs
  unfold zBL
  split
  ·rename_i hh; rw [hh] at h1; exact h1
  ·rename_i f s' hno hh
   rw [hh] at h1
   have h2 : TyS C s' 1 := by
    cases f with
    | go => exact h1
    | ret => exact absurd h1.1 (by simp)
    | flt x y z => exact absurd rfl (hno x y z)
   split
   ·exact h2.pop (by omega)
   ·have h3 := hb s'.pop (h2.pop (by omega))
    simp only
    split
    ·rename_i hh2; rw [hh2] at h3; exact ih _ h3
    ·exact h3
end
mutual
theorem exI_ok {C : Cx} (hw : wOk C.w) (hp : zBU C.ps C.k) (hcl : ClOk C) : ∀ (x : Ins) (num base h h' : Int) (out : Bool) (s : St), zBR C.ps C.k x out h = some h' → 0 ≤ h → 0 ≤ base → (out = true → base = 0) → TyS C s (base + h) → ResOk C out (base + h') (exI C x num s)
 | .mk o a b l m, num, base, h, h', out, s, he, h0, hb, hbo, hs => by
  simp only [zBR] at he
  simp only [exI]
  split at he
  ·rename_i hf
   split at he
   ·rename_i ho
    rw [if_pos ho]
    split at he
    ·rename_i h1
     split at he
     ·rename_i e e' he1 he2
      split at he
      ·rename_i hee
       subst hee
       have hc := zA9 he
       have hs2 := hs.tick.pop (by omega)
       have e1 : base + h - 1 = (base + h - 1) + 0 := by omega
       rw [e1] at hs2
       have e2 : base + h' = (base + h - 1) + e := by omega
       rw [e2]
       have hbo' : (out && decide (h = 1)) = true → base + h - 1 = 0 := fun hh => by
        rw [Bool.and_eq_true, decide_eq_true_eq] at hh
        have := hbo hh.1
        omega
       have mono : ∀ r : Flow × St, ResOk C (out && decide (h = 1)) (base + h - 1 + e) r → ResOk C out (base + h - 1 + e) r := by
        rintro ⟨f, s'⟩ hr
        cases f with
        | go => exact hr
        | ret =>
         obtain ⟨g1, g2⟩ := hr
         rw [Bool.and_eq_true] at g1
         exact ⟨g1.1, g2⟩
        | flt x y z => exact hr
       split
       ·exact mono _ (exL_ok hw hp hcl m _ _ 0 e _ _ he2 (by omega) (by omega) hbo' hs2)
       ·exact mono _ (exL_ok hw hp hcl l _ _ 0 e _ _ he1 (by omega) (by omega) hbo' hs2)
      ·cases he
     ·cases he
    ·cases he
   ·rename_i ho
    rw [if_neg ho]
    split at he
    ·rename_i ho
     rw [if_pos ho]
     split at he
     ·rename_i hh
      obtain ⟨g1, rfl, g3, g4⟩ := hh
      simp only [Option.some.injEq] at he
      subst he
      have hb0 := hbo g1
      subst hb0
      subst g1
      refine loopF_ok (fun s hs => ?_) (fun s hs => ?_) _ _ hs.tick
      ·exact exL_ok hw hp hcl m _ 0 0 1 false s g3 (by omega) (by omega) (fun _ => rfl) hs
      ·exact exL_ok hw hp hcl l _ 0 0 0 true s g4 (by omega) (by omega) (fun _ => rfl) hs
     ·cases he
    ·rename_i ho2
     rw [if_neg ho2]
     refine exS_ok hw hp hcl ?_ ho ho2 he h0 hb hbo hs.tick
     obtain ⟨f1, f2, f3, f4⟩ := hf
     exact ⟨f1, f2, .inr (.inr rfl), f4⟩
  ·cases he
theorem exL_ok {C : Cx} (hw : wOk C.w) (hp : zBU C.ps C.k) (hcl : ClOk C) : ∀ (l : List Ins) (num base h h' : Int) (out : Bool) (s : St), zBQ C.ps C.k l out h = some h' → 0 ≤ h → 0 ≤ base → (out = true → base = 0) → TyS C s (base + h) → ResOk C out (base + h') (exL C l num s)
 | [], num, base, h, h', out, s, he, h0, hb, hbo, hs => by
  simp only [zBQ, Option.some.injEq] at he
  subst he
  exact hs
 | x :: l, num, base, h, h', out, s, he, h0, hb, hbo, hs => by
  simp only [zBQ] at he
  split at he
  ·rename_i g hg
   have hx := exI_ok hw hp hcl x num base h g out s hg h0 hb hbo hs
   have hgr : 0 ≤ g := by
    have := effI_nn hp x out h g h0 hg
    exact this
   simp only [exL]
   split
   ·rename_i s' hh
    rw [hh] at hx
    exact exL_ok hw hp hcl l _ base g h' out s' he hgr hb hbo hx
   ·rename_i s' hh; rw [hh] at hx; exact hx
   ·rename_i hh; rw [hh] at hx; exact hx
  ·cases he
end
theorem slots0_len {q : Pr} {inp : List Int} (h1 : (inp.length : Int) = q.par) (h2 : q.par ≤ q.slots) : ((slots0 q inp).length : Int) = q.slots := by
 unfold slots0
 rw [List.length_append, List.length_replicate]
 omega
theorem runP_ok {ps : List Pr} {w L : Int} (hw : wOk w) (hv : zBw ps) : ∀ (n k : Nat) (inp : List Int) (c : Int), k < n → k < ps.length → (inp.length : Int) = (ps.getD k default).par → (∀ v ∈ inp, inI w v) → CRok ps w k (runP ps w L n k inp c) := by
 intro n
 induction n with
 | zero => intro k inp c hk; omega
 | succ n ih =>
  intro k inp c hk hkl hi hin
  obtain ⟨_, ⟨p1, p2, p3, p4, p5, p6, p7, p8⟩, _, _, he⟩ := hv.2 k hkl
  have hcl : ClOk ⟨ps, w, L, k, runP ps w L n⟩ := fun j hj inp c h1 h2 => ih j inp c (by simp only at hj; omega) (by simp only at hj; omega) h1 h2
  have hp : zBU ps k := prsOk_of fun j hj => hv.2 j (by omega)
  have z0 : inI w 0 := by
   rw [zBF hw]
   have := zCx hw
   omega
  have hr := exL_ok (C := ⟨ps, w, L, k, runP ps w L n⟩) hw hp hcl (ps.getD k default).body 0 0 0 0 true ⟨slots0 (ps.getD k default) inp, [], c⟩ he (by omega) (by omega) (fun _ => rfl)
   ⟨slots0_len hi p2, fun v hv => by
    unfold slots0 at hv
    rcases List.mem_append.1 hv with hv | hv
    ·exact hin v hv
    ·rw [(List.mem_replicate.1 hv).2]; exact z0, by simp, rfl⟩
  have hout : ∀ s : St, TyS ⟨ps, w, L, k, runP ps w L n⟩ s (max (ps.getD k default).res 0) ∨ (∃ n', TyS ⟨ps, w, L, k, runP ps w L n⟩ s n') → ¬ 0 ≤ (ps.getD k default).res → CRok ps w k (.ok ((ps.getD k default).outs.map fun i => s.slots.getD i.toNat default), s.cnt) := by
   intro s hs hn
   have hs2 : ∃ n', TyS ⟨ps, w, L, k, runP ps w L n⟩ s n' := hs.elim (fun h => ⟨_, h⟩) id
   obtain ⟨n', hs2⟩ := hs2
   refine ⟨by rw [List.length_map, outsN, if_neg hn], fun v hv => ?_⟩
   obtain ⟨i, _, rfl⟩ := List.mem_map.1 hv
   exact hs2.slot hw _
  simp only [runP]
  generalize exL ⟨ps, w, L, k, runP ps w L n⟩ (ps.getD k default).body 0 ⟨slots0 (ps.getD k default) inp, [], c⟩ = r at *
  obtain ⟨f, s⟩ := r
  cases f with
  | go =>
   simp only [fin]
   split
   ·exact ⟨by omega, by omega⟩
   ·rename_i hn
    exact hout s (.inr ⟨_, hr⟩) hn
  | ret =>
   obtain ⟨_, hr⟩ := hr
   simp only [fin]
   split
   ·rename_i hn
    refine ⟨?_, fun v hv => hr.st v (List.mem_reverse.1 hv)⟩
    have := hr.ln
    rw [List.length_reverse, outsN, if_pos hn, this]
    simp only [Cx.q]
    omega
   ·rename_i hn
    exact hout s (.inl hr) hn
  | flt x y z => exact hr
end Go.Proofs.YtaipgalanpcgoaaGreat
namespace Go.Ax
open Go Go.RowKit
set_option linter.unusedSimpArgs false
set_option linter.unusedVariables false
section
variable {P : Program} {k : List Item} {Q : Out → Env → zB → Prop} {e : Env} {H : zB}
end
end Go.Ax
namespace Go.Ax
open Go
set_option linter.unusedSimpArgs false
set_option linter.unusedVariables false
variable {P : Program} {H : zB}
theorem ACall.frz {k : FuncId} {args : List AV} {R : AV → zB → Prop} (h : ACall P k args H R) (hR : ∀ x H', R x H' → (rFrz x H').ok) :
  ACall P k args H fun y H2 => ∃ x H', R x H' ∧ y = (rFrz x H').x ∧ H2 = (rFrz x H').H :=
 ⟨h.1, fun X ρ w vs a b => (h.2 X ρ w vs a b).mono fun _ w' ⟨v, x, H', ρ', e, r, g1, g2, g3⟩ => by
  obtain ⟨ρ2, f1, f2, f3⟩ := snd_frz g1 g2 (hR _ _ r)
  exact ⟨v, _, _, ρ2, e, ⟨x, H', r, rfl, rfl⟩, f1, f2, g3.trans f3⟩⟩
theorem ACall.frzf {k : FuncId} {args : List AV} {R : AV → zB → Prop} (sz off : Nat) (h : ACall P k args H R) (hR : ∀ x H', R x H' → (rFrzf sz off x H').ok) :
  ACall P k args H fun y H2 => ∃ x H', R x H' ∧ y = (rFrzf sz off x H').x ∧ H2 = (rFrzf sz off x H').H :=
 ⟨h.1, fun X ρ w vs a b => (h.2 X ρ w vs a b).mono fun _ w' ⟨v, x, H', ρ', e, r, g1, g2, g3⟩ => by
  obtain ⟨ρ2, f1, f2, f3⟩ := snd_frzf g1 g2 (hR _ _ r)
  exact ⟨v, _, _, ρ2, e, ⟨x, H', r, rfl, rfl⟩, f1, f2, g3.trans f3⟩⟩
def AV.Le (x y : AV) : Prop := ∀ (w : World) (M : Nat → Prop) (ρ : Nat → Loc) (n : Nat) (v : Value), Rep w M ρ n x v → Rep w M ρ n y v
theorem AV.Le.refl (x : AV) : AV.Le x x := fun _ _ _ _ _ h => h
theorem AV.Le.nil (sz : Nat) : AV.Le (.v (.slice none 0 0)) (.sl sz []) := fun w M ρ n v h => by
 cases h
 exact .slE _ _ _ _
theorem AV.Le.agg {xs ys : List AV} (hl : xs.length = ys.length) (h : ∀ (i : Nat) (x y : AV), xs[i]? = some x → ys[i]? = some y → AV.Le x y) : AV.Le (.agg xs) (.agg ys) := fun w M ρ n v hv => by
 cases hv with
 | agg _ _ us hl' hr =>
  refine .agg _ _ _ (by omega) fun i y u hy hu => ?_
  have hi : i < xs.length := by have := (List.getElem?_eq_some_iff.1 hy).1; omega
  exact h i xs[i] y (List.getElem?_eq_getElem hi) hy _ _ _ _ _ (hr i _ u (List.getElem?_eq_getElem hi) hu)
theorem ACall.args {k : FuncId} {xs ys : List AV} {R : AV → zB → Prop} (h : ACall P k ys H R) (hl : xs.length = ys.length) (hle : ∀ (i : Nat) (x y : AV), xs[i]? = some x → ys[i]? = some y → AV.Le x y) : ACall P k xs H R :=
 ⟨h.1, fun X ρ w vs a b => h.2 X ρ w vs a (by
  obtain ⟨b1, b2⟩ := b
  refine ⟨by omega, fun i y u hy hu => ?_⟩
  have hi : i < xs.length := by have := (List.getElem?_eq_some_iff.1 hy).1; omega
  exact hle i xs[i] y (List.getElem?_eq_getElem hi) hy _ _ _ _ _ (b2 i _ u (List.getElem?_eq_getElem hi) hu))⟩
theorem ACall.res {k : FuncId} {args : List AV} {R : AV → zB → Prop} (h : ACall P k args H R) : ACall P k args H fun y H' => ∃ x, R x H' ∧ AV.Le x y := by
 refine h.mono fun x H' r => ⟨x, r, AV.Le.refl x⟩
theorem ACall.resTo {k : FuncId} {args : List AV} {R R' : AV → zB → Prop} (h : ACall P k args H R) (hr : ∀ x H', R x H' → ∃ y, AV.Le x y ∧ R' y H') : ACall P k args H R' :=
 ⟨h.1, fun X ρ w vs a b => (h.2 X ρ w vs a b).mono fun _ w' ⟨v, x, H', ρ', e, r, g1, g2, g3⟩ => by
  obtain ⟨y, h1, h2⟩ := hr _ _ r
  exact ⟨v, y, H', ρ', e, h2, g1, h1 _ _ _ _ _ g2, g3⟩⟩
theorem zC {α : Type} {G l : List α} {i : Nat} (h : i < G.length) : (G ++ l)[i]? = G[i]? := List.getElem?_append_left h
theorem zI {α : Type} {G l : List α} {i : Nat} {x : α} (h : i < G.length) : (G ++ l).set i x = G.set i x ++ l := List.set_append_left i x h
theorem zF {α : Type} {G : List α} {i j : Nat} {x : α} (h : ¬ i = j) : (G.set i x)[j]? = G[j]? := List.getElem?_set_ne h
theorem zJ {α : Type} {G : List α} {i : Nat} {x : α} (h : i < G.length) : (G.set i x)[i]? = some x := List.getElem?_set_self h
theorem zAg {α : Type} {G l : List α} {i j : Nat} {x : α} (h : i < G.length) : (G.set j x ++ l)[i]? = (G.set j x)[i]? := List.getElem?_append_left (by rw [List.length_set]; exact h)
theorem zN {α : Type} {G l : List α} {i j : Nat} {x y : α} (h : i < G.length) : (G.set j x ++ l).set i y = (G.set j x).set i y ++ l := List.set_append_left i y (by rw [List.length_set]; exact h)
theorem zAB {α : Type} {G : List α} {i j : Nat} {x y : α} (h : i < G.length) : ((G.set j x).set i y)[i]? = some y := List.getElem?_set_self (by rw [List.length_set]; exact h)
theorem zAr {α : Type} {G l : List α} {i j k : Nat} {x y : α} (h : i < G.length) : ((G.set j x).set k y ++ l)[i]? = ((G.set j x).set k y)[i]? := List.getElem?_append_left (by rw [List.length_set, List.length_set]; exact h)
theorem zAq {α : Type} {G l : List α} {i j k : Nat} {x y z : α} (h : i < G.length) : ((G.set j x).set k y ++ l).set i z = ((G.set j x).set k y).set i z ++ l := List.set_append_left i z (by rw [List.length_set, List.length_set]; exact h)
theorem zAo {α : Type} {G : List α} {i j k : Nat} {x y z : α} (h : i < G.length) : (((G.set j x).set k y).set i z)[i]? = some z := List.getElem?_set_self (by rw [List.length_set, List.length_set]; exact h)
theorem zBH {H G : zB} (hl : H.length ≤ G.length) (h : ∀ i, i < H.length → G[i]? = H[i]?) : ∃ rest, G = H ++ rest := by
 refine ⟨G.drop H.length, ?_⟩
 apply List.ext_getElem?
 intro i
 by_cases hi : i < H.length
 ·rw [List.getElem?_append_left hi]; exact h i hi
 ·rw [List.getElem?_append_right (by omega), List.getElem?_drop]
  congr 1
  omega
end Go.Ax
namespace Go.Ax
open Go Go.RowKit
set_option linter.unusedSimpArgs false
set_option linter.unusedVariables false
section
variable {P : Program} {w w0 w1 : World} {X : Nat → Prop} {ρ ρ0 ρ1 : Nat → Loc} {H H1 : zB} {e e1 : Env} {a a1 : Act} {n n0 : Nat}
def mdOf : Option Value → FrameMode
 | none => .returning
 | some z => .panicking [{ v := z, recovered := false }]
def zCj : Option Value → FrameMode
 | none => .returning
 | some z => .panicking [{ v := z, recovered := true }]
theorem settle_after (m : Option Value) : settle (zCj m) = .returning := by cases m <;> rfl
def ADef (P : Program) (k : FuncId) (args : List AV) (m : Option Value) (H : zB) (K : zB → Prop) : Prop :=
 ∀ X ρ w vs, HRel w X ρ H → RepL w (Mut X ρ H.length) ρ H.length args vs →
  CallsDIn Fence.wide 0 P k vs (mdOf m) w fun en u' w' => ∃ v H' ρ', en = .returned v ∧ u' = zCj m ∧ K H' ∧ HRel w' X ρ' H' ∧ Fut w ρ H.length w' ρ' H'.length
def postD (P : Program) (res : List RV) (R : AV → zB → Prop) (k : FuncId) (args : List AV) : Out → Env → zB → Prop
 | .exit _, _, _ => False
 | .pan v, e, H => ADef P k args (some v) H fun H' => (zAO e H' res).ok ∧ R (zAO e H' res).x H'
 | _, e, H => ADef P k args none H fun H' => (zAO e H' res).ok ∧ R (zAO e H' res).x H'
def wpD (P : Program) (res : List RV) (R : AV → zB → Prop) : LD → Env → zB → Prop
 | .seq a b, e, H => zU P [.code a] (fun o e' H' => o = .normal ∧ wpD P res R b e' H') .normal e H
 | .cut los f args body, e, H => zU P [.ops los] (fun o e1 H1 => o = .normal ∧ ∃ k first caps, ev e1 f = .fn (.func k) first caps ∧ Enter P k ∧ zU P [.code body] (postD P res R k (first ++ args.map (ev e1) ++ caps)) .normal e1 H1) .normal e H
theorem RepL.nextN {w' : World} {ρ' : Nat → Loc} {n n' : Nat} {xs : List AV} {us : Array Value} (hf : Fut w ρ n w' ρ' n') (h : RepL w (Mut X ρ n) ρ n xs us) : RepL w' (Mut X ρ' n') ρ' n' xs us :=
 ⟨h.1, fun i x u hx hu => (h.2 i x u hx hu).nextN hf⟩
theorem opsD_sound {B : DB} {ops : Array Oper} {Q : Exit → Act → World → Prop} {K : FuncId → List AV → Env → zB → Prop}
  (hQ : ∀ k dargs e1 H1 a1 w1 ρ1 d vs, K k dargs e1 H1 → a1.tmps.size = n → HRel w1 X ρ1 H1 → ER w1 X ρ1 H1 n e1 a1 → Fut w0 ρ0 n0 w1 ρ1 H1.length → Mk B w0 w1 ρ1 H1.length a1.defers → RepL w1 (Mut X ρ1 H1.length) ρ1 H1.length dargs vs →
   (∃ fv cap, d.target = .fn fv cap) → (∀ w', (invoke d.target d.args).run P w' = .ok (.enter k vs) w') → Q .normal { a1 with defers := d :: a1.defers } w1) :
  ∀ (l : List Oper) (los : List LO) (f : LX) (args : List LX) (e : Env) (H : zB) (a : Act) (w : World), lowOpsD P n ops l = some (los, f, args) →
   (zAY P los e H fun e1 H1 => ∃ k first caps, ev e1 f = .fn (.func k) first caps ∧ Enter P k ∧ K k (first ++ args.map (ev e1) ++ caps) e1 H1) → St B X w0 ρ0 n0 n e H a w → wpListIn (WR none) 0 P ops Q l a w
 | [], los, f, args, e, H, a, w, hl, h, hst => by cases hl
 | [o], los, f, args, e, H, a, w, hl, h, hst => by
  have hl0 : (lowDop n o).map (fun p => (([] : List LO), p.1, p.2)) = some (los, f, args) := hl
  clear hl
  obtain ⟨⟨f', args'⟩, hl, hp⟩ := zAl hl0
  clear hl0
  simp only [Prod.mk.injEq] at hp
  obtain ⟨rfl, rfl, rfl⟩ := hp
  unfold lowDop at hl
  split at hl
  ·rename_i fo ao ts ho hg hd
   split at hl
   ·rename_i g m hf hm
    simp only [Option.some.injEq, Prod.mk.injEq] at hl
    obtain ⟨rfl, rfl⟩ := hl
    obtain ⟨k, first, caps, hfv, ⟨fn, hfn, hbody, hname⟩, hK⟩ := h
    obtain ⟨h2, ρ, hrel, he, hfu, hmk⟩ := hst
    have rf := zX he hf
    obtain ⟨hlen, hrep⟩ := zB4 he _ _ hm
    rw [hfv] at rf
    generalize hfe : a.eval fo = fv at rf
    cases rf with
    | fn _ _ _ _ fs us h1 h2' h3 h4 =>
     have hrl : RepL w (Mut X ρ H.length) ρ H.length (first ++ m.map (ev e) ++ caps) (fs ++ ao.map a.eval ++ us) := by
      refine ⟨by simp [h1, h2', hlen], fun i x u hx hu => ?_⟩
      rw [List.append_assoc, List.getElem?_append] at hx
      rw [Array.append_assoc, Array.getElem?_append] at hu
      by_cases hi : i < first.length
      ·rw [if_pos hi] at hx
       rw [if_pos (by omega)] at hu
       exact h3 i x u hx hu
      ·rw [if_neg hi, List.getElem?_append] at hx
       rw [if_neg (by omega), Array.getElem?_append] at hu
       simp only [List.length_map, Array.size_map] at hx hu
       have hl2 : m.length = ao.size := by simpa using hlen
       by_cases hj : i - first.length < m.length
       ·rw [if_pos hj] at hx
        rw [if_pos (by omega)] at hu
        exact hrep (i - first.length) x u hx (by rw [← h1] at hu; simpa using hu)
       ·rw [if_neg hj] at hx
        rw [if_neg (by omega)] at hu
        exact h4 (i - first.length - m.length) x u hx (by rw [← h1, ← hl2] at hu; exact hu)
     obtain ⟨d, hrun, htar, hinv⟩ : ∃ d, (execOp a.eval o).run P w = .ok (.defer d) w ∧ (∃ fv cap, d.target = .fn fv cap) ∧ ∀ w', (invoke d.target d.args).run P w' = .ok (.enter k (fs ++ ao.map a.eval ++ us)) w' := by
      refine ⟨{ target := .fn (.func k) us, args := fs ++ ao.map a.eval }, ?_, ⟨_, _, rfl⟩, fun w' => ?_⟩
      ·unfold execOp
       rw [ho]
       simp only [resolve, hfe, Deferred.ofValue, Sem.run_bind, Sem.run_pure, Result.andThen_ok]
      ·simp only [invoke, callFunc, Sem.run_bind, Sem.run_pure, Result.andThen_ok, run_program, hfn, hname, Bool.false_eq_true, if_false, hbody]
     unfold wpListIn
     rw [zBM hg, if_pos rfl]
     refine ⟨fun _ _ => trivial, ?_⟩
     show o.uponIn _ _ _ _ _ _ ((Oper.semAt none a.eval o).run P w)
     rw [Oper.semAt_none, hrun, Oper.uponIn_defer, hd]
     exact hQ k _ e H a w ρ d _ hK h2 hrel he hfu hmk hrl htar hinv
   ·cases hl
  ·cases hl
 | o :: o2 :: l, los, f, args, e, H, a, w, hl, h, hst => by
  unfold lowOpsD at hl
  simp only at hl
  split at hl
  ·rename_i lo p h1 h2
   obtain ⟨m, f', args'⟩ := p
   simp only [Option.some.injEq, Prod.mk.injEq] at hl
   obtain ⟨rfl, rfl, rfl⟩ := hl
   have := zB3 (r := none) (m0 := 0) h1 h hst (next := wpListIn (WR none) 0 P ops Q (o2 :: l)) (Q := Q) fun e'' H'' a'' w'' hK hs'' => opsD_sound hQ (o2 :: l) m f' args' e'' H'' a'' w'' h2 hK hs''
   unfold wpListIn
   exact this
  ·cases hl
theorem lowD_sound {fn : Func} {hs : List Hn} {rs : List RV} {R : AV → zB → Prop} (hr : lowRs P n fn.results.toList = some rs) : ∀ (c : Code) (ld : LD) (e : Env) (H : zB) (a : Act) (w : World), lowD P n hs c = some ld → wpD P rs R ld e H → St ⟨[], True⟩ X w0 ρ0 n0 n e H a w →
  c.wpIn (WR none) 0 P (bodyPostM Fence.wide 0 P fn fun en w' => ∃ v x H' ρ', en = .returned v ∧ R x H' ∧ HRel w' X ρ' H' ∧ Rep w' (Mut X ρ' H'.length) ρ' H'.length x v ∧ Fut w0 ρ0 n0 w' ρ' H'.length) a w := by
 intro c
 induction c with
 | seq x y ihx ihy =>
  intro ld e H a w hl h hst
  unfold lowD at hl
  split at hl
  ·rename_i p hp
   obtain ⟨los, f, args⟩ := p
   cases hb : lowC P n hs y with
   | none => rw [hb] at hl; cases hl
   | some body =>
    rw [hb, Option.map_some, Option.some.injEq] at hl
    subst hl
    unfold cutOf at hp
    split at hp
    ·rename_i id ops
     have h : zAY P los e H fun e1 H1 => (Out.normal = .normal ∧ ∃ k first caps, ev e1 f = .fn (.func k) first caps ∧ Enter P k ∧ zU P [.code body] (postD P rs R k (first ++ args.map (ev e1) ++ caps)) .normal e1 H1) := h
     have h : zAY P los e H fun e1 H1 => ∃ k first caps, ev e1 f = .fn (.func k) first caps ∧ Enter P k ∧ (fun k dargs e1 H1 => zU P [.code body] (postD P rs R k dargs) .normal e1 H1) k (first ++ args.map (ev e1) ++ caps) e1 H1 := zBK h fun _ _ hh => hh.2
     refine wpIn_seq (wpIn_region_list (opsD_sound (K := fun k dargs e1 H1 => zU P [.code body] (postD P rs R k dargs) .normal e1 H1) (fun k dargs e1 H1 a1 w1 ρ1 d vs hK hn1 hrel1 he1 hf1 hmk1 hrl1 htar hinv => ?_) ops.toList los f args e H a w hp h hst))
     refine code_sound (B := ⟨d :: a1.defers, True⟩) (X := X) (w0 := w1) (ρ0 := ρ1) (n0 := H1.length) (rd := none) (m0 := 0) (H := H1) (e := e1) y hb (.inl ⟨rfl, trivial⟩) hK ⟨hn1, ρ1, hrel1, he1, Fut.refl _ _ _, Mk.nil⟩ ?_
     intro o e' H' a' w' hk hst'
     obtain ⟨hn, ρ', g1, g2, g3, ds, d1, _, d2, d3⟩ := hst'
     obtain ⟨f1, f2, f3⟩ := pokes_ok ds d2 (fun D hD => ⟨(d3 D hD).1, (d3 D hD).2.2.2⟩) g1 g2 g3
     obtain ⟨fv, cap, htar⟩ := htar
     have go : ∀ m : Option Value, (ADef P k dargs m H' fun H'' => (zAO e' H'' rs).ok ∧ R (zAO e' H'' rs).x H'') → LeavesInM Fence.wide 0 P fn a'.tmps (fun en w' => ∃ v x H' ρ', en = .returned v ∧ R x H' ∧ HRel w' X ρ' H' ∧ Rep w' (Mut X ρ' H'.length) ρ' H'.length x v ∧ Fut w0 ρ0 n0 w' ρ' H'.length) a'.defers (mdOf m) w' := by
      intro m hd
      rw [d1]
      refine zB0 (by cases m <;> simp [mdOf]) ds w' d2 (fun D hD => (d3 D hD).2.2.2) ⟨by cases m <;> simp [mdOf], .inr ⟨fun hh => (by cases hh), fv, cap, k, vs, htar, hinv _, fun _ _ => trivial, ?_⟩⟩
      refine (hd X ρ' _ vs f1 (hrl1.nextN f3)).mono ?_
      rintro en u' w'' ⟨v, H'', ρ'', rfl, rfl, ⟨hok, hR⟩, q1, q2⟩
      have hm1 : Mk ⟨[], True⟩ w0 w'' ρ'' H''.length a1.defers := (hmk1.fut f3).fut q2
      obtain ⟨ds1, c1, _, c2, c3⟩ := hm1
      have he2 : ER w'' X ρ'' H'' n e' a' := fun t ht => (f2 t ht).nextN q2
      obtain ⟨p1, p2, p3⟩ := pokes_ok (w0 := w0) ds1 c2 (fun D hD => ⟨(c3 D hD).1, (c3 D hD).2.2.2⟩) q1 he2 ((hf1.trans f3).trans q2)
      show LeavesInM Fence.wide 0 P fn a'.tmps _ a1.defers (settle (zCj m)) w''
      rw [settle_after, c1]
      obtain ⟨_, v2, k3, k4⟩ := results_ok hr p1 p2 hok
      exact zB0 (by simp) ds1 w'' c2 (fun D hD => (c3 D hD).2.2.2) ⟨v2, k3, v2, _, H'', ρ'', rfl, hR, p1, k4, p3⟩
     cases o with
     | normal => exact go none hk
     | exit id => exact hk.elim
     | ret => exact go none hk
     | pan z => exact go (some z) hk
    ·cases hp
  ·split at hl
   ·rename_i la lb h1 h2
    simp only [Option.some.injEq] at hl
    subst hl
    refine wpIn_seq (code_sound x h1 (.inl ⟨rfl, trivial⟩) (h : awp P la e H _) hst fun o e' H' a' w' hk hs' => ?_)
    obtain ⟨rfl, hk⟩ := hk
    exact ihy lb e' H' a' w' h2 hk hs'
   ·cases hl
 | _ => intro ld e H a w hl; cases hl
theorem enterD {k : FuncId} {fn : Func} {hs : List Hn} {L : LFnD} {args : List AV} {R : AV → zB → Prop} (hf : P.funcs[k]? = some fn) (hl : lowFnD P fn hs = some L) (ha : args.length ≤ L.n)
  (h : wpD P L.res R L.body (envOf args 0) H) : ACall P k args H R := by
 unfold lowFnD at hl
 cases hb : fn.body with
 | none => simp [hb] at hl
 | some c =>
  cases hr : lowRs P fn.ntmps fn.results.toList with
  | none => simp [hb, hr] at hl
  | some rs =>
   simp only [hb, hr] at hl
   split at hl
   ·rename_i b hc
    split at hl
    ·rename_i hcond
     simp only [Option.some.injEq] at hl
     subst hl
     refine ⟨⟨fn, hf, by simp [hb], hcond.2⟩, fun X ρ w vs hrel hargs => (callsIn_wide (n := 0)).1 (callsIn_of_wp_marks hf hb trivial ?_)⟩
     have hvs : vs.size ≤ fn.ntmps := by rw [← hargs.1]; exact ha
     refine lowD_sound (X := X) (w0 := w) (ρ0 := ρ) (n0 := H.length) hr c b (envOf args 0) H _ w hc h ⟨by simp; omega, ρ, hrel, fun t ht => ?_, Fut.refl _ _ _, Mk.nil⟩
     rw [envOf_get, if_pos (Nat.zero_le _), Nat.sub_zero]
     by_cases htl : t < vs.size
     ·have hx : args[t]? = some (args[t]'(by rw [hargs.1]; exact htl)) := by simp
      rw [hx, Option.getD_some]
      refine hargs.2 t _ _ hx ?_
      simp [Array.getD_eq_getD_getElem?, Array.getElem?_append, htl]
     ·rw [List.getElem?_eq_none (by rw [hargs.1]; omega)]
      exact .any _ _
    ·cases hl
   ·cases hl
end
section
variable {P : Program} {w w0 w1 : World} {X : Nat → Prop} {ρ ρ0 ρ1 : Nat → Loc} {H H1 : zB} {e e1 : Env} {a a1 : Act} {n n0 : Nat}
def recV : Option Value → Value
 | none => .nilIface
 | some z => z
def recE (m : Option Value) (sl : List Nat) (e : Env) : Env := sl.foldl (fun e d => up e d (.v (recV m))) e
theorem recOp_run {o : Oper} {d : Nat} (h : recOp o = some d) (w : World) : o.guard = none ∧ o.dst = some d ∧ (execOp a.eval o).run P w = .ok .recover w := by
 unfold recOp at h
 split at h
 ·rename_i x y ho hg hd
  cases h
  refine ⟨hg, hd, ?_⟩
  unfold execOp
  rw [ho]
  rfl
 ·cases h
theorem movOp_run {o : Oper} {d d2 : Nat} (h : movOp d o = some d2) (w : World) : o.guard = none ∧ o.dst = some d2 ∧ (execOp a.eval o).run P w = .ok (.value (a.eval (.tmp d))) w := by
 unfold movOp at h
 split at h
 ·rename_i d' d2' ho hg hd
  split at h
  ·rename_i hdd
   cases h
   subst hdd
   refine ⟨hg, hd, ?_⟩
   unfold execOp
   rw [ho]
   rfl
  ·cases h
 ·rename_i d' d2' ho hg hd
  split at h
  ·rename_i hdd
   cases h
   subst hdd
   refine ⟨hg, hd, ?_⟩
   unfold execOp
   rw [ho]
   rfl
  ·cases h
 ·cases h
theorem recoverD_md {c₀ : Frame} {cs : List Frame} {m : Option Value} (h : c₀.mode = mdOf m) :
  (m = none ∧ recoverD (c₀ :: cs) = none ∧ c₀ :: cs = { c₀ with mode := zCj m } :: cs) ∨ (∃ z, m = some z ∧ recoverD (c₀ :: cs) = some (z, { c₀ with mode := zCj m } :: cs)) := by
 obtain ⟨f1, f2, f3, f4, md, f6, f7⟩ := c₀
 simp only at h
 subst h
 cases m with
 | none => exact .inl ⟨rfl, rfl, rfl⟩
 | some z => exact .inr ⟨z, rfl, rfl⟩
theorem enterDef {k : FuncId} {fn : Func} {hs : List Hn} {L : LDef} {args : List AV} {m : Option Value} {K : zB → Prop} (hf : P.funcs[k]? = some fn) (hl : lowDef P fn hs = some L) (ha : args.length ≤ L.n)
  (h : zU P [.code L.body] (fun o _ H' => (o = .normal ∨ o = .ret) ∧ K H') .normal (recE m L.sl (envOf args 0)) H) : ADef P k args m H K := by
 unfold lowDef at hl
 split at hl
 ·rename_i id ops rest hb
  split at hl
  ·rename_i sl b hsl hc
   split at hl
   ·rename_i hcond
    obtain ⟨hnr, hres, hpar⟩ := hcond
    simp only [Option.some.injEq] at hl
    subst hl
    intro X ρ w vs hrel hargs
    have hvs : vs.size ≤ fn.ntmps := by rw [← hargs.1]; exact ha
    refine callsDIn_of_wpSIn hf hb trivial fun c₀ cs hm => ?_
    refine wpSIn_seq (wpSIn_region ?_)
    have hst0 : St ⟨[], False⟩ X w ρ H.length fn.ntmps (envOf args 0) H { tmps := vs ++ Array.replicate (fn.ntmps - vs.size) undef, defers := [] } w := by
     refine ⟨by simp; omega, ρ, hrel, fun t ht => ?_, Fut.refl _ _ _, Mk.nil⟩
     rw [envOf_get, if_pos (Nat.zero_le _), Nat.sub_zero]
     by_cases htl : t < vs.size
     ·have hx : args[t]? = some (args[t]'(by rw [hargs.1]; exact htl)) := by simp
      rw [hx, Option.getD_some]
      refine hargs.2 t _ _ hx ?_
      simp [Array.getD_eq_getD_getElem?, Array.getElem?_append, htl]
     ·rw [List.getElem?_eq_none (by rw [hargs.1]; omega)]
      exact .any _ _
    generalize ({ tmps := vs ++ Array.replicate (fn.ntmps - vs.size) undef, defers := [] } : Act) = a0 at hst0 ⊢
    generalize envOf args 0 = e0 at hst0 h
    have fin : ∀ (a' : Act), St ⟨[], False⟩ X w ρ H.length fn.ntmps (recE m sl e0) H a' w → rest.wpSIn Fence.wide 0 P (bodyPostS P fn c₀ cs fun en u' w' => ∃ v H' ρ', en = .returned v ∧ u' = zCj m ∧ K H' ∧ HRel w' X ρ' H' ∧ Fut w ρ H.length w' ρ' H'.length) a' ({ c₀ with mode := zCj m } :: cs) w := by
     intro a' hst
     refine wpSIn_of_wpIn rfl ?_
     refine code_sound (B := ⟨[], False⟩) (rd := none) (m0 := 0) rest hc (.inr hnr) h hst fun o e' H' a2 w' hk hs' => ?_
     obtain ⟨ho, hK⟩ := hk
     obtain ⟨hn, ρ', g1, g2, g3, ds, d1, d0, d2, d3⟩ := hs'
     have hds : ds = [] := d0.resolve_left (fun hh => hh)
     subst hds
     obtain ⟨_, v, k3, _⟩ := results_ok (rs := []) (by rw [hres]; rfl) g1 g2 (show (zAO e' H' []).ok from fun r hr => by simp at hr)
     have hpost : a2.defers = [] ∧ ∃ u', ({ c₀ with mode := zCj m } :: cs : List Frame) = { c₀ with mode := u' } :: cs ∧ ∃ v, (results fn a2.tmps).run P w' = .ok v w' ∧ ∃ v' H' ρ', (Ending.returned v) = .returned v' ∧ u' = zCj m ∧ K H' ∧ HRel w' X ρ' H' ∧ Fut w ρ H.length w' ρ' H'.length :=
      ⟨by rw [d1]; rfl, zCj m, rfl, v, k3, v, H', ρ', rfl, rfl, hK, g1, g3⟩
     rcases ho with rfl | rfl <;> exact hpost
    have one : ∀ (o : Oper) (d : Nat), recOp o = some d → o.guard = none ∧ ∀ (Q : Exit → Act → List Frame → World → Prop) (ops : Array Oper) (l : List Nat) (i : Nat), ops[i]? = some o →
      (∀ a', St ⟨[], False⟩ X w ρ H.length fn.ntmps (up e0 d (.v (recV m))) H a' w → wpOpsSIn Fence.wide 0 P ops Q l a' ({ c₀ with mode := zCj m } :: cs) w) → wpOpsSIn Fence.wide 0 P ops Q (i :: l) a0 (c₀ :: cs) w := by
     intro o d hod
     refine ⟨(recOp_run (P := P) (a := a0) hod w).1, fun Q ops l i hi hk => ?_⟩
     obtain ⟨hg, hdst, hrun⟩ := recOp_run (P := P) (a := a0) hod w
     obtain ⟨hs1, ρ1, hrel1, he1, hfu1, hmk1⟩ := hst0
     have hput : St ⟨[], False⟩ X w ρ H.length fn.ntmps (up e0 d (.v (recV m))) H (a0.put (some d) (recV m)) w := St.put (d := some d) hmk1 hs1 he1 hfu1 hrel1 (.v _ _) (Fut.refl _ _ _)
     have hk := hk _ hput
     unfold wpOpsSIn
     rw [hi]
     refine ⟨fun _ _ => trivial, ?_⟩
     rw [if_pos (zBM hg _), hrun]
     rcases recoverD_md (cs := cs) hm with ⟨rfl, hr, he⟩ | ⟨z, rfl, hr⟩
     ·simp only [hr, hdst]
      rw [he]
      exact hk
     ·simp only [hr, hdst]
      exact hk
    unfold recOps at hsl
    split at hsl
    ·rename_i o ho
     obtain ⟨d, hd, rfl⟩ := zAl hsl
     obtain rfl : ops = #[o] := by apply Array.ext'; simpa using ho
     exact (one o d hd).2 _ _ [] 0 rfl fun a' hs' => fin a' hs'
    ·rename_i o o1 ho
     split at hsl
     ·rename_i d hd
      obtain ⟨d2, hd2, rfl⟩ := zAl hsl
      obtain rfl : ops = #[o, o1] := by apply Array.ext'; simpa using ho
      refine (one o d hd).2 _ _ [1] 0 rfl fun a' hs' => ?_
      obtain ⟨hg, hdst, hrun⟩ := movOp_run (P := P) (a := a') hd2 w
      obtain ⟨hs1, ρ1, hrel1, he1, hfu1, hmk1⟩ := hs'
      have hdn : d < fn.ntmps := by simp at hpar; exact hpar.1
      have hrep := he1 d hdn
      rw [up_same] at hrep
      have hput := St.put (d := some d2) hmk1 hs1 he1 hfu1 hrel1 hrep (Fut.refl _ _ _)
      unfold wpOpsSIn
      rw [show (#[o, o1] : Array Oper)[1]? = some o1 from rfl]
      refine ⟨fun _ _ => trivial, ?_⟩
      rw [if_pos (zBM hg _), hrun]
      simp only [hdst]
      exact fin _ hput
     ·cases hsl
    ·cases hsl
   ·cases hl
  ·cases hl
 ·cases hl
end
end Go.Ax
namespace Go.Ax
open Go
set_option linter.unusedSimpArgs false
set_option linter.unusedVariables false
section
variable {P : Program} {k : List Item} {Q : Out → Env → zB → Prop} {e : Env} {H : zB}
theorem aopsX_calm {hd : List LO} {e1 : Env} : ∀ {tl : List (LO × List Nat)} {e : Env} {H : zB} {K : Env → zB → Prop} {Z : Value → zB → Prop}, aopsX P hd e1 (tl.map fun p => (p.1, false, p.2)) e H K Z = aopsK P hd e1 tl e H K
 | [], _, _, _, _ => rfl
 | (o, js) :: tl, e, H, K, Z => by
  show aTI P false o e H (fun e' H' => keepA P hd e1 H' js ∧ aopsX P hd e1 (tl.map fun p => (p.1, false, p.2)) e' H' K Z) Z = zAY P [o] e H fun e' H' => keepA P hd e1 H' js ∧ aopsK P hd e1 tl e' H' K
  have : (fun e' H' => keepA P hd e1 H' js ∧ aopsX P hd e1 (tl.map fun p => (p.1, false, p.2)) e' H' K Z) = fun e' H' => keepA P hd e1 H' js ∧ aopsK P hd e1 tl e' H' K := by
   funext e' H'
   rw [aopsX_calm]
  rw [this]
  rfl
@[push_cast] theorem rk_drawA (hd : List LO) (tl : List (LO × List Nat)) (gs : List LO) : zU P (.code (.drawA hd tl gs) :: k) Q .normal e H = zU P (.opq hd [] :: .opx hd (tl.map fun p => (p.1, false, p.2)) gs e :: k) Q .normal e H := by
 show zAZ P hd e H (fun e1 => aopsK P hd e1 tl e1 H fun e' H' => zAY P gs e' H' (zU P k Q .normal)) = zAZ P hd e H fun e' => zAY P [] e' H fun e1 H1 => aopsX P hd e1 (tl.map fun p => (p.1, false, p.2)) e1 H1 (fun e' H' => zAY P gs e' H' (zU P k Q .normal)) fun v H' => zU P k Q (.pan v) e H'
 simp only [aopsX_calm]
 rfl
attribute [push_cast] List.map_cons List.map_nil
@[push_cast] theorem wpD_seq (res : List RV) (R : AV → zB → Prop) (a : LCode) (b : LD) : wpD P res R (.seq a b) e H = zU P [.code a] (fun o e' H' => o = .normal ∧ wpD P res R b e' H') .normal e H := rfl
@[push_cast] theorem wpD_cut (res : List RV) (R : AV → zB → Prop) (los : List LO) (f : LX) (args : List LX) (body : LCode) : wpD P res R (.cut los f args body) e H = zU P [.ops los] (fun o e1 H1 => o = .normal ∧ ∃ k first caps, ev e1 f = .fn (.func k) first caps ∧ Enter P k ∧ zU P [.code body] (postD P res R k (first ++ args.map (ev e1) ++ caps)) .normal e1 H1) .normal e H := rfl
theorem zL {d : Option Nat} {f : FuncId} {args : List AV} {v : Value} (h : ACallX P f args H (fun _ _ => False) fun z H' => z = v ∧ H' = H) (hk : zU P k Q (.pan v) e H) : callXF P f args H e d k Q :=
 zG h (fun _ _ hh => hh.elim) fun z H' ⟨h1, h2⟩ => by subst h1; subst h2; exact hk
@[push_cast] theorem out_norm : (Out.normal = .normal) = True := by simp
end
end Go.Ax
