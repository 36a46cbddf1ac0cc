/- Parts,merged by a program (wip/tools/merge2.py): Ax32 Ax33 Ax34 Ax35 Ax36 Ax36b Ct1 Ct2 Ct3 Ct4 Ct5 Cp12 Cr4 Shelf2 It1 Cr5 Ax40 CrQ. -/
import Derived.Test.YtbibhcmcjldhdaaGreatDoorM5
import Derived.Test.YtbibhcmcjldhdaaGreatDoorChecked
import Derived.KernelRfl
import Derived.Shelf.Strconv.Itoa0
import Derived.Shelf.Strconv.Itoa1
import Derived.Shelf.LaysM
import Derived.Shelf.Strconv.Itoa2
import Derived.Shelf.Strconv.Itoa3
import Derived.Test.YtbibhcmcjldhdaaGreatDoorProg
import Derived.LaidSub
import Derived.Test.YtbibhcmcjldhdaaGreatDoorRows
import Derived.JoinedCond
import Derived.ProofKit
import Derived.Deep.DeepHandedRow
import Derived.Test.YtbibhcmcjldhdaaGreatDoorCards
import Derived.Test.YtbibhcmcjldhdaaGreatDoorTie
namespace Go.Ax
open Go
set_option linter.unusedSimpArgs false
set_option linter.unusedVariables false
inductive Up where
 | keep
 | set (r : Nat) (o : HO)
 | push (o : HO)
 | set2 (r : Nat) (o : HO) (r' : Nat) (o' : HO)
def Up.app : Up → zA → zA
 | .keep,H => H
 | .set r o,H => H.set r o
 | .push o,H => H ++ [o]
 | .set2 r o r' o',H => (H.set r o).set r' o'
abbrev Rt := Option (AV × Up)
def gB (b : Bool) (x : AV) (u : Up) : Rt := cond b (some (x,u)) none
theorem zBM {b : Bool} {x y : AV} {u v : Up} (h : gB b x u = some (y,v)) : b = true ∧ x = y ∧ u = v := by
 cases b
 ·cases h
 ·simp only [gB,zZI,zYT,zZi] at h; exact ⟨rfl,h⟩
def zEJ (t : Rt) (r : Res) (H : zA) : Prop := ∀ x u,t = some (x,u) → r.ok ∧ r.x = x ∧ r.H = u.app H
def ltI : Int → Int → Bool
 | .ofNat a,.ofNat b => Nat.blt a b
 | .negSucc _,.ofNat _ => true
 | .ofNat _,.negSucc _ => false
 | .negSucc a,.negSucc b => Nat.blt b a
def eqI : Int → Int → Bool
 | .ofNat a,.ofNat b => Nat.beq a b
 | .negSucc a,.negSucc b => Nat.beq a b
 | _,_ => false
def leI (a b : Int) : Bool := !ltI b a
theorem zGR (a b : Int) : ltI a b = decide (a < b) := by
 rw [zzac,zY5]
 cases a <;> cases b <;> simp only [ltI,zZ8,zZn,true_iff,false_iff,zzau] <;> omega
theorem zKZ (a b : Int) : eqI a b = decide (a = b) := by
 rw [zzac,zY5]
 cases a <;> cases b <;> simp only [eqI,Nat.beq_eq_true_eq,zZn,false_iff,zzau,zZH] <;> omega
theorem zQ7 (a b : Int) : leI a b = decide (a ≤ b) := by
 unfold leI
 rw [zGR,zzac]
 simp
def eqL : List UInt8 → List UInt8 → Bool
 | [],[] => true
 | a :: l,b :: m => cond (Nat.beq a.toNat b.toNat) (eqL l m) false
 | _,_ => false
theorem zIX : ∀ a b : List UInt8,eqL a b = decide (a = b)
 | [],[] => by simp [eqL]
 | [],_ :: _ => by simp [eqL]
 | _ :: _,[] => by simp [eqL]
 | a :: l,b :: m => by
  simp only [eqL]
  by_cases h : a.toNat = b.toNat
  ·rw [h,Nat.beq_refl,zZI,zIX l m]
   have e : a = b := UInt8.toNat_inj.1 h
   simp [e]
  ·have hb : Nat.beq a.toNat b.toNat = false := by
    cases hh : Nat.beq a.toNat b.toNat
    ·rfl
    ·exact (h (zZU hh)).elim
   rw [hb,cond_false]
   have e : a ≠ b := fun e => h (by rw [e])
   simp [e]
def eqB : Bool → Bool → Bool
 | true,true => true
 | false,false => true
 | _,_ => false
theorem zK0 (a b : Bool) : eqB a b = decide (a = b) := by cases a <;> cases b <;> rfl
def eqK : IntKind → IntKind → Bool
 | .i64,.i64 => true
 | .u8,.u8 => true
 | .u64,.u64 => true
 | .i32,.i32 => true
 | _,_ => false
theorem zOf {a b : IntKind} (h : eqK a b = true) : a = b := by cases a <;> cases b <;> first | rfl | cases h
def zHk (k : IntKind) (n : Int) : Int := match k with
 | .i64 => cond (leI (-9223372036854775808) n && ltI n 9223372036854775808) n (IntKind.wrap .i64 n)
 | k => k.wrap n
theorem zHj (k : IntKind) (n : Int) : zHk k n = k.wrap n := by
 cases k <;> try rfl
 simp only [zHk]
 rw [zQ7,zGR]
 by_cases h : -9223372036854775808 ≤ n ∧ n < 9223372036854775808
 ·rw [zZz h.1,zZz h.2,zMk n h.1 h.2]; rfl
 ·have : (decide (-9223372036854775808 ≤ n) && decide (n < 9223372036854775808)) = false := by
   rw [zzaN]
   simpa using h
  rw [this]; rfl
def fN {β : Type} (n : Nat) (k : Nat → β) : β := Nat.casesOn n (k 0) fun m => k (m + 1)
def fI {β : Type} (n : Int) (k : Int → β) : β := Int.casesOn n (fun m => fN m fun m => k (.ofNat m)) (fun m => fN m fun m => k (.negSucc m))
theorem zE4 {β : Type} (n : Nat) (k : Nat → β) : fN n k = k n := by cases n <;> rfl
theorem zSN {β : Type} (n : Int) (k : Int → β) : fI n k = k n := by cases n <;> simp [fI,zE4]
def cl1 : AV → Bool
 | .os .. => false
 | .ptr .. => false
 | .pe .. => false
 | .om .. => false
 | .agg _ => false
 | .tup _ => false
 | .fn _ [] [] => true
 | .fn _ _ _ => false
 | _ => true
def clT : AV → Bool
 | .agg cs => cs.all cl1
 | x => cl1 x
def cl2 : AV → Bool
 | .agg cs => cs.all cl1
 | .tup cs => cs.all fun x => match x with | .agg cs => cs.all cl1 | x => cl1 x
 | .fn _ a b => a.all cl1 && b.all cl1
 | x => cl1 x
theorem zOs {x : AV} (h : cl1 x = true) : x.cl = true := by
 cases x with
 | fn f a b => cases a <;> cases b <;> simp [cl1] at h; simp [AV.cl,clL]
 | _ => first | (simp [cl1] at h; done) | simp [AV.cl]
theorem zDo : ∀ {l : List AV},l.all cl1 = true → clL l = true
 | [],_ => by simp [clL]
 | x :: l,h => by
  simp only [zzaY,zYX] at h
  simp only [clL,zYX]
  exact ⟨zOs h.1,zDo h.2⟩
theorem zRg : ∀ {l : List AV},l.all clT = true → clL l = true
 | [],_ => by simp [clL]
 | x :: l,h => by
  simp only [zzaY,zYX] at h
  simp only [clL,zYX]
  refine ⟨?_,zRg h.2⟩
  cases x with
  | agg cs => simp only [AV.cl]; exact zDo h.1
  | _ => exact zOs h.1
theorem zOq {x : AV} (h : cl2 x = true) : x.cl = true := by
 cases x with
 | agg cs => simp only [AV.cl]; exact zDo h
 | tup cs =>
  simp only [AV.cl]
  exact zRg h
 | fn f a b =>
  simp only [cl2,zYX] at h
  simp only [AV.cl,zYX]
  exact ⟨zDo h.1,zDo h.2⟩
 | _ => exact zOs h
def zMw (ag : Bool) (n off : Nat) (cs : List AV) (b : Bool) : Rt := gB (b && (Nat.ble (off + n) cs.length && (ag || Nat.beq n 1))) (cellsV ag n (cs.drop off)) .keep
theorem zFn {ag : Bool} {n off : Nat} {cs : List AV} {b : Bool} {x : AV} {u : Up} (h : zMw ag n off cs b = some (x,u)) : b = true ∧ off + n ≤ cs.length ∧ (ag = true ∨ n = 1) ∧ cellsV ag n (cs.drop off) = x ∧ u = .keep := by
 obtain ⟨h1,h2,h3⟩ := zBM h
 simp only [zYX,zzae,zZM,zZH] at h1
 exact ⟨h1.1,h1.2.1,h1.2.2,h2,h3.symm⟩
def zJj (ag : Bool) (n : Nat) (g : Nat → Option HO) : AV → Rt
 | .vp cs off => zMw ag n off cs true
 | .ptr r ver off => match g r with
  | some (.box cs) => zMw ag n off cs (Nat.beq ver 0)
  | _ => none
 | .pe r ver i off => match g r with
  | some (.arr v sz xs) => cond (Nat.ble (off + n) sz) (zMw ag n off (xs.getD i []) (Nat.beq ver v && Nat.blt i xs.length)) none
  | _ => none
 | _ => none
theorem zHn {ag : Bool} {n : Nat} {H : zA} {p : AV} : zEJ (zJj ag n (fun r => H[r]?) p) (rLoad ag n p H) H := by
 intro x u h
 cases p with
 | vp cs off =>
  obtain ⟨_,h1,h2,h3,rfl⟩ := zFn h
  exact ⟨⟨h1,h2⟩,h3,rfl⟩
 | ptr r ver off =>
  simp only [zJj] at h
  split at h
  ·rename_i cs hr
   obtain ⟨h0,h1,h2,h3,rfl⟩ := zFn h
   have h0 := zZU h0
   subst h0
   simp only [rLoad,hr,rLoadO,Res.also,isBox,isVer]
   exact ⟨⟨⟨trivial,trivial⟩,h1,h2⟩,h3,rfl⟩
  ·cases h
 | pe r ver i off =>
  simp only [zJj] at h
  split at h
  ·rename_i v sz xs hr
   cases hb : Nat.ble (off + n) sz
   ·rw [hb] at h; cases h
   ·rw [hb,zZI] at h
    obtain ⟨h0,h1,h2,h3,rfl⟩ := zFn h
    simp only [zYX,zZH,zZ8] at h0
    obtain ⟨rfl,h0⟩ := h0
    simp only [rLoad,hr,rLoadO,Res.also,isArr,isVer]
    exact ⟨⟨⟨trivial,trivial⟩,h0,zY0 hb,h2⟩,h3,rfl⟩
  ·cases h
 | _ => cases h
def zGC (n : Nat) (g : Nat → Option HO) (p x : AV) : Rt :=
 match p with
 | .ptr r ver off => match g r with
  | some (.box cs) => gB (Nat.beq ver 0 && Nat.ble (off + n) cs.length && Nat.beq (cellsOf x).length n && c1s (cellsOf x)) .any (.set r (.box (splice cs off (cellsOf x))))
  | _ => none
 | .pe r ver i off => match g r with
  | some (.arr v sz xs) => gB (Nat.beq ver v && Nat.blt i xs.length && Nat.ble (off + n) sz && Nat.beq (cellsOf x).length n && c1s (cellsOf x)) .any (.set r (.arr v sz (xs.set i (splice (xs.getD i []) off (cellsOf x)))))
  | _ => none
 | _ => none
theorem zIb {n : Nat} {H : zA} {p x : AV} : zEJ (zGC n (fun r => H[r]?) p x) (rStore n p x H) H := by
 intro y u h
 cases p with
 | ptr r ver off =>
  simp only [zGC] at h
  split at h
  ·rename_i cs hr
   obtain ⟨h1,h2,h3⟩ := zBM h
   simp only [zYX,zzae,zZH] at h1
   obtain ⟨⟨⟨rfl,a1⟩,a2⟩,a3⟩ := h1
   simp only [rStore,hr,rStoreO,Res.also,isBox,isVer]
   exact ⟨⟨⟨trivial,trivial⟩,a1,a2,a3⟩,h2,by rw [← h3]; rfl⟩
  ·cases h
 | pe r ver i off =>
  simp only [zGC] at h
  split at h
  ·rename_i v sz xs hr
   obtain ⟨h1,h2,h3⟩ := zBM h
   simp only [zYX,zzae,zZH,zZ8] at h1
   obtain ⟨⟨⟨⟨rfl,a1⟩,a2⟩,a3⟩,a4⟩ := h1
   simp only [rStore,hr,rStoreO,Res.also,isArr,isVer]
   exact ⟨⟨⟨trivial,trivial⟩,a1,a2,a3,a4⟩,h2,by rw [← h3]; rfl⟩
  ·cases h
 | _ => cases h
def zXt (imm : Bool) (n : Nat) (x : AV) : Rt := cond imm (gB (c1s (cellsOf x) && (cellsOf x).all cl1) (.vp (cellsOf x) 0) .keep) (gB (c1s (cellsOf x)) (.ptr n 0 0) (.push (.box (cellsOf x))))
theorem zRD {imm : Bool} {x : AV} {H : zA} : zEJ (zXt imm H.length x) (rBox imm x H) H := by
 intro y u h
 cases imm with
 | true =>
  obtain ⟨h1,h2,h3⟩ := zBM h
  simp only [zYX] at h1
  exact ⟨⟨h1.1,zDo h1.2⟩,h2,by rw [← h3]; rfl⟩
 | false =>
  obtain ⟨h1,h2,h3⟩ := zBM h
  exact ⟨h1,h2,by rw [← h3]; rfl⟩
def zLe : List AV → List (Nat × Nat × AV) → Option (List AV)
 | cs,[] => some cs
 | cs,(off,n,x) :: ps => cond (Nat.beq (cellsOf x).length n && Nat.ble (off + n) cs.length && c1s (cellsOf x)) (zLe (splice cs off (cellsOf x)) ps) none
theorem zKg : ∀ {ps : List (Nat × Nat × AV)} {cs r : List AV},zLe cs ps = some r → (fillA cs ps).1 ∧ (fillA cs ps).2 = r
 | [],cs,r,h => by simp only [zLe,zYT] at h; exact ⟨trivial,h⟩
 | (off,n,x) :: ps,cs,r,h => by
  simp only [zLe] at h
  cases hb : (Nat.beq (cellsOf x).length n && Nat.ble (off + n) cs.length && c1s (cellsOf x))
  ·rw [hb] at h; cases h
  ·rw [hb,zZI] at h
   simp only [zYX,zzae,zZH] at hb
   obtain ⟨h1,h2⟩ := zKg h
   exact ⟨⟨⟨hb.1.1,hb.1.2,hb.2⟩,h1⟩,h2⟩
def zIf (sz : Nat) : List (List AV) → List (Nat × AV) → Option (List (List AV))
 | xs,[] => some xs
 | xs,(i,x) :: ps => cond (Nat.beq (cellsOf x).length sz && Nat.blt i xs.length && c1s (cellsOf x) && (cellsOf x).all cl1) (zIf sz (xs.set i (cellsOf x)) ps) none
theorem zIe {sz : Nat} : ∀ {ps : List (Nat × AV)} {xs r : List (List AV)},zIf sz xs ps = some r → (fillS sz xs ps).1 ∧ (fillS sz xs ps).2 = r
 | [],xs,r,h => by simp only [zIf,zYT] at h; exact ⟨trivial,h⟩
 | (i,x) :: ps,xs,r,h => by
  simp only [zIf] at h
  cases hb : (Nat.beq (cellsOf x).length sz && Nat.blt i xs.length && c1s (cellsOf x) && (cellsOf x).all cl1)
  ·rw [hb] at h; cases h
  ·rw [hb,zZI] at h
   simp only [zYX,zZ8,zZH] at hb
   obtain ⟨h1,h2⟩ := zIe h
   exact ⟨⟨⟨hb.1.1.1,hb.1.1.2,hb.1.2,zDo hb.2⟩,h1⟩,h2⟩
def zWi (imm : Bool) (sz len n : Nat) (zs : List AV) (ps : List (Nat × AV)) : Rt :=
 match zIf sz (List.replicate len zs) ps with
 | some r => cond imm (some (cond (Nat.beq len 0) .nc (.sl sz r),.keep)) (some (.os n 0 0 len,.push (.arr 0 sz r)))
 | none => none
theorem zRC {imm : Bool} {sz len : Nat} {zs : List AV} {ps : List (Nat × AV)} {H : zA} : zEJ (zWi imm sz len H.length zs ps) (rBsl imm sz len zs ps H) H := by
 intro y u h
 simp only [zWi] at h
 split at h
 ·rename_i r hr
  obtain ⟨h1,h2⟩ := zIe hr
  cases imm with
  | true =>
   simp only [zZI,zYT,zZi] at h
   simp only [rBsl,if_true]
   refine ⟨h1,?_,by rw [← h.2]; rfl⟩
   rw [h2,← h.1]
   by_cases h0 : len = 0
   ·subst h0; rfl
   ·rw [if_neg h0]
    have hb : Nat.beq len 0 = false := by cases len with | zero => exact absurd rfl h0 | succ n => rfl
    rw [hb]; rfl
  | false =>
   simp only [cond_false,zYT,zZi] at h
   simp only [rBsl,zZn,if_false]
   exact ⟨h1,h.1,by rw [← h.2,h2]; rfl⟩
 ·cases h
def vI (op : BinOp) (k k' : IntKind) (a b : Int) : Option AV :=
 cond (eqK k k') (match op with
  | .add => fI (zHk k (a + b)) fun n => some (.v (.int k n))
  | .sub => fI (zHk k (a - b)) fun n => some (.v (.int k n))
  | .mul => fI (zHk k (a * b)) fun n => some (.v (.int k n))
  | .quo => cond (eqI b 0) none (fI (zHk k (a.tdiv b)) fun n => some (.v (.int k n)))
  | .rem => cond (eqI b 0) none (fI (a.tmod b) fun n => some (.v (.int k n)))
  | .eql => some (bool (eqI a b))
  | .neq => some (bool (!eqI a b))
  | .lss => some (bool (ltI a b))
  | .leq => some (bool (leI a b))
  | .gtr => some (bool (ltI b a))
  | .geq => some (bool (leI b a))
  | _ => none) none
theorem zXp {op : BinOp} {k k' : IntKind} {a b : Int} {x : AV} (H : zA) (h : vI op k k' a b = some x) : (iBin op k k' a b H).ok ∧ (iBin op k k' a b H).x = x ∧ (iBin op k k' a b H).H = H := by
 unfold vI at h
 cases hk : eqK k k' with
 | false => rw [hk] at h; cases h
 | true =>
  rw [hk,zZI] at h
  have hkk := zOf hk
  cases op <;> simp only [zSN,zHj,zKZ,zGR,zQ7,zYT] at h <;> first | (cases h; done) | exact ⟨hkk,h,rfl⟩ | skip
  all_goals
   by_cases hb : b = 0
   ·simp [hb] at h
   ·simp only [hb,decide_false,cond_false,zYT] at h
    exact ⟨⟨hkk,hb⟩,h,rfl⟩
def vS (op : BinOp) (a b : List UInt8) : Option AV :=
 match op with
 | .add => cond (Nat.ble (a.length + b.length) 9223372036854775807) (some (str (a ++ b))) none
 | .eql => some (bool (eqL a b))
 | .neq => some (bool (!eqL a b))
 | .lss => some (bool (Op.bytesLess a b))
 | .geq => some (bool (!Op.bytesLess a b))
 | _ => none
theorem zXo {op : BinOp} {a b : List UInt8} {x : AV} (H : zA) (h : vS op a b = some x) : (sBin op a b H).ok ∧ (sBin op a b H).x = x ∧ (sBin op a b H).H = H := by
 cases op <;> simp only [vS,zIX,zYT] at h <;> first | (cases h; done) | exact ⟨trivial,h,rfl⟩ | skip
 cases hb : Nat.ble (a.length + b.length) 9223372036854775807
 ·rw [hb] at h; cases h
 ·rw [hb,zZI,zYT] at h
  have := zY0 hb
  refine ⟨?_,h,rfl⟩
  show ((a.length + b.length : Nat) : Int) ≤ 9223372036854775807
  omega
def vC : List KD → List AV → List AV → Option Bool
 | [],[],[] => some true
 | .int :: ks,.v (.int k a) :: l,.v (.int k' b) :: m => cond (eqK k k') (match vC ks l m with | some r => some (eqI a b && r) | none => none) none
 | .str :: ks,.v (.string a) :: l,.v (.string b) :: m => match vC ks l m with | some r => some (eqL (bs a) (bs b) && r) | none => none
 | .bool :: ks,.v (.bool a) :: l,.v (.bool b) :: m => match vC ks l m with | some r => some (eqB a b && r) | none => none
 | _,_,_ => none
theorem zXs : ∀ {ks : List KD} {l m : List AV} {r : Bool},vC ks l m = some r → (cEq ks l m).1 ∧ (cEq ks l m).2 = r := by
 intro ks
 induction ks with
 | nil =>
  intro l m r h
  cases l <;> cases m <;> simp [vC] at h
  subst h
  exact ⟨trivial,rfl⟩
 | cons k ks ih =>
  intro l m r h
  cases k <;> cases l <;> cases m <;> (try simp only [vC] at h) <;> first | (cases h; done) | skip
  all_goals (rename_i x l y m; cases x <;> (try simp only [vC] at h) <;> first | (cases h; done) | skip)
  all_goals (rename_i v; cases v <;> (try simp only [vC] at h) <;> first | (cases h; done) | skip)
  all_goals (cases y <;> (try simp only [vC] at h) <;> first | (cases h; done) | skip)
  all_goals (rename_i v; cases v <;> (try simp only [vC] at h) <;> first | (cases h; done) | skip)
  ·rename_i k a k' b
   cases hk : eqK k k' with
   | false => rw [hk] at h; cases h
   | true =>
    rw [hk,zZI] at h
    have hkk := zOf hk
    subst hkk
    split at h
    ·rename_i r' hr
     obtain ⟨h1,h2⟩ := ih hr
     simp only [zYT] at h
     refine ⟨⟨⟨rfl,rfl,by simp [kCmp]⟩,h1⟩,?_⟩
     rw [← h,← h2,zKZ]
     simp only [cEq,kEq]
     congr 1
     rw [zzac]; simp
    ·cases h
  ·split at h
   ·rename_i r' hr
    obtain ⟨h1,h2⟩ := ih hr
    simp only [zYT] at h
    refine ⟨⟨⟨rfl,rfl,rfl⟩,h1⟩,?_⟩
    rw [← h,← h2,zIX]
    simp only [cEq,kEq]
    congr 1
    rw [zzac]; simp
   ·cases h
  ·split at h
   ·rename_i r' hr
    obtain ⟨h1,h2⟩ := ih hr
    simp only [zYT] at h
    refine ⟨⟨⟨rfl,rfl,rfl⟩,h1⟩,?_⟩
    rw [← h,← h2,zK0]
    simp only [cEq,kEq]
    congr 1
   ·cases h
def vEq (op : BinOp) (b : Bool) : Option AV :=
 match op with
 | .eql => some (bool b)
 | .neq => some (bool (!b))
 | _ => none
def zWj (kd : KD) (op : BinOp) (x y : AV) : Option AV :=
 match x,y with
 | .v (.int k a),.v (.int k' b) => vI op k k' a b
 | .v (.string a),.v (.string b) => vS op (bs a) (bs b)
 | .v (.bool a),.v (.bool b) => match kd with | .bool => vEq op (eqB a b) | _ => none
 | .agg xs,.agg ys => match kd with
  | .agg ks => match vC ks xs ys with | some b => vEq op b | none => none
  | _ => none
 | _,_ => none
theorem zQB {op : BinOp} {b : Bool} {p : Prop} {x : AV} (H : zA) (hp : p) (h : vEq op b = some x) : (eqRes op p b H).ok ∧ (eqRes op p b H).x = x ∧ (eqRes op p b H).H = H := by
 cases op <;> simp only [vEq,zYT] at h <;> first | (cases h; done) | exact ⟨hp,h,rfl⟩
theorem zRE {kd : KD} {op : BinOp} {x y z : AV} (H : zA) (h : zWj kd op x y = some z) : (rBin kd op x y H).ok ∧ (rBin kd op x y H).x = z ∧ (rBin kd op x y H).H = H := by
 unfold zWj at h
 split at h
 ·exact zXp H h
 ·exact zXo H h
 ·split at h
  ·rw [zK0] at h; exact zQB H rfl h
  ·cases h
 ·split at h
  ·split at h
   ·rename_i b hb
    obtain ⟨h1,h2⟩ := zXs hb
    simp only [rBin]
    rw [h2]
    exact zQB H h1 h
   ·cases h
  ·cases h
 ·cases h
def zQz (g : Nat → Option HO) (x : AV) : Rt :=
 match x with
 | .vp _ _ => some (x,.keep)
 | .mp _ _ => some (x,.keep)
 | .fn (.func _) _ _ => some (x,.keep)
 | .ptr r ver _ => match g r with
  | some (.box _) => gB (Nat.beq ver 0) x .keep
  | _ => none
 | .pe r ver _ _ => match g r with
  | some (.arr v _ _) => gB (Nat.beq ver v) x .keep
  | _ => none
 | _ => none
theorem zRt {H : zA} {x : AV} : zEJ (zQz (fun r => H[r]?) x) (rNil x H) H := by
 intro y u h
 cases x with
 | vp cs o => simp only [zQz,zYT,zZi] at h; exact ⟨trivial,h.1,by rw [← h.2]; rfl⟩
 | mp ks vs => simp only [zQz,zYT,zZi] at h; exact ⟨trivial,h.1,by rw [← h.2]; rfl⟩
 | fn f a b => cases f <;> simp only [zQz,zYT,zZi] at h <;> first | (cases h; done) | exact ⟨trivial,h.1,by rw [← h.2]; rfl⟩
 | ptr r ver off =>
  simp only [zQz] at h
  split at h
  ·rename_i cs hr
   obtain ⟨h1,h2,h3⟩ := zBM h
   simp only [zZH] at h1
   simp only [rNil,hr,isVer]
   exact ⟨h1,h2,by rw [← h3]; rfl⟩
  ·cases h
 | pe r ver i off =>
  simp only [zQz] at h
  split at h
  ·rename_i v sz xs hr
   obtain ⟨h1,h2,h3⟩ := zBM h
   simp only [zZH] at h1
   simp only [rNil,hr,isVer]
   exact ⟨h1,h2,by rw [← h3]; rfl⟩
  ·cases h
 | _ => cases h
def zO6 (g : Nat → Option HO) (sz : Nat) : AV → Option (List (List AV))
 | .sl sz' xs => cond (Nat.beq sz' sz || xs.isEmpty) (some xs) none
 | .os r ver off len => match g r with
  | some (.arr v sz' xs) => cond (Nat.beq ver v && Nat.beq sz' sz && Nat.ble (off + len) xs.length) (some ((xs.drop off).take len)) none
  | _ => none
 | .v (.slice none 0 0) => some []
 | .nc => some []
 | .v (.string s) => cond (Nat.beq sz 1) (some ((bs s).map zBv)) none
 | _ => none
theorem zKf {H : zA} {sz : Nat} {x : AV} {rows : List (List AV)} (h : zO6 (fun r => H[r]?) sz x = some rows) : rowsOf H x = some rows ∧ szOk H sz x := by
 unfold zO6 at h
 split at h
 ·rename_i sz' xs
  cases hb : (Nat.beq sz' sz || xs.isEmpty)
  ·rw [hb] at h; cases h
  ·rw [hb,zZI,zYT] at h
   simp only [zZM,zZH,zzav] at hb
   exact ⟨by rw [← h]; rfl,hb⟩
 ·rename_i r ver off len
  split at h
  ·rename_i v sz' xs hr
   cases hb : (Nat.beq ver v && Nat.beq sz' sz && Nat.ble (off + len) xs.length)
   ·rw [hb] at h; cases h
   ·rw [hb,zZI,zYT] at h
    simp only [zYX,zZH,zzae] at hb
    obtain ⟨⟨rfl,rfl⟩,hle⟩ := hb
    refine ⟨?_,?_⟩
    ·simp only [rowsOf,osRows,hr]
     rw [if_pos ⟨trivial,hle⟩,h]
    ·simp only [szOk,hr]
  ·cases h
 ·simp only [zYT] at h; exact ⟨by rw [← h]; rfl,trivial⟩
 ·simp only [zYT] at h; exact ⟨by rw [← h]; rfl,trivial⟩
 ·rename_i s
  cases hb : Nat.beq sz 1
  ·rw [hb] at h; cases h
  ·rw [hb,zZI,zYT] at h
   exact ⟨by rw [← h]; rfl,zZU hb⟩
 ·cases h
def zPd (g : Nat → Option HO) (c : Cv) (x : AV) : Rt :=
 match c,x with
 | .toInt k,.v (.int _ n) => fI (zHk k n) fun n => some (.v (.int k n),.keep)
 | .same,.v (.string s) => some (.v (.string s),.keep)
 | .strBytes,.v (.string s) => gB (Nat.blt (bs s).length 9223372036854775808) (.sl 1 ((bs s).map zBv)) .keep
 | .bytesStr,.v (.slice none 0 0) => some (str [],.keep)
 | .bytesStr,.v _ => none
 | .bytesStr,y => match zO6 g 1 y with
  | some rows => match zAH rows with
   | some l => some (str l,.keep)
   | none => none
  | none => none
 | .runeStr,.v (.int _ n) => some (.v (.string (Utf8.encode n)),.keep)
 | _,_ => none
theorem zPc {H : zA} {c : Cv} {x : AV} : zEJ (zPd (fun r => H[r]?) c x) (rConv c x H) H := by
 intro y u h
 unfold zPd at h
 split at h
 ·simp only [zSN,zHj,zYT,zZi] at h; exact ⟨trivial,h.1,by rw [← h.2]; rfl⟩
 ·simp only [zYT,zZi] at h; exact ⟨trivial,h.1,by rw [← h.2]; rfl⟩
 ·obtain ⟨h1,h2,h3⟩ := zBM h
  simp only [zZ8] at h1
  exact ⟨by show ((_ : Nat) : Int) < _; omega,h2,by rw [← h3]; rfl⟩
 ·simp only [zYT,zZi] at h
  exact ⟨⟨trivial,rfl⟩,by rw [← h.1]; rfl,by rw [← h.2]; rfl⟩
 ·cases h
 ·rename_i hns
  split at h
  ·rename_i rows hr
   split at h
   ·rename_i l hl
    obtain ⟨h1,h2⟩ := zKf hr
    simp only [zYT,zZi] at h
    have hx : rConv .bytesStr x H = ⟨szOk H 1 x ∧ ((rowsOf H x).bind zAH).isSome = true,str (((rowsOf H x).bind zAH).getD []),H⟩ := by
     cases x with
     | v v => exact absurd rfl (hns v)
     | _ => rfl
    rw [hx]
    simp only [h1,zzaq,hl]
    exact ⟨⟨h2,rfl⟩,h.1,by rw [← h.2]; rfl⟩
   ·cases h
  ·cases h
 ·simp only [zYT,zZi] at h; exact ⟨trivial,h.1,by rw [← h.2]; rfl⟩
 ·cases h
def zWb (sz bytes n : Nat) (zs : List AV) (len cap : AV) : Rt :=
 match len,cap with
 | .v (.int .i64 (.ofNat m)),.v (.int .i64 (.ofNat c)) => gB (Nat.ble m c && Nat.ble (c * bytes) 140737488355328 && Nat.ble c 140737488355328 && Nat.beq zs.length sz) (.os n 0 0 m) (.push (.arr 0 sz (List.replicate c zs)))
 | _,_ => none
theorem zRu {sz bytes : Nat} {zs : List AV} {len cap : AV} {H : zA} : zEJ (zWb sz bytes H.length zs len cap) (rMsl sz bytes zs len cap H) H := by
 intro y u h
 unfold zWb at h
 split at h
 ·rename_i m c
  obtain ⟨h1,h2,h3⟩ := zBM h
  simp only [zYX,zzae,zZH] at h1
  obtain ⟨⟨⟨a1,a2⟩,a3⟩,a4⟩ := h1
  simp only [rMsl,zzau,zZ2]
  refine ⟨⟨by omega,by omega,?_,by omega,a4⟩,h2,by rw [← h3]; rfl⟩
  have : ((c * bytes : Nat) : Int) ≤ 140737488355328 := by omega
  simpa using this
 ·cases h
def zOS (d : Nat) : Option AV → Option Nat
 | none => some d
 | some (.v (.int _ (.ofNat n))) => some n
 | _ => none
theorem zDx {d n : Nat} {x : Option AV} (h : zOS d x = some n) : bnd d x = some (n : Int) := by
 unfold zOS at h
 split at h
 ·simp only [zYT] at h; subst h; rfl
 ·simp only [zYT] at h; subst h; rfl
 ·cases h
def zGD (g : Nat → Option HO) (lk : LK) (n : Nat) (x : AV) (lo hi : Option AV) : Rt :=
 match lk,x with
 | .str,.v (.string s) => match zOS 0 lo,zOS (bs s).length hi with
  | some l,some h => gB (Nat.ble l h && Nat.ble h (bs s).length && Nat.beq n 1) (str (((bs s).drop l).take (h - l))) .keep
  | _,_ => none
 | .slc,.sl sz xs => match zOS 0 lo,zOS xs.length hi with
  | some l,some h => gB (Nat.ble l h && Nat.ble h xs.length && Nat.beq sz n) (.sl sz ((xs.drop l).take (h - l))) .keep
  | _,_ => none
 | .slc,.os r ver off len => match zOS 0 lo,zOS len hi,g r with
  | some l,some h,some (.arr v sz xs) => gB (Nat.ble l h && Nat.ble h len && Nat.beq sz n && Nat.beq ver v) (.os r ver (off + l) (h - l)) .keep
  | _,_,_ => none
 | .slc,.v (.slice none 0 0) => match zOS 0 lo,zOS 0 hi with
  | some 0,some 0 => some (zAI,.keep)
  | _,_ => none
 | _,_ => none
theorem zFM {H : zA} {lk : LK} {n : Nat} {x : AV} {lo hi : Option AV} : zEJ (zGD (fun r => H[r]?) lk n x lo hi) (rSlice lk n x lo hi H) H := by
 intro y u h
 unfold zGD at h
 split at h
 ·rename_i s
  split at h
  ·rename_i l h' hl hh
   obtain ⟨h1,h2,h3⟩ := zBM h
   simp only [zYX,zzae,zZH] at h1
   obtain ⟨⟨a1,a2⟩,a3⟩ := h1
   have e1 := zDx hl
   have e2 := zDx hh
   simp only [rSlice,lenOf,zZR,rSliceN,Res.also]
   rw [show bnd 0 lo = some (l : Int) from e1,e2]
   simp only [rSliceN,zZ2]
   exact ⟨⟨⟨rfl,a3⟩,by omega,by omega,by omega⟩,h2,by rw [← h3]; rfl⟩
  ·cases h
 ·rename_i sz xs
  split at h
  ·rename_i l h' hl hh
   obtain ⟨h1,h2,h3⟩ := zBM h
   simp only [zYX,zzae,zZH] at h1
   obtain ⟨⟨a1,a2⟩,a3⟩ := h1
   have e1 := zDx hl
   have e2 := zDx hh
   simp only [rSlice,lenOf,zZR,Res.also]
   rw [show bnd 0 lo = some (l : Int) from e1,e2]
   simp only [rSliceN,zZ2]
   exact ⟨⟨⟨rfl,.inl a3⟩,by omega,by omega,by omega⟩,h2,by rw [← h3]; rfl⟩
  ·cases h
 ·rename_i r ver off len
  split at h
  ·rename_i l h' v sz xs hl hh hr
   obtain ⟨h1,h2,h3⟩ := zBM h
   simp only [zYX,zzae,zZH] at h1
   obtain ⟨⟨⟨a1,a2⟩,rfl⟩,rfl⟩ := h1
   have e1 := zDx hl
   have e2 := zDx hh
   simp only [rSlice,lenOf,zZR,Res.also]
   rw [show bnd 0 lo = some (l : Int) from e1,e2]
   simp only [rSliceN,zZ2,hr,isArr,isVer,szOk]
   exact ⟨⟨⟨rfl,trivial⟩,by omega,by omega,by omega,trivial,trivial⟩,h2,by rw [← h3]; rfl⟩
  ·cases h
 ·split at h
  ·rename_i hl hh
   have e1 := zDx hl
   have e2 := zDx hh
   simp only [zYT,zZi] at h
   simp only [rSlice,lenOf,zZR,Res.also]
   rw [show bnd 0 lo = some ((0 : Nat) : Int) from e1,show bnd ((0 : Nat) : Int) hi = some ((0 : Nat) : Int) from e2]
   exact ⟨⟨⟨rfl,trivial⟩,rfl,rfl⟩,h.1,by rw [← h.2]; rfl⟩
  ·cases h
 ·cases h
def zJi (g : Nat → Option HO) (lk : LK) (n : Nat) (x : AV) (lo hi : Option AV) : Rt :=
 match x with
 | .sl a b => zGD g lk n (.sl a b) lo hi
 | .v v => zGD g lk n (.v v) lo hi
 | _ => none
theorem zLb {H : zA} {lk : LK} {n : Nat} {x : AV} {lo hi : Option AV} : zEJ (zJi (fun r => H[r]?) lk n x lo hi) (zDg lk n x lo hi H) H := by
 intro y u h
 cases x with
 | sl a b => exact zFM _ _ h
 | v v => exact zFM _ _ h
 | _ => cases h
def zWe (g : Nat → Option HO) (lk : LK) (x : AV) : Rt :=
 match lk,x with
 | .str,.v (.string s) => fN (bs s).length fun n => some (int (.ofNat n),.keep)
 | .slc,.sl _ xs => fN xs.length fun n => some (int (.ofNat n),.keep)
 | .slc,.os r ver _ len => match g r with
  | some (.arr v _ _) => gB (Nat.beq ver v) (int (.ofNat len)) .keep
  | _ => none
 | .slc,.v (.slice none 0 0) => some (int 0,.keep)
 | .slc,.nc => some (int 0,.keep)
 | .map,.mp ks _ => fN ks.length fun n => some (int (.ofNat n),.keep)
 | _,_ => none
theorem zRx {H : zA} {lk : LK} {x : AV} : zEJ (zWe (fun r => H[r]?) lk x) (rLen lk x H) H := by
 intro y u h
 unfold zWe at h
 split at h
 ·simp only [zE4,zYT,zZi] at h; exact ⟨⟨rfl,trivial⟩,h.1,by rw [← h.2]; rfl⟩
 ·simp only [zE4,zYT,zZi] at h; exact ⟨⟨rfl,trivial⟩,h.1,by rw [← h.2]; rfl⟩
 ·split at h
  ·rename_i v sz xs hr
   obtain ⟨h1,h2,h3⟩ := zBM h
   simp only [zZH] at h1
   simp only [rLen,verOk,hr,isArr,isVer]
   exact ⟨⟨rfl,trivial,h1⟩,h2,by rw [← h3]; rfl⟩
  ·cases h
 ·simp only [zYT,zZi] at h; exact ⟨⟨rfl,trivial⟩,h.1,by rw [← h.2]; rfl⟩
 ·simp only [zYT,zZi] at h; exact ⟨⟨rfl,trivial⟩,h.1,by rw [← h.2]; rfl⟩
 ·simp only [zE4,zYT,zZi] at h; exact ⟨⟨rfl,trivial⟩,h.1,by rw [← h.2]; rfl⟩
 ·cases h
def zIh (g : Nat → Option HO) (off : Nat) (p : AV) : Rt :=
 match p with
 | .ptr r ver o => match g r with
  | some (.box _) => cond (Nat.beq ver 0) (fN (o + off) fun o => some (.ptr r ver o,.keep)) none
  | _ => none
 | .pe r ver i o => match g r with
  | some (.arr v _ _) => cond (Nat.beq ver v) (fN (o + off) fun o => some (.pe r ver i o,.keep)) none
  | _ => none
 | .vp cs o => fN (o + off) fun o => some (.vp cs o,.keep)
 | _ => none
theorem zIg {H : zA} {off : Nat} {p : AV} : zEJ (zIh (fun r => H[r]?) off p) (rFaddr off p H) H := by
 intro y u h
 unfold zIh at h
 split at h
 ·split at h
  ·rename_i cs hr
   simp only [zE4] at h
   cases hb : Nat.beq _ 0 <;> rw [hb] at h
   ·cases h
   ·simp only [zZI,zYT,zZi] at h
    simp only [rFaddr,hr,isBox,isVer]
    exact ⟨⟨trivial,zZU hb⟩,h.1,by rw [← h.2]; rfl⟩
  ·cases h
 ·split at h
  ·rename_i v sz xs hr
   simp only [zE4] at h
   cases hb : Nat.beq _ v <;> rw [hb] at h
   ·cases h
   ·simp only [zZI,zYT,zZi] at h
    simp only [rFaddr,hr,isArr,isVer]
    exact ⟨⟨trivial,zZU hb⟩,h.1,by rw [← h.2]; rfl⟩
  ·cases h
 ·simp only [zE4,zYT,zZi] at h; exact ⟨trivial,h.1,by rw [← h.2]; rfl⟩
 ·cases h
def zXq (ag : Bool) (off n : Nat) (x : AV) : Rt :=
 match x with
 | .agg cs => zMw ag n off cs true
 | _ => none
theorem zRA {H : zA} {ag : Bool} {off n : Nat} {x : AV} : zEJ (zXq ag off n x) (rFld ag off n x H) H := by
 intro y u h
 cases x with
 | agg cs =>
  obtain ⟨_,h1,h2,h3,rfl⟩ := zFn h
  exact ⟨⟨h1,h2⟩,h3,rfl⟩
 | _ => cases h
def zId (g : Nat → Option HO) (sz : Nat) (x i : AV) : Rt :=
 match x,i with
 | .sl sz' xs,.v (.int _ (.ofNat n)) => gB (Nat.beq sz' sz && Nat.blt n xs.length) (.vp (xs.getD n []) 0) .keep
 | .os r ver off len,.v (.int _ (.ofNat n)) => match g r with
  | some (.arr v sz' _) => cond (Nat.blt n len && Nat.beq sz' sz && Nat.beq ver v) (fN (off + n) fun m => some (.pe r ver m 0,.keep)) none
  | _ => none
 | _,_ => none
theorem zIc {H : zA} {sz : Nat} {x i : AV} : zEJ (zId (fun r => H[r]?) sz x i) (rIaddr sz x i H) H := by
 intro y u h
 unfold zId at h
 split at h
 ·obtain ⟨h1,h2,h3⟩ := zBM h
  simp only [zYX,zZ8,zZH] at h1
  simp only [rIaddr,zzau,zZ2]
  exact ⟨⟨h1.1,by omega,by omega⟩,h2,by rw [← h3]; rfl⟩
 ·split at h
  ·rename_i v sz' xs hr
   simp only [zE4] at h
   cases hb : (Nat.blt _ _ && Nat.beq sz' sz && Nat.beq _ v) <;> rw [hb] at h
   ·cases h
   ·simp only [zYX,zZ8,zZH] at hb
    simp only [zZI,zYT,zZi] at h
    simp only [rIaddr,hr,isVer,szOk,zzau,zZ2]
    exact ⟨⟨by omega,by omega,hb.1.2,hb.2⟩,h.1,by rw [← h.2]; rfl⟩
  ·cases h
 ·cases h
def zWh (x i : AV) : Rt :=
 match x,i with
 | .v (.string s),.v (.int _ (.ofNat n)) => cond (Nat.blt n (bs s).length) (fN ((bs s).getD n 0).toNat fun m => some (u8 (.ofNat m),.keep)) none
 | _,_ => none
theorem zRz {H : zA} {x i : AV} : zEJ (zWh x i) (rIdx x i H) H := by
 intro y u h
 unfold zWh at h
 split at h
 ·simp only [zE4] at h
  cases hb : Nat.blt _ _ <;> rw [hb] at h
  ·cases h
  ·simp only [zZ8] at hb
   simp only [zZI,zYT,zZi] at h
   simp only [rIdx,zzau,zZ2]
   exact ⟨⟨by omega,by omega⟩,h.1,by rw [← h.2]; rfl⟩
 ·cases h
def zXr (x : AV) (i : Nat) : Rt :=
 match x with
 | .tup xs => gB (Nat.blt i xs.length) (xs.getD i .any) .keep
 | _ => none
theorem zRB {H : zA} {x : AV} {i : Nat} : zEJ (zXr x i) (rExt x i H) H := by
 intro y u h
 cases x with
 | tup xs =>
  obtain ⟨h1,h2,h3⟩ := zBM h
  simp only [zZ8] at h1
  exact ⟨h1,h2,by rw [← h3]; rfl⟩
 | _ => cases h
def zHo (g : Nat → Option HO) (sz bytes n : Nat) (s x : AV) : Rt :=
 match zO6 g sz x with
 | none => none
 | some ys => match s with
  | .os r ver 0 len => match g r with
   | some (.arr v sz' xs) => cond (Nat.beq ver v && Nat.beq sz' sz && Nat.ble len xs.length && Nat.ble ((len + ys.length) * bytes) 140737488355328 && Nat.ble (len + ys.length) 140737488355328)
     (fN (ver + 1) fun ver => fN (len + ys.length) fun m => some (.os r ver 0 m,.set r (.arr ver sz (xs.take len ++ ys)))) none
   | _ => none
  | .v (.slice none 0 0) => cond (Nat.blt 0 sz && Nat.ble (ys.length * bytes) 140737488355328 && Nat.ble ys.length 140737488355328) (fN ys.length fun m => some (.os n 0 0 m,.push (.arr 0 sz ys))) none
  | .nc => match ys with
   | [] => cond (Nat.blt 0 sz) (some (.nc,.keep)) none
   | y :: ys => cond (Nat.blt 0 sz && Nat.ble ((y :: ys).length * bytes) 140737488355328 && Nat.ble (y :: ys).length 140737488355328) (fN (y :: ys).length fun m => some (.os n 0 0 m,.push (.arr 0 sz (y :: ys)))) none
  | _ => none
theorem zLg {H : zA} {sz bytes : Nat} {s x : AV} : zEJ (zHo (fun r => H[r]?) sz bytes H.length s x) (rAppend sz bytes s x H) H := by
 intro y u h
 unfold zHo at h
 split at h
 ·cases h
 ·rename_i ys hys
  obtain ⟨e1,e2⟩ := zKf hys
  split at h
  ·rename_i r ver len
   split at h
   ·rename_i v sz' xs hr
    simp only [zE4] at h
    cases hb : (Nat.beq ver v && Nat.beq sz' sz && Nat.ble len xs.length && Nat.ble ((len + ys.length) * bytes) 140737488355328 && Nat.ble (len + ys.length) 140737488355328) <;> rw [hb] at h
    ·cases h
    ·simp only [zYX,zzae,zZH] at hb
     simp only [zZI,zYT,zZi] at h
     simp only [rAppend,e1,rAppendO,hr,Res.also]
     exact ⟨⟨e2,hb.1.1.1.1,hb.1.1.1.2,hb.1.1.2,hb.1.2,hb.2⟩,h.1,by rw [← h.2]; rfl⟩
   ·cases h
  ·simp only [zE4] at h
   cases hb : (Nat.blt 0 sz && Nat.ble (ys.length * bytes) 140737488355328 && Nat.ble ys.length 140737488355328) <;> rw [hb] at h
   ·cases h
   ·simp only [zYX,zzae,zZ8] at hb
    simp only [zZI,zYT,zZi] at h
    simp only [rAppend,e1,rAppendN,Res.also]
    exact ⟨⟨e2,hb.1.1,hb.1.2,hb.2⟩,h.1,by rw [← h.2]; rfl⟩
  ·split at h
   ·cases hb : Nat.blt 0 sz <;> rw [hb] at h
    ·cases h
    ·simp only [zZ8] at hb
     simp only [zZI,zYT,zZi] at h
     simp only [rAppend,e1,rAppendC,Res.also]
     exact ⟨⟨e2,hb⟩,h.1,by rw [← h.2]; rfl⟩
   ·rename_i y ys
    simp only [zE4] at h
    cases hb : (Nat.blt 0 sz && Nat.ble ((y :: ys).length * bytes) 140737488355328 && Nat.ble (y :: ys).length 140737488355328) <;> rw [hb] at h
    ·cases h
    ·simp only [zYX,zzae,zZ8] at hb
     simp only [zZI,zYT,zZi] at h
     simp only [rAppend,e1,rAppendC,rAppendN,Res.also]
     exact ⟨⟨e2,hb.1.1,hb.1.2,hb.2⟩,h.1,by rw [← h.2]; rfl⟩
  ·cases h
def zTg (g : Nat → Option HO) (x : AV) : Rt :=
 match x with
 | .os r ver off len => match g r with
  | some (.arr v sz xs) => gB (Nat.beq ver v && (Nat.ble (off + len) xs.length && xs.all fun x => x.all cl1)) (.sl sz ((xs.drop off).take len)) (.set r .dead)
  | _ => none
 | .ptr r ver off => match g r with
  | some (.box cs) => gB (Nat.beq ver 0 && cs.all cl1) (.vp cs off) (.set r .dead)
  | _ => none
 | .om r ver => match g r with
  | some (.map v ks vs) => gB (Nat.beq ver v) (.mp ks vs) (.set r .dead)
  | _ => none
 | .v (.slice none 0 0) => some (.sl 0 [],.keep)
 | .sl sz xs => some (.sl sz xs,.keep)
 | .nc => some (.sl 0 [],.keep)
 | _ => none
theorem zJl {H : zA} {x : AV} : zEJ (zTg (fun r => H[r]?) x) (rFrz x H) H := by
 intro y u h
 unfold zTg at h
 split at h
 ·split at h
  ·rename_i v sz xs hr
   obtain ⟨h1,h2,h3⟩ := zBM h
   simp only [zYX,zzae,zZH] at h1
   simp only [rFrz,hr]
   exact ⟨⟨h1.1,h1.2.1,zZb.2 fun x hx => zDo (zZb.1 h1.2.2 x hx)⟩,h2,by rw [← h3]; rfl⟩
  ·cases h
 ·split at h
  ·rename_i cs hr
   obtain ⟨h1,h2,h3⟩ := zBM h
   simp only [zYX,zZH] at h1
   simp only [rFrz,hr]
   exact ⟨⟨h1.1,zDo h1.2⟩,h2,by rw [← h3]; rfl⟩
  ·cases h
 ·split at h
  ·rename_i v ks vs hr
   obtain ⟨h1,h2,h3⟩ := zBM h
   simp only [zZH] at h1
   simp only [rFrz,hr]
   exact ⟨h1,h2,by rw [← h3]; rfl⟩
  ·cases h
 ·simp only [zYT,zZi] at h; exact ⟨trivial,h.1,by rw [← h.2]; rfl⟩
 ·simp only [zYT,zZi] at h; exact ⟨trivial,h.1,by rw [← h.2]; rfl⟩
 ·simp only [zYT,zZi] at h; exact ⟨trivial,h.1,by rw [← h.2]; rfl⟩
 ·cases h
def zMv (g : Nat → Option HO) (sz off : Nat) (x : AV) : Rt :=
 match x with
 | .agg cs => match cs[off]? with
  | some (.v (.slice none 0 0)) => some (.agg (cs.set off (.sl sz [])),.keep)
  | some (.os r ver o len) => match zTg g (.os r ver o len) with
   | some (y,u) => some (.agg (cs.set off y),u)
   | none => none
  | some (.sl sz' xs) => some (.agg (cs.set off (.sl sz' xs)),.keep)
  | _ => none
 | .ptr r ver o => match g r with
  | some (.box cs) => match cs[o + off]? with
   | some (.v (.slice none 0 0)) => gB (Nat.beq ver 0) (.ptr r ver o) (.set r (.box (cs.set (o + off) (.sl sz []))))
   | some (.os r' ver' o' len) => match zTg g (.os r' ver' o' len) with
    | some (y,.set r2 x2) => gB (Nat.beq ver 0) (.ptr r ver o) (.set2 r2 x2 r (.box (cs.set (o + off) y)))
    | _ => none
   | some (.sl sz' xs) => gB (Nat.beq ver 0) (.ptr r ver o) (.set r (.box (cs.set (o + off) (.sl sz' xs))))
   | _ => none
  | _ => none
 | _ => none
theorem zPb {H : zA} {sz off : Nat} {x : AV} : zEJ (zMv (fun r => H[r]?) sz off x) (rFrzf sz off x H) H := by
 intro y u h
 cases x with
 | agg cs =>
  simp only [zMv] at h
  split at h
  ·rename_i hc
   simp only [zYT,zZi] at h
   simp only [rFrzf,rFrzfO,hc,rFrzO,rFrzN]
   exact ⟨trivial,h.1,by rw [← h.2]; rfl⟩
  ·rename_i r ver o len hc
   split at h
   ·rename_i z v hz
    simp only [zYT,zZi] at h
    obtain ⟨h1,h2,h3⟩ := zJl _ _ hz
    simp only [rFrzf,rFrzfO,hc,rFrzO,rFrzN]
    exact ⟨h1,by rw [h2]; exact h.1,by rw [← h.2]; exact h3⟩
   ·cases h
  ·rename_i sz' xs hc
   simp only [zYT,zZi] at h
   simp only [rFrzf,rFrzfO,hc,rFrzO,rFrzN]
   exact ⟨trivial,h.1,by rw [← h.2]; rfl⟩
  ·cases h
 | ptr r ver o =>
  simp only [zMv] at h
  split at h
  ·rename_i cs hr
   split at h
   ·rename_i hc
    obtain ⟨h1,h2,h3⟩ := zBM h
    have h1 := zZU h1
    simp only [rFrzf,hr,rFrzB,hc,rFrzQ,rFrzP,rFrzN,Res.also]
    exact ⟨⟨h1,trivial⟩,h2,by rw [← h3]; rfl⟩
   ·rename_i r' ver' o' len hc
    split at h
    ·rename_i z r2 x2 hz
     obtain ⟨h1,h2,h3⟩ := zBM h
     have h1 := zZU h1
     obtain ⟨k1,k2,k3⟩ := zJl _ _ hz
     simp only [rFrzf,hr,rFrzB,hc,rFrzQ,rFrzP,rFrzN,Res.also]
     exact ⟨⟨h1,k1⟩,h2,by rw [k2,k3,← h3]; rfl⟩
    ·cases h
   ·rename_i sz' xs hc
    obtain ⟨h1,h2,h3⟩ := zBM h
    have h1 := zZU h1
    simp only [rFrzf,hr,rFrzB,hc,rFrzQ,rFrzP,rFrzN,Res.also]
    exact ⟨⟨h1,trivial⟩,h2,by rw [← h3]; rfl⟩
   ·cases h
  ·cases h
 | _ => cases h
def zKe (n : Nat) (g : Nat → Option HO) (p x : AV) : Rt :=
 match p with
 | .ptr r ver off => match zGC n g (.ptr r ver off) x with
  | some _ => some (.any,.keep)
  | none => none
 | _ => none
theorem zMr {n : Nat} {H : zA} {p x : AV} : zEJ (zKe n (fun r => H[r]?) p x) (zFT n p x H) H := by
 intro y u h
 cases p <;> simp only [zKe] at h <;> first | (cases h; done) | skip
 split at h
 ·rename_i z hz
  simp only [zYT,zZi] at h
  exact ⟨(zIb _ _ hz).1,h.1,by rw [← h.2]; rfl⟩
 ·cases h
def evX (e : Nat → AV) (x : LX) : AV := LX.casesOn (motive := fun _ => AV) x e fun a => a
def zMt (ag : Bool) (n : Nat) (g : Nat → Option HO) (p : AV) : Rt := match p with
 | .pe _ _ _ _ => none
 | p => zJj ag n g p
theorem zMs {ag : Bool} {n : Nat} {H : zA} {p : AV} : zEJ (zMt ag n (fun r => H[r]?) p) (zCn ag n p H) H := by
 intro x u h
 cases p <;> first | (cases h; done) | exact zHn _ _ h
def zJm (g : Nat → Option HO) (off : Nat) (p : AV) : Rt := match p with
 | .pe _ _ _ _ => none
 | p => zIh g off p
theorem zLf {H : zA} {off : Nat} {p : AV} : zEJ (zJm (fun r => H[r]?) off p) (zBB off p H) H := by
 intro x u h
 cases p <;> first | (cases h; done) | exact zIg _ _ h
def zJk (g : Nat → Option HO) (sz : Nat) (x i : AV) : Rt := match x with
 | .sl a b => zId g sz (.sl a b) i
 | _ => none
theorem zLd {H : zA} {sz : Nat} {x i : AV} : zEJ (zJk (fun r => H[r]?) sz x i) (zDh sz x i H) H := by
 intro y u h
 cases x <;> first | (cases h; done) | exact zIc _ _ h
def zWc (x y : AV) : Rt := match x,y with
 | .v (.int k a),.v (.int _ b) => some (.v (.int k (cond (ltI b a) b a)),.keep)
 | _,_ => none
def zO8 (x y z : AV) : Rt := match x,y,z with
 | .v (.int k a),.v (.int _ b),.v (.int _ c) => some (.v (.int k (cond (ltI (cond (ltI a b) b a) c) c (cond (ltI a b) b a))),.keep)
 | _,_,_ => none
def zWd (x y : AV) : Rt := match x,y with
 | .v (.int k a),.v (.int _ b) => some (.v (.int k (cond (ltI a b) b a)),.keep)
 | _,_ => none
theorem zRv {H : zA} {x y : AV} : zEJ (zWc x y) (rMin x y H) H := by
 intro z u h
 unfold zWc at h
 split at h
 ·simp only [zYT,zZi,zGR] at h
  refine ⟨trivial,?_,by rw [← h.2]; rfl⟩
  rw [← h.1]
  simp only [rMin]
  split <;> rename_i hh <;> simp [hh]
 ·cases h
theorem zO7 {H : zA} {x y z : AV} : zEJ (zO8 x y z) (rMax3 x y z H) H := by
 intro q u h
 unfold zO8 at h
 split at h
 ·rename_i k a k2 b k3 c
  simp only [zYT,zZi,zGR] at h
  refine ⟨trivial,?_,by rw [← h.2]; rfl⟩
  rw [← h.1]
  have hc : cond (decide (a < b)) b a = if a < b then b else a := by by_cases hh : a < b <;> simp [hh]
  simp only [rMax3,hc]
  generalize (if a < b then b else a) = m
  by_cases hh : m < c <;> simp [hh]
 ·cases h
theorem zRw {H : zA} {x y : AV} : zEJ (zWd x y) (rMax x y H) H := by
 intro z u h
 unfold zWd at h
 split at h
 ·simp only [zYT,zZi,zGR] at h
  refine ⟨trivial,?_,by rw [← h.2]; rfl⟩
  rw [← h.1]
  simp only [rMax]
  split <;> rename_i hh <;> simp [hh]
 ·cases h
def zW4 (a b : IntKind) : Bool := a == b
def zWf : Value → Value → Bool
 | .int k a,.int k' b => cond (zW4 k k') (eqI a b) false
 | .string a,.string b => eqL (bs a) (bs b)
 | .bool a,.bool b => eqB a b
 | .agg a,.agg b => zW2 a.toList b.toList
 | _,_ => false
theorem zMu (a b : Value) : zWf a b = kEq a b := by
 cases a <;> cases b <;> simp only [zWf,kEq]
 case int.int k x k' y =>
  cases h : zW4 k k' with
  | false => simp only [zW4] at h; simp [h]
  | true =>
   simp only [zW4] at h
   simp only [h,zZI,Bool.true_and,zKZ]
   rw [zzac]; simp
 case bool.bool a b => rw [zK0,zzac]; simp
 case string.string a b => rw [zIX,zzac]; simp
def zLc (k : Value) : List Value → List AV → Option AV
 | k' :: ks,x :: vs => cond (zWf k k') (some x) (zLc k ks vs)
 | _,_ => none
theorem zHm (k : Value) : ∀ (ks : List Value) (vs : List AV),zLc k ks vs = zFc k ks vs
 | k' :: ks,x :: vs => by
  simp only [zLc,zFc,zMu,zHm k ks vs]
  cases kEq k k' <;> rfl
 | [],_ => by simp [zLc,zFc]
 | _ :: _,[] => by simp [zLc,zFc]
def zWg (g : Nat → Option HO) (kd : KD) (m k x : AV) : Rt := match m,k with
 | .om r ver,.v k => match g r with
  | some (.map ver' ks vs) => gB (Nat.beq ver ver' && (ks.all (fun k' => kCmp k k' && !zWf k k') && (kIs kd k && x.cl))) .any (.set r (.map ver (ks ++ [k]) (vs ++ [x])))
  | _ => none
 | _,_ => none
theorem zRy {kd : KD} {m k x : AV} {H : zA} : zEJ (zWg (fun r => H[r]?) kd m k x) (rIns kd m k x H) H := by
 intro y u h
 unfold zWg at h
 split at h
 ·split at h
  ·rename_i hg
   obtain ⟨h1,h2,h3⟩ := zBM h
   simp only [zYX,zZb,zZH,zMu,zZL] at h1
   obtain ⟨c1,c2,c3,c4⟩ := h1
   simp only [rIns,hg]
   exact ⟨⟨c1,c2,c3,c4⟩,h2,by rw [← h3]; rfl⟩
  ·cases h
 ·cases h
def zQA (kd : KD) (zero : AV) (ok : Bool) (k : Value) (ks : List Value) (vs : List AV) (b : Bool) : Rt :=
 gB (b && (ks.all (fun k' => kCmp k k') && kIs kd k)) (lookV zero ok (zLc k ks vs)) .keep
def zPa (g : Nat → Option HO) (kd : KD) (zero : AV) (ok : Bool) (m k : AV) : Rt := match m,k with
 | .mp ks vs,.v k => zQA kd zero ok k ks vs true
 | .om r ver,.v k => match g r with
  | some (.map ver' ks vs) => zQA kd zero ok k ks vs (Nat.beq ver ver')
  | _ => none
 | _,_ => none
theorem zO9 {kd : KD} {zero : AV} {ok : Bool} {m k : AV} {H : zA} : zEJ (zPa (fun r => H[r]?) kd zero ok m k) (rLook kd zero ok m k H) H := by
 intro y u h
 unfold zPa at h
 split at h
 ·obtain ⟨h1,h2,h3⟩ := zBM h
  simp only [zYX,zZb,Bool.true_and] at h1
  simp only [rLook,rLookN]
  exact ⟨⟨h1.1,h1.2⟩,by rw [← h2,zHm],by rw [← h3]; rfl⟩
 ·split at h
  ·rename_i hg
   obtain ⟨h1,h2,h3⟩ := zBM h
   simp only [zYX,zZb,zZH] at h1
   simp only [rLook,hg,rLookN,Res.also]
   exact ⟨by simp only [h1.1,h1.2.2,true_and,and_true]; exact h1.2.1,by rw [← h2,zHm],by rw [← h3]; rfl⟩
  ·cases h
 ·cases h
def zFo (g : Nat → Option HO) (t n : Nat) (s x : AV) : Rt := match x with
 | .v (.string y) => match s with
  | .os r ver 0 len => match g r with
   | some (.barr t' ver' l) => gB (Nat.beq ver ver' && (Nat.beq t t' && (Nat.beq len l.length && Nat.ble (len + (bs y).length) 140737488355328))) (.os r (ver + 1) 0 (len + (bs y).length)) (.set r (.barr t (ver + 1) (l ++ bs y)))
   | _ => none
  | .v (.slice none 0 0) => match bs y with
   | [] => some (zAI,.keep)
   | b :: l => gB (Nat.ble (l.length + 1) 140737488355328) (.os n 0 0 (l.length + 1)) (.push (.barr t 0 (b :: l)))
  | _ => none
 | _ => none
theorem zJn {t : TypeId} {s x : AV} {H : zA} : zEJ (zFo (fun r => H[r]?) t H.length s x) (zCI t s x H) H := by
 intro y u h
 unfold zFo at h
 split at h
 ·split at h
  ·split at h
   ·rename_i hg
    obtain ⟨h1,h2,h3⟩ := zBM h
    simp only [zYX,zZH,zzae] at h1
    simp only [zCI,zB7,hg,zB8]
    exact ⟨h1,h2,by rw [← h3]; rfl⟩
   ·cases h
  ·split at h
   ·rename_i hb
    simp only [zYT,zZi] at h
    simp only [zCI,zB7,zB6,hb,if_true]
    exact ⟨trivial,h.1,by rw [← h.2]; rfl⟩
   ·rename_i b l hb
    obtain ⟨h1,h2,h3⟩ := zBM h
    simp only [zzae] at h1
    simp only [zCI,zB7,zB6,hb,reduceCtorEq,if_false,zYZ]
    exact ⟨h1,h2,by rw [← h3]; rfl⟩
  ·cases h
 ·cases h
def opV (op : LOp) (e : Nat → AV) (g : Nat → Option HO) (n : Nat) : Rt :=
 match op with
 | .mv x => some (evX e x,.keep)
 | .alloc zs => gB (c1s zs) (.ptr n 0 0) (.push (.box zs))
 | .box imm x => zXt imm n (evX e x)
 | .build zs ps => match zLe zs (ps.map fun (o,n,x) => (o,n,evX e x)) with | some r => some (.agg r,.keep) | none => none
 | .bsl imm sz len zs ps => zWi imm sz len n zs (ps.map fun (i,x) => (i,evX e x))
 | .load ag n p => zJj ag n g (evX e p)
 | .loadb ag n p => zMt ag n g (evX e p)
 | .store n p x => zGC n g (evX e p) (evX e x)
 | .nilchk x => zQz g (evX e x)
 | .bin kd op x y => match zWj kd op (evX e x) (evX e y) with | some z => some (z,.keep) | none => none
 | .not x => match evX e x with | .v (.bool b) => some (bool (!b),.keep) | _ => none
 | .neg x => match evX e x with | .v (.int k n) => fI (zHk k (0 - n)) fun n => some (.v (.int k n),.keep) | _ => none
 | .conv c x => zPd g c (evX e x)
 | .mkfn f a b => some (.fn f (a.map (evX e)) (b.map (evX e)),.keep)
 | .msl sz bytes zs len cap => zWb sz bytes n zs (evX e len) (evX e cap)
 | .slice lk n x lo hi => zGD g lk n (evX e x) (lo.map (evX e)) (hi.map (evX e))
 | .slicev lk n x lo hi => zJi g lk n (evX e x) (lo.map (evX e)) (hi.map (evX e))
 | .faddr off p => zIh g off (evX e p)
 | .faddrb off p => zJm g off (evX e p)
 | .fld ag off n x => zXq ag off n (evX e x)
 | .iaddr sz x i => zId g sz (evX e x) (evX e i)
 | .iaddrv sz x i => zJk g sz (evX e x) (evX e i)
 | .min2 x y => zWc (evX e x) (evX e y)
 | .max2 x y => zWd (evX e x) (evX e y)
 | .max3 x y z => zO8 (evX e x) (evX e y) (evX e z)
 | .idx x i => zWh (evX e x) (evX e i)
 | .ext x i => zXr (evX e x) i
 | .len lk x => zWe g lk (evX e x)
 | .append sz bytes s x => zHo g sz bytes n (evX e s) (evX e x)
 | .frz x => zTg g (evX e x)
 | .frzf sz off x => zMv g sz off (evX e x)
 | .own sz x => match evX e x with | .v (.slice none 0 0) => gB (Nat.blt 0 sz) (.os n 0 0 0) (.push (.arr 0 sz [])) | _ => none
 | .mkmap => some (.om n 0,.push (.map 0 [] []))
 | .ins kd m k x => zWg g kd (evX e m) (zKK (evX e k)) (evX e x)
 | .look kd zero ok m k => zPa g kd zero ok (evX e m) (zKK (evX e k))
 | .allocb t zs => gB (zFd (zs.headD .any) && c1s zs) (.ptr n 0 0) (.push (.box (.bnil t :: zs.drop 1)))
 | .appendb t s x => zFo g t n (evX e s) (evX e x)
 | .stchk n p x => zKe n g (evX e p) (evX e x)
 | _ => none
theorem zQR {op : LOp} {e : Env} {H : zA} : zEJ (opV op e (fun r => H[r]?) H.length) (zAW op e H) H := by
 have hev : evX e = ev e := by funext x; cases x <;> rfl
 intro y u h
 unfold opV at h
 simp only [hev] at h
 cases op <;> simp only at h <;> first | (cases h; done) | skip
 case mv x => simp only [zYT,zZi] at h; exact ⟨trivial,h.1,by rw [← h.2]; rfl⟩
 case alloc zs => obtain ⟨h1,h2,h3⟩ := zBM h; exact ⟨h1,h2,by rw [← h3]; rfl⟩
 case box imm x => exact zRD _ _ h
 case mkmap => simp only [zYT,zZi] at h; exact ⟨trivial,h.1,by rw [← h.2]; rfl⟩
 case ins kd m k x => exact zRy _ _ h
 case look kd zero ok m k => exact zO9 _ _ h
 case allocb t zs =>
  obtain ⟨h1,h2,h3⟩ := zBM h
  simp only [zYX] at h1
  exact ⟨h1,h2,by rw [← h3]; rfl⟩
 case appendb t s x => exact zJn _ _ h
 case build zs ps =>
  split at h
  ·rename_i r hr
   obtain ⟨h1,h2⟩ := zKg hr
   simp only [zYT,zZi] at h
   exact ⟨h1,by rw [← h.1,← h2]; rfl,by rw [← h.2]; rfl⟩
  ·cases h
 case bsl imm sz len zs ps => exact zRC _ _ h
 case load ag n p => exact zHn _ _ h
 case loadb ag n p => exact zMs _ _ h
 case faddrb off p => exact zLf _ _ h
 case iaddrv sz x i => exact zLd _ _ h
 case min2 x z => exact zRv _ _ h
 case max2 x z => exact zRw _ _ h
 case max3 x y z => exact zO7 _ _ h
 case store n p x => exact zIb _ _ h
 case nilchk x => exact zRt _ _ h
 case bin kd op x z =>
  split at h
  ·rename_i r hr
   simp only [zYT,zZi] at h
   obtain ⟨h1,h2,h3⟩ := zRE H hr
   exact ⟨h1,by rw [← h.1]; exact h2,by rw [← h.2]; exact h3⟩
  ·cases h
 case not x =>
  split at h
  ·rename_i b hb
   simp only [zYT,zZi] at h
   simp only [zAW,hb,rNot]
   exact ⟨trivial,h.1,by rw [← h.2]; rfl⟩
  ·cases h
 case neg x =>
  split at h
  ·rename_i k n hb
   simp only [zSN,zHj,zYT,zZi] at h
   simp only [zAW,hb,rNeg]
   exact ⟨trivial,h.1,by rw [← h.2]; rfl⟩
  ·cases h
 case stchk n p x => exact zMr _ _ h
 case conv c x => exact zPc _ _ h
 case mkfn f a b => simp only [zYT,zZi] at h; exact ⟨trivial,h.1,by rw [← h.2]; rfl⟩
 case msl sz bytes zs len cap => exact zRu _ _ h
 case slice lk n x lo hi => exact zFM _ _ h
 case slicev lk n x lo hi => exact zLb _ _ h
 case faddr off p => exact zIg _ _ h
 case fld ag off n x => exact zRA _ _ h
 case iaddr sz x i => exact zIc _ _ h
 case idx x i => exact zRz _ _ h
 case ext x i => exact zRB _ _ h
 case len lk x => exact zRx _ _ h
 case append sz bytes s x => exact zLg _ _ h
 case frz x => exact zJl _ _ h
 case frzf sz off x => exact zPb _ _ h
 case own sz x =>
  split at h
  ·rename_i hb
   obtain ⟨h1,h2,h3⟩ := zBM h
   simp only [zZ8] at h1
   simp only [zAW,hb,rOwn]
   exact ⟨h1,h2,by rw [← h3]; rfl⟩
  ·cases h
section
variable {P : Program} {R : Type}
structure Seal where
 lo : Nat
 H0 : zA
noncomputable def loT (t : Tr HO) : Nat := match t.get .dead 1000001 with
 | .arr v _ _ => v
 | _ => 0
structure RH (z : Seal) (t : Tr HO) (n : Nat) (H : zA) : Prop where
 len : H.length = n
 get : ∀ r,r < n → H[r]? = some (t.get .dead r)
 lo : loT t = z.lo
 le : z.lo ≤ n
 low : ∀ r,r < z.lo → H[r]? = z.H0[r]?
variable {z : Seal}
noncomputable def gT (t : Tr HO) (n r : Nat) : Option HO := cond (Nat.blt r n) (some (t.get .dead r)) none
theorem zP8 {t : Tr HO} {n : Nat} {H : zA} (h : RH z t n H) : gT t n = fun r => H[r]? := by
 funext r
 unfold gT
 cases hb : Nat.blt r n
 ·have : ¬ r < n := fun hh => by
   have := (zZ8 (x := r) (y := n)).symm ▸ hh
   rw [hb] at this; cases this
  rw [cond_false,zZZ (by rw [h.len]; omega)]
 ·rw [zZI]
  simp only [zZ8] at hb
  exact (h.get r hb).symm
abbrev KT (R : Type) := Tr HO → Nat → Option R
noncomputable def upS (r : Nat) (o : HO) (t : Tr HO) (n : Nat) (k : KT R) : Option R := cond (Nat.blt r n && Nat.blt n 1000000 && Nat.ble (loT t) r) (Tr.setK .dead o 30 r t fun t => k t n) none
noncomputable def upK (u : Up) (t : Tr HO) (n : Nat) (k : KT R) : Option R :=
 match u with
 | .keep => k t n
 | .set r o => upS r o t n k
 | .set2 r o r' o' => upS r o t n fun t n => upS r' o' t n k
 | .push o => cond (Nat.blt n 1000000) (Tr.setK .dead o 30 n t fun t => fN (n + 1) fun n => k t n) none
theorem zJA : 2 ^ 30 = 1073741824 := by decide
theorem zNJ {t : Tr HO} {o : HO} {i : Nat} (h : i < 1000001) : loT (t.set .dead o 30 i) = loT t := by
 unfold loT
 rw [Tr.get_set _ _ _ _ _ _ (by rw [zJA]; omega),if_neg (by omega)]
theorem zMx {i : Nat} {o : HO} {t : Tr HO} {n : Nat} {H : zA} {k : KT R} {r : R} (h : upS i o t n k = some r) (hr : RH z t n H) : ∃ t',RH z t' n (H.set i o) ∧ k t' n = some r := by
 unfold upS at h
 cases hb : (Nat.blt i n && Nat.blt n 1000000 && Nat.ble (loT t) i) <;> rw [hb] at h
 ·cases h
 ·simp only [zYX,zZ8,zzae] at hb
  have hlo := hr.lo
  rw [zZI,Tr.setK_eq] at h
  refine ⟨_,⟨by simp [hr.len],fun j hj => ?_,(zNJ (by omega)).trans hlo,hr.le,fun j hj => by rw [zZj (by omega)]; exact hr.low j hj⟩,h⟩
  rw [Tr.get_set _ _ _ _ _ _ (by rw [zJA]; omega)]
  by_cases hij : j = i
  ·subst hij; rw [if_pos rfl,zZs (by rw [hr.len]; omega)]
  ·rw [if_neg hij,zZj (fun e => hij e.symm)]; exact hr.get j hj
theorem zUa {u : Up} {t : Tr HO} {n : Nat} {H : zA} {k : KT R} {r : R} (h : upK u t n k = some r) (hr : RH z t n H) : ∃ t' n',RH z t' n' (u.app H) ∧ k t' n' = some r := by
 unfold upK at h
 split at h
 ·exact ⟨t,n,hr,h⟩
 ·obtain ⟨t',h1,h2⟩ := zMx h hr
  exact ⟨t',n,h1,h2⟩
 ·obtain ⟨t',h1,h2⟩ := zMx h hr
  obtain ⟨t2,h3,h4⟩ := zMx h2 h1
  exact ⟨t2,n,h3,h4⟩
 ·rename_i o
  cases hb : Nat.blt n 1000000 <;> rw [hb] at h
  ·cases h
  ·simp only [zZ8] at hb
   rw [zZI,Tr.setK_eq,zE4] at h
   refine ⟨_,_,⟨by simp [Up.app,hr.len],fun j hj => ?_,(zNJ (by omega)).trans hr.lo,by have := hr.le; omega,fun j hj => by simp only [Up.app]; rw [zY2 (by have := hr.le; have := hr.len; omega)]; exact hr.low j hj⟩,h⟩
   rw [Tr.get_set _ _ _ _ _ _ (by rw [zJA]; omega)]
   simp only [Up.app]
   by_cases hij : j = n
   ·subst hij; rw [if_pos rfl,← hr.len]; simp
   ·rw [if_neg hij,zY2 (by rw [hr.len]; omega)]; exact hr.get j (by omega)
noncomputable def zPx (t : Tr HO) (n : Nat) (k : Tr HO → Option R) : Option R := cond (Nat.blt n 1000000) (Tr.setK .dead (.arr n 0 []) 30 1000001 t k) none
theorem zPw {t : Tr HO} {n : Nat} {H : zA} {k : Tr HO → Option R} {r : R} (h : zPx t n k = some r) (hr : RH z t n H) : ∃ t',RH ⟨n,H⟩ t' n H ∧ k t' = some r := by
 unfold zPx at h
 cases hb : Nat.blt n 1000000 <;> rw [hb] at h
 ·cases h
 ·simp only [zZ8] at hb
  rw [zZI,Tr.setK_eq] at h
  refine ⟨_,⟨hr.len,fun r hlt => ?_,?_,zZa _,fun r _ => rfl⟩,h⟩
  ·rw [Tr.get_set _ _ _ _ _ _ (by rw [zJA]; omega),if_neg (by omega)]; exact hr.get r hlt
  ·unfold loT; rw [Tr.get_set _ _ _ _ _ _ (by rw [zJA]; omega),if_pos rfl]
noncomputable def eT (e : Tr AV) : Env := fun s => e.get .any s
noncomputable def zH4 (d : Option Nat) (x : AV) (e : Tr AV) (k : Tr AV → Option R) : Option R :=
 match d with
 | none => k e
 | some d => cond (Nat.blt d 1000000) (Tr.setK .any x 30 d e k) none
theorem zHr {d : Option Nat} {x : AV} {e : Tr AV} {k : Tr AV → Option R} {r : R} (h : zH4 d x e k = some r) : ∃ e',eT e' = ups (eT e) d x ∧ k e' = some r := by
 unfold zH4 at h
 split at h
 ·exact ⟨e,rfl,h⟩
 ·rename_i d
  cases hb : Nat.blt d 1000000 <;> rw [hb] at h
  ·cases h
  ·simp only [zZ8] at hb
   rw [zZI,Tr.setK_eq] at h
   refine ⟨_,?_,h⟩
   funext s
   simp only [eT,ups,up]
   rw [Tr.get_set _ _ _ _ _ _ (by rw [zJA]; omega)]
noncomputable def evT (e : Tr AV) (x : LX) : AV := match x with | .t n => e.get .any n | .c a => a
theorem zCy (e : Tr AV) (x : LX) : evT e x = ev (eT e) x := by cases x <;> rfl
theorem zHO (e : Tr AV) (l : List LX) : l.map (evT e) = l.map (ev (eT e)) := zzaD fun x _ => zCy e x
abbrev Kv (R : Type) := AV → Tr HO → Nat → Option R
abbrev Ca (R : Type) := FuncId → List AV → Tr HO → Nat → Kv R → Option R
def zOR (P : Program) (ca : Ca R) : Prop := ∀ z f args t n k r H,ca f args t n k = some r → RH z t n H → ∃ x t' n' H',RH z t' n' H' ∧ k x t' n' = some r ∧ ∀ K : AV → zA → Prop,K x H' → ACall P f args H K
noncomputable def zQg (ca : Ca R) (op : LOp) (e : Tr AV) (t : Tr HO) (n : Nat) (k : Kv R) : Option R :=
 match op with
 | .call f args => match evT e f with
  | .fn (.func g) a b => ca g (a ++ args.map (evT e) ++ b) t n k
  | _ => none
 | .callh f args => match evT e f with
  | .fn (.func g) a b => ca g (a ++ args.map (evT e) ++ b) t n k
  | _ => none
 | .pick c a b => match evT e c with
  | .v (.bool v) => cond v (k (evT e a) t n) (k (evT e b) t n)
  | _ => none
 | .isnil neg x => match evT e x with
  | .v (.slice none 0 0) => k (bool (!neg)) t n
  | .sl _ (_ :: _) => k (bool neg) t n
  | .os r ver _ (len + 1) => match gT t n r with
   | some (.arr v _ _) => cond (Nat.beq ver v) (k (bool neg) t n) none
   | _ => none
  | _ => none
 | .nextm _ => none
 | op => match opV op (fun s => e.get .any s) (gT t n) n with
  | some (x,u) => upK u t n fun t n => k x t n
  | none => none
theorem zSO {ca : Ca R} (hc : zOR P ca) {op : LOp} {e : Tr AV} {t : Tr HO} {n : Nat} {k : Kv R} {r : R} {H : zA} (h : zQg ca op e t n k = some r) (hr : RH z t n H) :
  ∃ x t' n' H',RH z t' n' H' ∧ k x t' n' = some r ∧ ∀ K : AV → zA → Prop,K x H' → aop P op (eT e) H K := by
 have zCR : ∀ op' : LOp,(∀ K,aop P op' (eT e) H K = ((zAW op' (eT e) H).ok ∧ K (zAW op' (eT e) H).x (zAW op' (eT e) H).H)) → (match opV op' (fun s => e.get .any s) (gT t n) n with | some (x,u) => upK u t n fun t n => k x t n | none => none) = some r →
   ∃ x t' n' H',RH z t' n' H' ∧ k x t' n' = some r ∧ ∀ K : AV → zA → Prop,K x H' → aop P op' (eT e) H K := by
  intro op' hp h
  split at h
  ·rename_i x u hx
   rw [zP8 hr,← hr.len] at hx
   obtain ⟨h1,h2,h3⟩ := zQR _ _ hx
   obtain ⟨t',n',g1,g2⟩ := zUa h hr
   refine ⟨x,t',n',_,g1,g2,fun K hK => ?_⟩
   rw [hp]
   have h1' : (zAW op' (eT e) H).ok := h1
   have h2' : (zAW op' (eT e) H).x = x := h2
   have h3' : (zAW op' (eT e) H).H = u.app H := h3
   exact ⟨h1',by rw [h2',h3']; exact hK⟩
  ·cases h
 cases op
 case call f args =>
  simp only [zQg] at h
  split at h
  ·rename_i g a b hf
   obtain ⟨x,t',n',H',h1,h2,h3⟩ := hc _ _ _ _ _ _ _ H h hr
   refine ⟨x,t',n',H',h1,h2,fun K hK => ?_⟩
   rw [zCy] at hf
   rw [zHO] at h3
   simp only [aop,hf,zGA]
   exact h3 K hK
  ·cases h
 case callh f args =>
  simp only [zQg] at h
  split at h
  ·rename_i g a b hf
   obtain ⟨x,t',n',H',h1,h2,h3⟩ := hc _ _ _ _ _ _ _ H h hr
   refine ⟨x,t',n',H',h1,h2,fun K hK => ?_⟩
   rw [zCy] at hf
   rw [zHO] at h3
   simp only [aop,hf,zGA]
   exact h3 K hK
  ·cases h
 case pick c a b =>
  simp only [zQg] at h
  split at h
  ·rename_i v hv
   rw [zCy] at hv
   cases v with
   | true =>
    refine ⟨_,t,n,H,hr,h,fun K hK => ?_⟩
    simp only [aop,hv,if_true]
    rw [← zCy]; exact hK
   | false =>
    refine ⟨_,t,n,H,hr,h,fun K hK => ?_⟩
    simp only [aop,hv,zZn,if_false]
    rw [← zCy]; exact hK
  ·cases h
 case nextm => cases h
 case isnil neg x =>
  simp only [zQg] at h
  split at h
  ·rename_i hx
   rw [zCy] at hx
   refine ⟨_,t,n,H,hr,h,fun K hK => ?_⟩
   simp only [aop,hx]
   refine ⟨trivial,fun b hb => ?_⟩
   have hb : b = true := hb
   subst hb
   simpa using hK
  ·rename_i hx
   rw [zCy] at hx
   refine ⟨_,t,n,H,hr,h,fun K hK => ?_⟩
   simp only [aop,hx]
   refine ⟨trivial,fun b hb => ?_⟩
   cases b with
   | true => exact absurd (hb rfl) (by simp)
   | false => simpa using hK
  ·rename_i i ver off len hx
   rw [zCy] at hx
   split at h
   ·rename_i v sz xs hg
    rw [zP8 hr] at hg
    cases hb : Nat.beq ver v <;> rw [hb] at h
    ·cases h
    ·have hv := zZU hb
     refine ⟨_,t,n,H,hr,h,fun K hK => ?_⟩
     simp only [aop,hx,slcK]
     have hg' : H[i]? = some (.arr v sz xs) := hg
     rw [hg']
     refine ⟨⟨trivial,hv⟩,fun b hb => ?_⟩
     cases b with
     | true => exact absurd (hb rfl) (by simp)
     | false => simpa using hK
   ·cases h
  ·cases h
 all_goals exact zCR _ (fun K => rfl) h
noncomputable def zD5 (ca : Ca R) : List LO → Tr AV → Tr HO → Nat → (Tr AV → KT R) → Option R
 | [],e,t,n,k => k e t n
 | o :: l,e,t,n,k =>
  match o.g with
  | none => zQg ca o.op e t n fun x t n => zH4 o.d x e fun e => zD5 ca l e t n k
  | some (s,want) => match e.get .any s with
   | .v (.bool b) => cond (eqB b want) (zQg ca o.op e t n fun x t n => zH4 o.d x e fun e => zD5 ca l e t n k) (zH4 o.d zAk e fun e => zD5 ca l e t n k)
   | .v (.tuple _) => zH4 o.d zAk e fun e => zD5 ca l e t n k
   | _ => none
theorem zD0 {ca : Ca R} (hc : zOR P ca) : ∀ {l : List LO} {e : Tr AV} {t : Tr HO} {n : Nat} {k : Tr AV → KT R} {r : R} {H : zA},zD5 ca l e t n k = some r → RH z t n H →
  ∃ e' t' n' H',RH z t' n' H' ∧ k e' t' n' = some r ∧ ∀ K : Env → zA → Prop,K (eT e') H' → zAi P l (eT e) H K
 | [],e,t,n,k,r,H,h,hr => ⟨e,t,n,H,hr,h,fun K hK => hK⟩
 | o :: l,e,t,n,k,r,H,h,hr => by
  have yes : (zQg ca o.op e t n fun x t n => zH4 o.d x e fun e => zD5 ca l e t n k) = some r →
    ∃ e' t' n' H',RH z t' n' H' ∧ k e' t' n' = some r ∧ ∀ K : Env → zA → Prop,K (eT e') H' → aop P o.op (eT e) H fun x H' => zAi P l (ups (eT e) o.d x) H' K := by
   intro h
   obtain ⟨x,t1,n1,H1,r1,h1,f1⟩ := zSO hc h hr
   obtain ⟨e1,he1,h2⟩ := zHr h1
   obtain ⟨e',t',n',H',r2,h3,f2⟩ := zD0 hc h2 r1
   exact ⟨e',t',n',H',r2,h3,fun K hK => f1 _ (by rw [← he1]; exact f2 K hK)⟩
  have no : (zH4 o.d zAk e fun e => zD5 ca l e t n k) = some r → ∃ e' t' n' H',RH z t' n' H' ∧ k e' t' n' = some r ∧ ∀ K : Env → zA → Prop,K (eT e') H' → zAi P l (ups (eT e) o.d zAk) H K := by
   intro h
   obtain ⟨e1,he1,h2⟩ := zHr h
   obtain ⟨e',t',n',H',r2,h3,f2⟩ := zD0 hc h2 hr
   exact ⟨e',t',n',H',r2,h3,fun K hK => by rw [← he1]; exact f2 K hK⟩
  simp only [zD5] at h
  split at h
  ·rename_i hg
   obtain ⟨e',t',n',H',r2,h3,f⟩ := yes h
   exact ⟨e',t',n',H',r2,h3,fun K hK => by simp only [zAi,hg]; exact f K hK⟩
  ·rename_i s want hg
   split at h
   ·rename_i b hb
    have hb' : eT e s = bool b := hb
    have hu : up (eT e) s (bool b) = eT e := zLh hb'
    cases b <;> cases want <;> simp only [eqB,zZI,cond_false] at h
    ·obtain ⟨e',t',n',H',r2,h3,f⟩ := yes h
     exact ⟨e',t',n',H',r2,h3,fun K hK => by simp only [zAi,hg,hb',zZn,if_false,hu]; exact f K hK⟩
    ·obtain ⟨e',t',n',H',r2,h3,f⟩ := no h
     exact ⟨e',t',n',H',r2,h3,fun K hK => by simp only [zAi,hg,hb',zZn,if_false,if_true,hu]; exact f K hK⟩
    ·obtain ⟨e',t',n',H',r2,h3,f⟩ := no h
     exact ⟨e',t',n',H',r2,h3,fun K hK => by simp only [zAi,hg,hb',zZn,if_false,if_true,hu]; exact f K hK⟩
    ·obtain ⟨e',t',n',H',r2,h3,f⟩ := yes h
     exact ⟨e',t',n',H',r2,h3,fun K hK => by simp only [zAi,hg,hb',if_true,hu]; exact f K hK⟩
   ·rename_i us hb
    have hb' : eT e s = .v (.tuple us) := hb
    obtain ⟨e',t',n',H',r2,h3,f⟩ := no h
    exact ⟨e',t',n',H',r2,h3,fun K hK => by simp only [zAi,hg,hb']; exact f K hK⟩
   ·cases h
noncomputable def zIW (ca : Ca R) (op : LOp) (e : Tr AV) (t : Tr HO) (n : Nat) (k : AV → Option R) : Option R :=
 match op with
 | .call f args => match evT e f with
  | .fn (.func g) a b => cond ((a ++ args.map (evT e) ++ b).all cl2) (ca g (a ++ args.map (evT e) ++ b) .leaf 0 fun x _ _ => cond (cl2 x) (k x) none) none
  | _ => none
 | .callh f args => match evT e f with
  | .fn (.func g) a b => zPx t n fun t' => ca g (a ++ args.map (evT e) ++ b) t' n fun x _ _ => cond (cl2 x) (k x) none
  | _ => none
 | .pick c a b => match evT e c with
  | .v (.bool v) => cond v (k (evT e a)) (k (evT e b))
  | _ => none
 | .isnil _ _ => none
 | .rangem _ => none
 | .nextm _ => none
 | .entrym _ => none
 | .frz _ => none
 | .own _ _ => none
 | .frzf _ _ _ => none
 | op => match opV op (fun s => e.get .any s) (gT t n) n with
  | some (x,.keep) => k x
  | _ => none
theorem zQJ : RH ⟨0,[]⟩ .leaf 0 [] := ⟨rfl,fun r hr => by omega,by simp [loT,Tr.get_leaf],zZa _,fun r hr => by simp at hr⟩
theorem zOr : ∀ {l : List AV},l.all cl2 = true → clL l = true
 | [],_ => by simp [clL]
 | x :: l,h => by
  simp only [zzaY,zYX] at h
  simp only [clL,zYX]
  exact ⟨zOq h.1,zOr h.2⟩
theorem zQe {ca : Ca R} (hc : zOR P ca) {op : LOp} {e : Tr AV} {t : Tr HO} {n : Nat} {k : AV → Option R} {r : R} {H : zA} (h : zIW ca op e t n k = some r) (hr : RH z t n H) :
  ∃ x,k x = some r ∧ ∀ K : AV → Prop,K x → zDb P op (eT e) H K := by
 have zCR : ∀ op' : LOp,(∀ K,zDb P op' (eT e) H K = ((zAW op' (eT e) H).ok ∧ (zAW op' (eT e) H).H = H ∧ K (zAW op' (eT e) H).x)) → (match opV op' (fun s => e.get .any s) (gT t n) n with | some (x,.keep) => k x | _ => none) = some r →
   ∃ x,k x = some r ∧ ∀ K : AV → Prop,K x → zDb P op' (eT e) H K := by
  intro op' hp h
  split at h
  ·rename_i x hx
   rw [zP8 hr,← hr.len] at hx
   obtain ⟨h1,h2,h3⟩ := zQR _ _ hx
   refine ⟨x,h,fun K hK => ?_⟩
   rw [hp]
   have h1' : (zAW op' (eT e) H).ok := h1
   have h2' : (zAW op' (eT e) H).x = x := h2
   have h3' : (zAW op' (eT e) H).H = H := h3
   exact ⟨h1',h3',by rw [h2']; exact hK⟩
  ·cases h
 cases op
 case call f args =>
  simp only [zIW] at h
  split at h
  ·rename_i g a b hf
   cases hb : (a ++ args.map (evT e) ++ b).all cl2 <;> rw [hb] at h
   ·cases h
   ·rw [zZI] at h
    obtain ⟨x,t',n',H',h1,h2,h3⟩ := hc _ _ _ _ _ _ _ [] h zQJ
    cases hx : cl2 x <;> rw [hx] at h2
    ·cases h2
    ·refine ⟨x,h2,fun K hK => ?_⟩
     rw [zCy] at hf
     rw [zHO] at h3 hb
     simp only [zDb,hf]
     refine ⟨x,?_,zOr hb,hK⟩
     exact ACall.drop (R := fun y => y = x) (h3 _ ⟨rfl,zOq hx,H',rfl⟩)
  ·cases h
 case callh f args =>
  simp only [zIW] at h
  split at h
  ·rename_i g a b hf
   obtain ⟨t1,hr1,h⟩ := zPw h hr
   obtain ⟨x,t',n',H',h1,h2,h3⟩ := hc _ _ _ _ _ _ _ H h hr1
   cases hx : cl2 x <;> rw [hx] at h2
   ·cases h2
   ·refine ⟨x,h2,fun K hK => ?_⟩
    rw [zCy] at hf
    rw [zHO] at h3
    simp only [zDb,hf]
    have hlen := h1.le
    obtain ⟨rest,rfl⟩ : ∃ rest,H' = H ++ rest := by
     refine ⟨H'.drop n,zzaB fun i => ?_⟩
     have hl := hr.len
     have hl' := h1.len
     simp only at hlen
     by_cases hi : i < n
     ·rw [zY2 (by omega)]; exact h1.low i hi
     ·rw [zYY (by omega),zZQ]
      congr 1
      omega
    exact ⟨x,ACall.drop (R := fun y => y = x) (h3 _ ⟨rfl,zOq hx,rest,rfl⟩),hK⟩
  ·cases h
 case pick c a b =>
  simp only [zIW] at h
  split at h
  ·rename_i v hv
   rw [zCy] at hv
   cases v with
   | true =>
    refine ⟨_,h,fun K hK => ?_⟩
    simp only [zDb,hv,if_true]
    rw [← zCy]; exact hK
   | false =>
    refine ⟨_,h,fun K hK => ?_⟩
    simp only [zDb,hv,zZn,if_false]
    rw [← zCy]; exact hK
  ·cases h
 case isnil => cases h
 case rangem => cases h
 case nextm => cases h
 case entrym => cases h
 case frz => cases h
 case own => cases h
 case frzf => cases h
 all_goals exact zCR _ (fun K => rfl) h
noncomputable def zCf (ca : Ca R) : List LO → Tr AV → Tr HO → Nat → (Tr AV → Option R) → Option R
 | [],e,t,n,k => k e
 | o :: l,e,t,n,k =>
  match o.g with
  | none => zIW ca o.op e t n fun x => zH4 o.d x e fun e => zCf ca l e t n k
  | some (s,want) => match e.get .any s with
   | .v (.bool b) => cond (eqB b want) (zIW ca o.op e t n fun x => zH4 o.d x e fun e => zCf ca l e t n k) (zH4 o.d zAk e fun e => zCf ca l e t n k)
   | .v (.tuple _) => zH4 o.d zAk e fun e => zCf ca l e t n k
   | _ => none
theorem zDK {ca : Ca R} (hc : zOR P ca) : ∀ {l : List LO} {e : Tr AV} {t : Tr HO} {n : Nat} {k : Tr AV → Option R} {r : R} {H : zA},zCf ca l e t n k = some r → RH z t n H →
  ∃ e',k e' = some r ∧ ∀ K : Env → Prop,K (eT e') → zAF P l (eT e) H K
 | [],e,t,n,k,r,H,h,hr => ⟨e,h,fun K hK => hK⟩
 | o :: l,e,t,n,k,r,H,h,hr => by
  have yes : (zIW ca o.op e t n fun x => zH4 o.d x e fun e => zCf ca l e t n k) = some r →
    ∃ e',k e' = some r ∧ ∀ K : Env → Prop,K (eT e') → zDb P o.op (eT e) H fun x => zAF P l (ups (eT e) o.d x) H K := by
   intro h
   obtain ⟨x,h1,f1⟩ := zQe hc h hr
   obtain ⟨e1,he1,h2⟩ := zHr h1
   obtain ⟨e',h3,f2⟩ := zDK hc h2 hr
   exact ⟨e',h3,fun K hK => f1 _ (by rw [← he1]; exact f2 K hK)⟩
  have no : (zH4 o.d zAk e fun e => zCf ca l e t n k) = some r → ∃ e',k e' = some r ∧ ∀ K : Env → Prop,K (eT e') → zAF P l (ups (eT e) o.d zAk) H K := by
   intro h
   obtain ⟨e1,he1,h2⟩ := zHr h
   obtain ⟨e',h3,f2⟩ := zDK hc h2 hr
   exact ⟨e',h3,fun K hK => by rw [← he1]; exact f2 K hK⟩
  simp only [zCf] at h
  split at h
  ·rename_i hg
   obtain ⟨e',h3,f⟩ := yes h
   exact ⟨e',h3,fun K hK => by simp only [zAF,hg]; exact f K hK⟩
  ·rename_i s want hg
   split at h
   ·rename_i b hb
    have hb' : eT e s = bool b := hb
    have hu : up (eT e) s (bool b) = eT e := zLh hb'
    cases b <;> cases want <;> simp only [eqB,zZI,cond_false] at h
    ·obtain ⟨e',h3,f⟩ := yes h
     exact ⟨e',h3,fun K hK => by simp only [zAF,hg,hb',zZn,if_false,hu]; exact f K hK⟩
    ·obtain ⟨e',h3,f⟩ := no h
     exact ⟨e',h3,fun K hK => by simp only [zAF,hg,hb',zZn,if_false,if_true,hu]; exact f K hK⟩
    ·obtain ⟨e',h3,f⟩ := no h
     exact ⟨e',h3,fun K hK => by simp only [zAF,hg,hb',zZn,if_false,if_true,hu]; exact f K hK⟩
    ·obtain ⟨e',h3,f⟩ := yes h
     exact ⟨e',h3,fun K hK => by simp only [zAF,hg,hb',if_true,hu]; exact f K hK⟩
   ·rename_i us hb
    have hb' : eT e s = .v (.tuple us) := hb
    obtain ⟨e',h3,f⟩ := no h
    exact ⟨e',h3,fun K hK => by simp only [zAF,hg,hb']; exact f K hK⟩
   ·cases h
def zST : Value → Value → Bool
 | .int k a,.int k' b => eqK k k' && eqI a b
 | .bool a,.bool b => eqB a b
 | .string a,.string b => eqL (bs a) (bs b)
 | .slice none 0 0,.slice none 0 0 => true
 | .pointer none,.pointer none => true
 | .map none,.map none => true
 | .tuple a,.tuple b => Nat.beq a.size 0 && Nat.beq b.size 0
 | _,_ => false
theorem zQh {a b : Value} (h : zST a b = true) : a = b := by
 unfold zST at h
 split at h
 ·simp only [zYX,zKZ,zY5] at h
  rw [zOf h.1,h.2]
 ·rw [zK0,zY5] at h; rw [h]
 ·rw [zIX,zY5] at h
  rename_i x y
  rw [← zNA x,← zNA y,h]
 ·rfl
 ·rfl
 ·rfl
 ·simp only [zYX,zZH] at h
  rw [zzaX h.1,zzaX h.2]
 ·cases h
def zGa {α : Type} (f : α → α → Bool) : List α → List α → Bool
 | [],[] => true
 | a :: l,b :: m => cond (f a b) (zGa f l m) false
 | _,_ => false
theorem zDm {α : Type} {f : α → α → Bool} (hf : ∀ a b,f a b = true → a = b) : ∀ {l m : List α},zGa f l m = true → l = m
 | [],[],_ => rfl
 | [],_ :: _,h => by cases h
 | _ :: _,[],h => by cases h
 | a :: l,b :: m,h => by
  simp only [zGa] at h
  cases hab : f a b with
  | false => rw [hab] at h; cases h
  | true =>
   rw [hab,zZI] at h
   rw [hf a b hab,zDm hf h]
def eqA : Nat → AV → AV → Bool
 | 0,_,_ => false
 | n + 1,a,b => match a,b with
  | .any,.any => true
  | .v x,.v y => zST x y
  | .agg l,.agg m => zGa (eqA n) l m
  | .tup l,.tup m => zGa (eqA n) l m
  | .sl s l,.sl s' m => Nat.beq s s' && zGa (zGa (eqA n)) l m
  | .vp l o,.vp m o' => zGa (eqA n) l m && Nat.beq o o'
  | .os r v o l,.os r' v' o' l' => Nat.beq r r' && Nat.beq v v' && Nat.beq o o' && Nat.beq l l'
  | .ptr r v o,.ptr r' v' o' => Nat.beq r r' && Nat.beq v v' && Nat.beq o o'
  | .pe r v i o,.pe r' v' i' o' => Nat.beq r r' && Nat.beq v v' && Nat.beq i i' && Nat.beq o o'
  | .nc,.nc => true
  | _,_ => false
theorem zOh : ∀ (n : Nat) (a b : AV),eqA n a b = true → a = b
 | 0,_,_,h => by cases h
 | n + 1,a,b,h => by
  have ih := zOh n
  unfold eqA at h
  split at h
  ·rfl
  ·rw [zQh h]
  ·rw [zDm ih h]
  ·rw [zDm ih h]
  ·simp only [zYX,zZH] at h
   rw [h.1,zDm (fun _ _ hh => zDm ih hh) h.2]
  ·simp only [zYX,zZH] at h
   rw [zDm ih h.1,h.2]
  ·simp only [zYX,zZH] at h
   obtain ⟨⟨⟨rfl,rfl⟩,rfl⟩,rfl⟩ := h; rfl
  ·simp only [zYX,zZH] at h
   obtain ⟨⟨rfl,rfl⟩,rfl⟩ := h; rfl
  ·simp only [zYX,zZH] at h
   obtain ⟨⟨⟨rfl,rfl⟩,rfl⟩,rfl⟩ := h; rfl
  ·rfl
  ·cases h
noncomputable def zOd (ca : Ca R) (o : LO) (e1 : Tr AV) (t : Tr HO) (n : Nat) (k : Option R) : Option R :=
 zCf ca [o] e1 t n fun e2 => match o.d with
  | some d => cond (eqA 20 (e2.get .any d) (e1.get .any d)) k none
  | none => none
theorem zLW {ca : Ca R} (hc : zOR P ca) {o : LO} {e1 : Tr AV} {t : Tr HO} {n : Nat} {k : Option R} {r : R} {H : zA} (h : zOd ca o e1 t n k = some r) (hr : RH z t n H) : (zAF P [o] (eT e1) H fun e' => e' = eT e1) ∧ k = some r := by
 obtain ⟨e2,h1,f⟩ := zDK hc h hr
 cases hd : o.d with
 | none => rw [hd] at h1; cases h1
 | some d =>
  rw [hd] at h1
  cases hq : eqA 20 (e2.get .any d) (e1.get .any d) with
  | false => simp only [hq,cond_false] at h1; cases h1
  | true =>
   simp only [hq,zZI] at h1
   refine ⟨?_,h1⟩
   have g := f (fun e' => e' = eT e2) rfl
   have he : eT e2 = eT e1 := by
    obtain ⟨x,_,h3⟩ := zC9 g
    have h3 : ups (eT e1) o.d x = eT e2 := h3
    rw [hd] at h3
    have hx : x = eT e1 d := by
     have h4 := congrFun h3 d
     rw [zAS] at h4
     rw [h4]
     exact zOh _ _ _ hq
    rw [← h3,hx]
    funext u
    simp only [ups,up]
    split
    ·rename_i hu; rw [hu]
    ·rfl
   rw [he] at g
   exact g
noncomputable def zHP (ca : Ca R) (hd : List LO) (e1 : Tr AV) (t : Tr HO) (n : Nat) : List Nat → Option R → Option R
 | [],k => k
 | j :: js,k => zOd ca (hd.getD j default) e1 t n (zHP ca hd e1 t n js k)
theorem zG1 {ca : Ca R} (hc : zOR P ca) {hd : List LO} {e1 : Tr AV} {t : Tr HO} {n : Nat} {r : R} {H : zA} (hr : RH z t n H) : ∀ {js : List Nat} {k : Option R},zHP ca hd e1 t n js k = some r → zC2 P hd (eT e1) H js ∧ k = some r
 | [],k,h => ⟨fun j hj => by simp at hj,h⟩
 | j :: js,k,h => by
  obtain ⟨h1,h2⟩ := zLW hc h hr
  obtain ⟨h3,h4⟩ := zG1 hc hr h2
  refine ⟨fun i hi => ?_,h4⟩
  rcases zZr.1 hi with rfl | hi
  ·exact h1
  ·exact h3 i hi
noncomputable def zVC (ca : Ca R) (hd : List LO) (e1 : Tr AV) : List (LO × List Nat) → Tr AV → Tr HO → Nat → (Tr AV → KT R) → Option R
 | [],e,t,n,k => k e t n
 | p :: l,e,t,n,k => zD5 ca [p.1] e t n fun e t n => zHP ca hd e1 t n p.2 (zVC ca hd e1 l e t n k)
theorem zOa {ca : Ca R} (hc : zOR P ca) {hd : List LO} {e1 : Tr AV} : ∀ {l : List (LO × List Nat)} {e : Tr AV} {t : Tr HO} {n : Nat} {k : Tr AV → KT R} {r : R} {H : zA},zVC ca hd e1 l e t n k = some r → RH z t n H →
  ∃ e' t' n' H',RH z t' n' H' ∧ k e' t' n' = some r ∧ ∀ K : Env → zA → Prop,K (eT e') H' → zDa P hd (eT e1) l (eT e) H K
 | [],e,t,n,k,r,H,h,hr => ⟨e,t,n,H,hr,h,fun K hK => hK⟩
 | p :: l,e,t,n,k,r,H,h,hr => by
  obtain ⟨e2,t2,n2,H2,r2,h2,f2⟩ := zD0 hc h hr
  obtain ⟨k1,k2⟩ := zG1 hc r2 h2
  obtain ⟨e',t',n',H',r3,h3,f3⟩ := zOa hc k2 r2
  exact ⟨e',t',n',H',r3,h3,fun K hK => f2 _ ⟨k1,f3 K hK⟩⟩
abbrev Ko (R : Type) := Out → Tr AV → Tr HO → Nat → Option R
abbrev Bd (R : Type) := Tr AV → Tr HO → Nat → Ko R → Option R
noncomputable def iter (body : Bd R) : Nat → Bd R
 | 0,_,_,_,_ => none
 | m + 1,e,t,n,k => body e t n fun o e t n => match o with
  | .normal => iter body m e t n k
  | o => k o e t n
noncomputable def evC (ca : Ca R) (m : Nat) (c : LCode) : Bd R :=
 LCode.rec (motive := fun _ => Bd R)
  (fun e t n k => k .normal e t n)
  (fun l e t n k => zD5 ca l e t n fun e t n => k .normal e t n)
  (fun hd tl e t n k => zCf ca hd e t n fun e => zD5 ca tl e t n fun e t n => k .normal e t n)
  (fun _ _ _ _ _ _ _ _ => none)
  (fun hd tl gs e t n k => zCf ca hd e t n fun e1 => zVC ca hd e1 tl e1 t n fun e t n => zD5 ca gs e t n fun e t n => k .normal e t n)
  (fun _ _ iha ihb e t n k => iha e t n fun o e t n => match o with
   | .normal => ihb e t n k
   | o => k o e t n)
  (fun x _ _ iha ihb e t n k => match evT e x with
   | .v (.bool b) => cond b (iha e t n k) (ihb e t n k)
   | _ => none)
  (fun id _ ih e t n k => ih e t n fun o e t n => match o with
   | .exit j => cond (Nat.beq j id) (k .normal e t n) (k (.exit j) e t n)
   | o => k o e t n)
  (fun _ ih e t n k => iter ih m e t n k)
  (fun _ _ _ _ _ _ _ _ _ _ => none)
  (fun id e t n k => k (.exit id) e t n)
  (fun e t n k => k .ret e t n)
  (fun _ _ _ _ _ _ _ => none)
  (fun _ _ _ _ _ _ _ => none)
  (fun _ _ _ _ _ => none)
  (fun _ _ _ _ _ _ _ => none) c
def zYS (P : Program) (c : LCode) (b : Bd R) : Prop := ∀ z e t n k r H,b e t n k = some r → RH z t n H → ∃ o e' t' n' H',RH z t' n' H' ∧ k o e' t' n' = some r ∧ ∀ K : Out → Env → zA → Prop,K o (eT e') H' → awp P c (eT e) H K
open Classical in
theorem zNI {c : LCode} {e e1 : Env} {H H1 : zA} {K : Out → Env → zA → Prop} (h : awp P c e H fun o e' H' => o = .normal ∧ e' = e1 ∧ H' = H1) (h1 : awp P (.loop c) e1 H1 K) : awp P (.loop c) e H K := by
 obtain ⟨I,μ,g1,g2⟩ := h1
 refine ⟨fun e' H' => I e' H' ∨ (e' = e ∧ H' = H),fun e' H' => if I e' H' then μ e' H' else μ e1 H1 + 1,.inr ⟨rfl,rfl⟩,fun e' H' hI => ?_⟩
 by_cases hh : I e' H'
 ·refine zDr (g2 e' H' hh) fun o e2 H2 h2 => ?_
  cases o with
  | normal => exact ⟨.inl h2.1,by simp only [if_pos h2.1,if_pos hh]; exact h2.2⟩
  | _ => exact h2
 ·obtain ⟨rfl,rfl⟩ := hI.resolve_left hh
  refine zDr h fun o e2 H2 h2 => ?_
  obtain ⟨rfl,rfl,rfl⟩ := h2
  exact ⟨.inl g1,by simp only [if_pos g1,if_neg hh]; omega⟩
theorem zHF {c : LCode} {e : Env} {H : zA} {K : Out → Env → zA → Prop} (h : awp P c e H fun o e' H' => o ≠ .normal ∧ K o e' H') : awp P (.loop c) e H K := by
 refine ⟨fun e' H' => e' = e ∧ H' = H,fun _ _ => 0,⟨rfl,rfl⟩,fun e' H' hI => ?_⟩
 obtain ⟨rfl,rfl⟩ := hI
 refine zDr h fun o e2 H2 h2 => ?_
 cases o with
 | normal => exact absurd rfl h2.1
 | _ => exact h2.2
theorem zNR {c : LCode} {b : Bd R} (hb : zYS P c b) : ∀ m,zYS P (.loop c) (iter b m)
 | 0,z,e,t,n,k,r,H,h,hr => by cases h
 | m + 1,z,e,t,n,k,r,H,h,hr => by
  simp only [iter] at h
  obtain ⟨o,e1,t1,n1,H1,r1,h1,f1⟩ := hb _ _ _ _ _ _ _ h hr
  cases o with
  | normal =>
   obtain ⟨o,e',t',n',H',r2,h2,f2⟩ := zNR hb m _ _ _ _ _ _ _ h1 r1
   exact ⟨o,e',t',n',H',r2,h2,fun K hK => zNI (f1 _ ⟨rfl,rfl,rfl⟩) (f2 K hK)⟩
  | exit id => exact ⟨_,e1,t1,n1,H1,r1,h1,fun K hK => zHF (f1 _ ⟨by simp,hK⟩)⟩
  | ret => exact ⟨_,e1,t1,n1,H1,r1,h1,fun K hK => zHF (f1 _ ⟨by simp,hK⟩)⟩
  | pan v => exact ⟨_,e1,t1,n1,H1,r1,h1,fun K hK => zHF (f1 _ ⟨by simp,hK⟩)⟩
theorem zVF {ca : Ca R} (hc : zOR P ca) (m : Nat) : ∀ c : LCode,zYS P c (evC ca m c) := by
 intro c
 induction c with
 | skip => exact fun z e t n k r H h hr => ⟨.normal,e,t,n,H,hr,h,fun K hK => hK⟩
 | ops l =>
  intro z e t n k r H h hr
  obtain ⟨e',t',n',H',r1,h1,f1⟩ := zD0 hc h hr
  exact ⟨.normal,e',t',n',H',r1,h1,fun K hK => f1 (K .normal) hK⟩
 | draw hd tl =>
  intro z e t n k r H h hr
  obtain ⟨e1,h0,f0⟩ := zDK hc (h : zCf ca hd e t n _ = some r) hr
  obtain ⟨e',t',n',H',r1,h1,f1⟩ := zD0 hc h0 hr
  exact ⟨.normal,e',t',n',H',r1,h1,fun K hK => f0 _ (f1 (K .normal) hK)⟩
 | drawM => intro z e t n k r H h hr; cases h
 | drawA hd tl gs =>
  intro z e t n k r H h hr
  obtain ⟨e1,h0,f0⟩ := zDK hc (h : zCf ca hd e t n _ = some r) hr
  obtain ⟨e2,t2,n2,H2,r2,h2,f2⟩ := zOa hc h0 hr
  obtain ⟨e',t',n',H',r1,h1,f1⟩ := zD0 hc h2 r2
  exact ⟨.normal,e',t',n',H',r1,h1,fun K hK => f0 _ (f2 _ (f1 (K .normal) hK))⟩
 | seq a b iha ihb =>
  intro z e t n k r H h hr
  obtain ⟨o,e1,t1,n1,H1,r1,h1,f1⟩ := iha _ _ _ _ _ _ _ h hr
  cases o with
  | normal =>
   obtain ⟨o,e',t',n',H',r2,h2,f2⟩ := ihb _ _ _ _ _ _ _ h1 r1
   exact ⟨o,e',t',n',H',r2,h2,fun K hK => f1 _ (f2 K hK)⟩
  | exit id => exact ⟨_,e1,t1,n1,H1,r1,h1,fun K hK => f1 _ hK⟩
  | ret => exact ⟨_,e1,t1,n1,H1,r1,h1,fun K hK => f1 _ hK⟩
  | pan v => exact ⟨_,e1,t1,n1,H1,r1,h1,fun K hK => f1 _ hK⟩
 | cond x a b iha ihb =>
  intro z e t n k r H h hr
  change (match evT e x with | .v (.bool b') => cond b' (evC ca m a e t n k) (evC ca m b e t n k) | _ => none) = some r at h
  split at h
  ·rename_i v hv
   rw [zCy] at hv
   cases v with
   | true =>
    obtain ⟨o,e1,t1,n1,H1,r1,h1,f1⟩ := iha _ _ _ _ _ _ _ h hr
    refine ⟨o,e1,t1,n1,H1,r1,h1,fun K hK => ?_⟩
    simp only [awp,hv,if_true]
    rw [zHA hv]
    exact f1 K hK
   | false =>
    obtain ⟨o,e1,t1,n1,H1,r1,h1,f1⟩ := ihb _ _ _ _ _ _ _ h hr
    refine ⟨o,e1,t1,n1,H1,r1,h1,fun K hK => ?_⟩
    simp only [awp,hv,zZn,if_false]
    rw [zHA hv]
    exact f1 K hK
  ·cases h
 | block id c ih =>
  intro z e t n k r H h hr
  obtain ⟨o,e1,t1,n1,H1,r1,h1,f1⟩ := ih _ _ _ _ _ _ _ h hr
  cases o with
  | normal => exact ⟨_,e1,t1,n1,H1,r1,h1,fun K hK => f1 _ hK⟩
  | exit j =>
   simp only at h1
   by_cases hj : j = id
   ·subst hj
    rw [Nat.beq_refl,zZI] at h1
    exact ⟨_,e1,t1,n1,H1,r1,h1,fun K hK => f1 _ (by simp only [if_true]; exact hK)⟩
   ·have hb : Nat.beq j id = false := by
     cases hh : Nat.beq j id
     ·rfl
     ·exact (hj (zZU hh)).elim
    rw [hb,cond_false] at h1
    exact ⟨_,e1,t1,n1,H1,r1,h1,fun K hK => f1 _ (by simp only [if_neg hj]; exact hK)⟩
  | ret => exact ⟨_,e1,t1,n1,H1,r1,h1,fun K hK => f1 _ hK⟩
  | pan v => exact ⟨_,e1,t1,n1,H1,r1,h1,fun K hK => f1 _ hK⟩
 | loop c ih => exact zNR ih m
 | range => intro z e t n k r H h hr; cases h
 | exit id => exact fun z e t n k r H h hr => ⟨_,e,t,n,H,hr,h,fun K hK => hK⟩
 | ret => exact fun z e t n k r H h hr => ⟨_,e,t,n,H,hr,h,fun K hK => hK⟩
 | callp => intro z e t n k r H h hr; cases h
 | ti => intro z e t n k r H h hr; cases h
 | drawX => intro z e t n k r H h hr; cases h
 | pan => intro z e t n k r H h hr; cases h
noncomputable def zVD (e : Tr AV) (t : Tr HO) (n : Nat) : RV → Option AV
 | .tmp s => some (e.get .any s)
 | .cell s ag z => match zJj ag z (gT t n) (e.get .any s) with
  | some (x,.keep) => some x
  | _ => none
noncomputable def zLV (e : Tr AV) (t : Tr HO) (n : Nat) : List RV → Option (List AV)
 | [] => some []
 | r :: l => match zVD e t n r,zLV e t n l with
  | some x,some m => some (x :: m)
  | _,_ => none
noncomputable def zQd (e : Tr AV) (t : Tr HO) (n : Nat) : List RV → Option AV
 | [r] => zVD e t n r
 | l => (zLV e t n l).map .tup
theorem zOb {e : Tr AV} {t : Tr HO} {n : Nat} {rv : RV} {x : AV} {H : zA} (h : zVD e t n rv = some x) (hr : RH z t n H) : (zCH (eT e) H rv).ok ∧ (zCH (eT e) H rv).x = x := by
 cases rv with
 | tmp s => simp only [zVD,zYT] at h; exact ⟨trivial,h⟩
 | cell s ag z =>
  simp only [zVD] at h
  split at h
  ·rename_i y hy
   simp only [zYT] at h
   rw [zP8 hr] at hy
   obtain ⟨h1,h2,_⟩ := zHn _ _ hy
   exact ⟨h1,by rw [← h]; exact h2⟩
  ·cases h
theorem zKX {e : Tr AV} {t : Tr HO} {n : Nat} {H : zA} (hr : RH z t n H) : ∀ {l : List RV} {xs : List AV},zLV e t n l = some xs → (∀ r ∈ l,(zCH (eT e) H r).ok) ∧ l.map (fun r => (zCH (eT e) H r).x) = xs
 | [],xs,h => by simp only [zLV,zYT] at h; subst h; simp
 | r :: l,xs,h => by
  simp only [zLV] at h
  split at h
  ·rename_i x m hx hm
   simp only [zYT] at h
   obtain ⟨h1,h2⟩ := zOb hx hr
   obtain ⟨h3,h4⟩ := zKX hr hm
   subst h
   exact ⟨by simp only [zZr,forall_eq_or_imp]; exact ⟨h1,h3⟩,by rw [zZG,h2,h4]⟩
  ·cases h
theorem zQc {e : Tr AV} {t : Tr HO} {n : Nat} {l : List RV} {x : AV} {H : zA} (h : zQd e t n l = some x) (hr : RH z t n H) : (zAA (eT e) H l).ok ∧ (zAA (eT e) H l).x = x := by
 unfold zQd at h
 split at h
 ·exact zOb h hr
 ·rename_i hne
  cases hm : zLV e t n l with
  | none => rw [hm] at h; cases h
  | some xs =>
   rw [hm,zZt,zYT] at h
   obtain ⟨h1,h2⟩ := zKX hr hm
   unfold zAA
   split
   ·exact absurd rfl (hne _)
   ·exact ⟨h1,by rw [← h,← h2]⟩
noncomputable def zVH : List AV → Nat → Tr AV
 | [],_ => .leaf
 | x :: l,i => (zVH l (i + 1)).set .any x 30 i
theorem zOi : ∀ (l : List AV) (i : Nat),i + l.length ≤ 1000000 → eT (zVH l i) = zC6 l i
 | [],i,_ => by funext s; simp [eT,zVH,Tr.get_leaf,zC6,e0]
 | x :: l,i,h => by
  simp only [zYZ] at h
  funext s
  have ih := congrFun (zOi l (i + 1) (by omega)) s
  simp only [eT] at ih
  simp only [eT,zVH,zC6,up]
  rw [Tr.get_set _ _ _ _ _ _ (by rw [zJA]; omega),ih]
def zMf (P : Program) (tbl : Tr (Option LFn)) : Prop := ∀ f L,tbl.get none f = some L → ∃ fn hs,P.funcs[f]? = some fn ∧ zAv P fn hs = some L
end
def TrAll {α : Type} (p : Nat → α → Prop) : (Nat → Nat) → Tr (Option α) → Prop
 | _,.leaf => True
 | φ,.node v l r => (match v with | some x => p (φ 0) x | none => True) ∧ TrAll p (fun j => φ (2 * j + 1)) l ∧ TrAll p (fun j => φ (2 * j + 2)) r
theorem TrAll.get {α : Type} {p : Nat → α → Prop} : ∀ {t : Tr (Option α)} {φ : Nat → Nat} {i : Nat} {x : α},TrAll p φ t → t.get none i = some x → p (φ i) x
 | .leaf,φ,i,x,_,h => by rw [Tr.get_leaf] at h; cases h
 | .node v l r,φ,i,x,⟨h1,h2,h3⟩,h => by
  cases i with
  | zero =>
   rw [Tr.get_z] at h
   subst h
   exact h1
  | succ n =>
   rw [Tr.get_s] at h
   split at h
   ·have := TrAll.get h2 h
    rwa [show 2 * (n / 2) + 1 = n + 1 by omega] at this
   ·have := TrAll.get h3 h
    rwa [show 2 * (n / 2) + 2 = n + 1 by omega] at this
def zXi (P : Program) (f : Nat) (L : LFn) : Prop := ∃ k,f = k ∧ ∃ fn hs,P.funcs[k]? = some fn ∧ zAv P fn hs = some L
abbrev OpF := (Nat → AV) → (Nat → Option HO) → Nat → Rt
noncomputable def oNo : OpF := fun _ _ _ => none
noncomputable def oMv (x : LX) : OpF := fun e _ _ => some (evX e x,.keep)
noncomputable def zQ0 (zs : List AV) : OpF := fun _ _ n => gB (c1s zs) (.ptr n 0 0) (.push (.box zs))
noncomputable def zQV : OpF := fun _ _ n => some (.om n 0,.push (.map 0 [] []))
noncomputable def oIns (kd : KD) (m k x : LX) : OpF := fun e g _ => zWg g kd (evX e m) (zKK (evX e k)) (evX e x)
noncomputable def zVi (kd : KD) (zero : AV) (ok : Bool) (m k : LX) : OpF := fun e g _ => zPa g kd zero ok (evX e m) (zKK (evX e k))
noncomputable def zNt (t : TypeId) (zs : List AV) : OpF := fun _ _ n => gB (zFd (zs.headD .any) && c1s zs) (.ptr n 0 0) (.push (.box (.bnil t :: zs.drop 1)))
noncomputable def zKz (t : TypeId) (s x : LX) : OpF := fun e g n => zFo g t n (evX e s) (evX e x)
noncomputable def oBox (imm : Bool) (x : LX) : OpF := fun e _ n => zXt imm n (evX e x)
noncomputable def zQZ (zs : List AV) (ps : List (Nat × Nat × LX)) : OpF := fun e _ _ => match zLe zs (ps.map fun (o,n,x) => (o,n,evX e x)) with | some r => some (.agg r,.keep) | none => none
noncomputable def oBsl (imm : Bool) (sz len : Nat) (zs : List AV) (ps : List (Nat × LX)) : OpF := fun e _ n => zWi imm sz len n zs (ps.map fun (i,x) => (i,evX e x))
noncomputable def zVj (ag : Bool) (m : Nat) (p : LX) : OpF := fun e g _ => zJj ag m g (evX e p)
noncomputable def zQW (ag : Bool) (m : Nat) (p : LX) : OpF := fun e g _ => zMt ag m g (evX e p)
noncomputable def zNr (off : Nat) (p : LX) : OpF := fun e g _ => zJm g off (evX e p)
noncomputable def zNq (sz : Nat) (x i : LX) : OpF := fun e g _ => zJk g sz (evX e x) (evX e i)
noncomputable def oMin (x y : LX) : OpF := fun e _ _ => zWc (evX e x) (evX e y)
noncomputable def zVh (x y z : LX) : OpF := fun e _ _ => zO8 (evX e x) (evX e y) (evX e z)
noncomputable def oMax (x y : LX) : OpF := fun e _ _ => zWd (evX e x) (evX e y)
noncomputable def zQS (m : Nat) (p x : LX) : OpF := fun e g _ => zGC m g (evX e p) (evX e x)
noncomputable def zNp (x : LX) : OpF := fun e g _ => zQz g (evX e x)
noncomputable def oBin (kd : KD) (op : BinOp) (x y : LX) : OpF := fun e _ _ => match zWj kd op (evX e x) (evX e y) with | some z => some (z,.keep) | none => none
noncomputable def oNot (x : LX) : OpF := fun e _ _ => match evX e x with | .v (.bool b) => some (bool (!b),.keep) | _ => none
noncomputable def oNeg (x : LX) : OpF := fun e _ _ => match evX e x with | .v (.int k n) => fI (zHk k (0 - n)) fun n => some (.v (.int k n),.keep) | _ => none
noncomputable def zVk (c : Cv) (x : LX) : OpF := fun e g _ => zPd g c (evX e x)
noncomputable def zVg (f : Fn) (a b : List LX) : OpF := fun e _ _ => some (.fn f (a.map (evX e)) (b.map (evX e)),.keep)
noncomputable def oMsl (sz bytes : Nat) (zs : List AV) (len cap : LX) : OpF := fun e _ n => zWb sz bytes n zs (evX e len) (evX e cap)
noncomputable def zQU (lk : LK) (m : Nat) (x : LX) (lo hi : Option LX) : OpF := fun e g _ => zGD g lk m (evX e x) (lo.map (evX e)) (hi.map (evX e))
noncomputable def zNo (lk : LK) (m : Nat) (x : LX) (lo hi : Option LX) : OpF := fun e g _ => zJi g lk m (evX e x) (lo.map (evX e)) (hi.map (evX e))
noncomputable def zQY (off : Nat) (p : LX) : OpF := fun e g _ => zIh g off (evX e p)
noncomputable def oFld (ag : Bool) (off m : Nat) (x : LX) : OpF := fun e _ _ => zXq ag off m (evX e x)
noncomputable def zQX (sz : Nat) (x i : LX) : OpF := fun e g _ => zId g sz (evX e x) (evX e i)
noncomputable def oIdx (x i : LX) : OpF := fun e _ _ => zWh (evX e x) (evX e i)
noncomputable def zQT (m : Nat) (p x : LX) : OpF := fun e g _ => zKe m g (evX e p) (evX e x)
noncomputable def oExt (x : LX) (i : Nat) : OpF := fun e _ _ => zXr (evX e x) i
noncomputable def oLen (lk : LK) (x : LX) : OpF := fun e g _ => zWe g lk (evX e x)
noncomputable def zNs (sz bytes : Nat) (s x : LX) : OpF := fun e g n => zHo g sz bytes n (evX e s) (evX e x)
noncomputable def oFrz (x : LX) : OpF := fun e g _ => zTg g (evX e x)
noncomputable def zYg (sz off : Nat) (x : LX) : OpF := fun e g _ => zMv g sz off (evX e x)
noncomputable def oOwn (sz : Nat) (x : LX) : OpF := fun e _ n => match evX e x with | .v (.slice none 0 0) => gB (Nat.blt 0 sz) (.os n 0 0 0) (.push (.arr 0 sz [])) | _ => none
section
variable {P : Program} {R : Type}
abbrev OpK (R : Type) := Ca R → Tr AV → Tr HO → Nat → Kv R → Option R
noncomputable def zAh (f : OpF) : OpK R := fun _ e t n k => match f (fun s => e.get .any s) (gT t n) n with
 | some (x,u) => upK u t n fun t n => k x t n
 | none => none
noncomputable def zRl (f : LX) (args : List LX) : OpK R := fun ca e t n k => match evT e f with
 | .fn (.func g) a b => ca g (a ++ args.map (evT e) ++ b) t n k
 | _ => none
noncomputable def zUN (c a b : LX) : OpK R := fun _ e t n k => match evT e c with
 | .v (.bool v) => cond v (k (evT e a) t n) (k (evT e b) t n)
 | _ => none
noncomputable def zSD (neg : Bool) (x : LX) : OpK R := fun _ e t n k => match evT e x with
 | .v (.slice none 0 0) => k (bool (!neg)) t n
 | .sl _ (_ :: _) => k (bool neg) t n
 | .os r ver _ (len + 1) => match gT t n r with
  | some (.arr v _ _) => cond (Nat.beq ver v) (k (bool neg) t n) none
  | _ => none
 | _ => none
abbrev OpQ (R : Type) := Ca R → Tr AV → Tr HO → Nat → (AV → Option R) → Option R
noncomputable def zAq (f : OpF) : OpQ R := fun _ e t n k => match f (fun s => e.get .any s) (gT t n) n with
 | some (x,.keep) => k x
 | _ => none
noncomputable def noQ : OpQ R := fun _ _ _ _ _ => none
noncomputable def zVV (f : LX) (args : List LX) : OpQ R := fun ca e t n k => match evT e f with
 | .fn (.func g) a b => cond ((a ++ args.map (evT e) ++ b).all cl2) (ca g (a ++ args.map (evT e) ++ b) .leaf 0 fun x _ _ => cond (cl2 x) (k x) none) none
 | _ => none
noncomputable def zS6 (f : LX) (args : List LX) : OpQ R := fun ca e t n k => match evT e f with
 | .fn (.func g) a b => zPx t n fun t' => ca g (a ++ args.map (evT e) ++ b) t' n fun x _ _ => cond (cl2 x) (k x) none
 | _ => none
noncomputable def zUM (c a b : LX) : OpQ R := fun _ e t n k => match evT e c with
 | .v (.bool v) => cond v (k (evT e a)) (k (evT e b))
 | _ => none
noncomputable def zVE (op : LOp) : OpK R := LOp.casesOn (motive := fun _ => OpK R) op
 (fun x => zAh (oMv x)) (zUN) (fun zs => zAh (zQ0 zs)) (fun t zs => zAh (zNt t zs)) (fun imm x => zAh (oBox imm x)) (fun zs ps => zAh (zQZ zs ps)) (fun imm sz len zs ps => zAh (oBsl imm sz len zs ps)) (zAh zQV) (fun kd m k x => zAh (oIns kd m k x)) (fun ag n p => zAh (zVj ag n p)) (fun ag n p => zAh (zQW ag n p)) (fun n p x => zAh (zQS n p x)) (fun x => zAh (zNp x)) (fun kd op x y => zAh (oBin kd op x y)) (fun x => zAh (oNot x)) (fun x => zAh (oNeg x)) (fun c x => zAh (zVk c x)) (fun f a b => zAh (zVg f a b)) (fun sz bytes zs len cap => zAh (oMsl sz bytes zs len cap)) (fun lk n x lo hi => zAh (zQU lk n x lo hi)) (fun lk n x lo hi => zAh (zNo lk n x lo hi)) (fun off p => zAh (zQY off p)) (fun off p => zAh (zNr off p)) (fun ag off n x => zAh (oFld ag off n x)) (fun sz x i => zAh (zQX sz x i)) (fun sz x i => zAh (zNq sz x i)) (fun x i => zAh (oIdx x i)) (fun kd zero ok m k => zAh (zVi kd zero ok m k)) (fun x i => zAh (oExt x i)) (fun lk x => zAh (oLen lk x)) (fun sz bytes s x => zAh (zNs sz bytes s x)) (fun t s x => zAh (zKz t s x)) (fun _ _ _ => zAh oNo) (fun x y => zAh (oMin x y)) (fun x y => zAh (oMax x y)) (fun x y z => zAh (zVh x y z)) (zRl) (zRl) (fun x => zAh (oFrz x)) (fun sz x => zAh (oOwn sz x)) (fun sz off x => zAh (zYg sz off x)) (zSD) (fun _ _ => zAh oNo) (fun _ _ _ => zAh oNo) (fun _ => zAh oNo) (fun _ => fun _ _ _ _ _ => none) (fun _ => zAh oNo) (fun _ _ => zAh oNo) (fun _ => zAh oNo) (fun m p x => zAh (zQT m p x)) (zAh oNo)
noncomputable def zRc (op : LOp) : OpQ R := LOp.casesOn (motive := fun _ => OpQ R) op
 (fun x => zAq (oMv x)) (zUM) (fun zs => zAq (zQ0 zs)) (fun t zs => zAq (zNt t zs)) (fun imm x => zAq (oBox imm x)) (fun zs ps => zAq (zQZ zs ps)) (fun imm sz len zs ps => zAq (oBsl imm sz len zs ps)) (zAq zQV) (fun kd m k x => zAq (oIns kd m k x)) (fun ag n p => zAq (zVj ag n p)) (fun ag n p => zAq (zQW ag n p)) (fun n p x => zAq (zQS n p x)) (fun x => zAq (zNp x)) (fun kd op x y => zAq (oBin kd op x y)) (fun x => zAq (oNot x)) (fun x => zAq (oNeg x)) (fun c x => zAq (zVk c x)) (fun f a b => zAq (zVg f a b)) (fun sz bytes zs len cap => zAq (oMsl sz bytes zs len cap)) (fun lk n x lo hi => zAq (zQU lk n x lo hi)) (fun lk n x lo hi => zAq (zNo lk n x lo hi)) (fun off p => zAq (zQY off p)) (fun off p => zAq (zNr off p)) (fun ag off n x => zAq (oFld ag off n x)) (fun sz x i => zAq (zQX sz x i)) (fun sz x i => zAq (zNq sz x i)) (fun x i => zAq (oIdx x i)) (fun kd zero ok m k => zAq (zVi kd zero ok m k)) (fun x i => zAq (oExt x i)) (fun lk x => zAq (oLen lk x)) (fun sz bytes s x => zAq (zNs sz bytes s x)) (fun t s x => zAq (zKz t s x)) (fun _ _ _ => zAq oNo) (fun x y => zAq (oMin x y)) (fun x y => zAq (oMax x y)) (fun x y z => zAq (zVh x y z)) (zVV) (zS6) (fun _ => noQ) (fun _ _ => noQ) (fun _ _ _ => noQ) (fun _ _ => noQ) (fun _ _ => zAq oNo) (fun _ _ _ => zAq oNo) (fun _ => noQ) (fun _ => noQ) (fun _ => noQ) (fun _ _ => zAq oNo) (fun _ => zAq oNo) (fun m p x => zAq (zQT m p x)) (zAq oNo)
theorem zQf (ca : Ca R) (op : LOp) (e : Tr AV) (t : Tr HO) (n : Nat) (k : Kv R) : zVE op ca e t n k = zQg ca op e t n k := by
 cases op <;> rfl
theorem zOc (ca : Ca R) (op : LOp) (e : Tr AV) (t : Tr HO) (n : Nat) (k : AV → Option R) : zRc op ca e t n k = zIW ca op e t n k := by
 cases op <;> rfl
abbrev zON (R : Type) := Ca R → Tr AV → Tr HO → Nat → (Tr AV → KT R) → Option R
noncomputable def zUY : zON R := fun _ e t n k => k e t n
noncomputable def zNj (o : LO) (ih : zON R) : zON R := fun ca e t n k => zVE o.op ca e t n fun x t n => zH4 o.d x e fun e => ih ca e t n k
noncomputable def zSj (o : LO) (ih : zON R) : zON R := fun ca e t n k => zH4 o.d zAk e fun e => ih ca e t n k
noncomputable def zUZ (o : LO) (ih : zON R) (s : Nat) (want : Bool) : zON R := fun ca e t n k => match e.get .any s with
 | .v (.bool b) => cond (eqB b want) (zNj o ih ca e t n k) (zSj o ih ca e t n k)
 | .v (.tuple _) => zSj o ih ca e t n k
 | _ => none
noncomputable def zJE (o : LO) (ih : zON R) : zON R := fun ca e t n k => match o.g with
 | none => zNj o ih ca e t n k
 | some (s,want) => zUZ o ih s want ca e t n k
noncomputable def zEF (l : List LO) : zON R := List.rec (motive := fun _ => zON R) zUY (fun o _ ih => zJE o ih) l
theorem zDM : ∀ (l : List LO) (ca : Ca R) (e : Tr AV) (t : Tr HO) (n : Nat) (k : Tr AV → KT R),zEF l ca e t n k = zD5 ca l e t n k
 | [],ca,e,t,n,k => rfl
 | o :: l,ca,e,t,n,k => by
  show zJE o (zEF l) ca e t n k = _
  simp only [zJE,zNj,zSj,zUZ,zD5,zQf,zDM l]
  try (generalize o.g = g; rcases g with _ | ⟨s,want⟩ <;> rfl)
abbrev zOO (R : Type) := Ca R → Tr AV → Tr HO → Nat → (Tr AV → Option R) → Option R
noncomputable def zU0 : zOO R := fun _ e _ _ k => k e
noncomputable def zNk (o : LO) (ih : zOO R) : zOO R := fun ca e t n k => zRc o.op ca e t n fun x => zH4 o.d x e fun e => ih ca e t n k
noncomputable def zSk (o : LO) (ih : zOO R) : zOO R := fun ca e t n k => zH4 o.d zAk e fun e => ih ca e t n k
noncomputable def zU1 (o : LO) (ih : zOO R) (s : Nat) (want : Bool) : zOO R := fun ca e t n k => match e.get .any s with
 | .v (.bool b) => cond (eqB b want) (zNk o ih ca e t n k) (zSk o ih ca e t n k)
 | .v (.tuple _) => zSk o ih ca e t n k
 | _ => none
noncomputable def zJF (o : LO) (ih : zOO R) : zOO R := fun ca e t n k => match o.g with
 | none => zNk o ih ca e t n k
 | some (s,want) => zU1 o ih s want ca e t n k
noncomputable def zDL (l : List LO) : zOO R := List.rec (motive := fun _ => zOO R) zU0 (fun o _ ih => zJF o ih) l
theorem zD1 : ∀ (l : List LO) (ca : Ca R) (e : Tr AV) (t : Tr HO) (n : Nat) (k : Tr AV → Option R),zDL l ca e t n k = zCf ca l e t n k
 | [],ca,e,t,n,k => rfl
 | o :: l,ca,e,t,n,k => by
  show zJF o (zDL l) ca e t n k = _
  simp only [zJF,zNk,zSk,zU1,zCf,zOc,zD1 l]
  try (generalize o.g = g; rcases g with _ | ⟨s,want⟩ <;> rfl)
abbrev CT (R : Type) := Ca R → Nat → Bd R
noncomputable def zYH : CT R := fun _ _ e t n k => k .normal e t n
noncomputable def cOps (l : List LO) : CT R := fun ca _ e t n k => zEF l ca e t n fun e t n => k .normal e t n
noncomputable def zYL (hd tl : List LO) : CT R := fun ca _ e t n k => zDL hd ca e t n fun e => zEF tl ca e t n fun e t n => k .normal e t n
noncomputable def zVv (d : Option Nat) (e1 : Tr AV) (k : Option R) : Tr AV → Option R := fun e2 => match d with
 | some d => cond (eqA 20 (e2.get .any d) (e1.get .any d)) k none
 | none => none
noncomputable def zFz (ca : Ca R) (hd : List LO) (e1 : Tr AV) (t : Tr HO) (n : Nat) (js : List Nat) (k : Option R) : Option R :=
 List.rec (motive := fun _ => Option R) k (fun j _ ih => zDL [hd.getD j default] ca e1 t n (zVv (hd.getD j default).d e1 ih)) js
theorem zF9 (ca : Ca R) (hd : List LO) (e1 : Tr AV) (t : Tr HO) (n : Nat) (k : Option R) : ∀ js,zFz ca hd e1 t n js k = zHP ca hd e1 t n js k
 | [] => rfl
 | j :: js => by
  show zDL [hd.getD j default] ca e1 t n (zVv (hd.getD j default).d e1 (zFz ca hd e1 t n js k)) = _
  rw [zD1,zF9]
  rfl
noncomputable def zUb (ca : Ca R) (hd : List LO) (e1 : Tr AV) (p : LO × List Nat) (ih : Tr AV → Tr HO → Nat → (Tr AV → KT R) → Option R) : Tr AV → Tr HO → Nat → (Tr AV → KT R) → Option R :=
 fun e t n k => zEF [p.1] ca e t n fun e t n => zFz ca hd e1 t n p.2 (ih e t n k)
noncomputable def zQb (ca : Ca R) (hd : List LO) (e1 : Tr AV) (l : List (LO × List Nat)) : Tr AV → Tr HO → Nat → (Tr AV → KT R) → Option R :=
 List.rec (motive := fun _ => Tr AV → Tr HO → Nat → (Tr AV → KT R) → Option R) (fun e t n k => k e t n) (fun p _ ih => zUb ca hd e1 p ih) l
theorem zKW (ca : Ca R) (hd : List LO) (e1 : Tr AV) : ∀ (l : List (LO × List Nat)) (e : Tr AV) (t : Tr HO) (n : Nat) (k : Tr AV → KT R),zQb ca hd e1 l e t n k = zVC ca hd e1 l e t n k
 | [],e,t,n,k => rfl
 | p :: l,e,t,n,k => by
  show zEF [p.1] ca e t n (fun e t n => zFz ca hd e1 t n p.2 (zQb ca hd e1 l e t n k)) = _
  simp only [zDM,zF9,zKW ca hd e1 l]
  rfl
noncomputable def zVZ (hd : List LO) (tl : List (LO × List Nat)) (gs : List LO) : CT R := fun ca _ e t n k => zDL hd ca e t n fun e1 => zQb ca hd e1 tl e1 t n fun e t n => zEF gs ca e t n fun e t n => k .normal e t n
noncomputable def cNo : CT R := fun _ _ _ _ _ _ => none
noncomputable def zW0 (nx : Option R) (k : Ko R) : Ko R := fun o e t n => Out.casesOn (motive := fun _ => Option R) o nx (fun id => k (.exit id) e t n) (k .ret e t n) fun v => k (.pan v) e t n
noncomputable def cSeq (iha ihb : CT R) : CT R := fun ca m e t n k => iha ca m e t n fun o e t n => zW0 (ihb ca m e t n k) k o e t n
noncomputable def zYM (x : LX) (iha ihb : CT R) : CT R := fun ca m e t n k => match evT e x with
 | .v (.bool b) => cond b (iha ca m e t n k) (ihb ca m e t n k)
 | _ => none
noncomputable def zQ9 (id : Nat) (k : Ko R) : Ko R := fun o e t n => Out.casesOn (motive := fun _ => Option R) o (k .normal e t n) (fun j => cond (Nat.beq j id) (k .normal e t n) (k (.exit j) e t n)) (k .ret e t n) fun v => k (.pan v) e t n
noncomputable def zV0 (id : Nat) (ih : CT R) : CT R := fun ca m e t n k => ih ca m e t n (zQ9 id k)
noncomputable def zYt (b ih : Bd R) : Bd R := fun e t n k => b e t n fun o e t n => zW0 (ih e t n k) k o e t n
noncomputable def zSC (b : Bd R) (m : Nat) : Bd R := Nat.rec (motive := fun _ => Bd R) (fun _ _ _ _ => none) (fun _ ih => zYt b ih) m
noncomputable def zYI (ih : CT R) : CT R := fun ca m => zSC (ih ca m) m
noncomputable def zYK (id : Nat) : CT R := fun _ _ e t n k => k (.exit id) e t n
noncomputable def cRet : CT R := fun _ _ e t n k => k .ret e t n
noncomputable def zSR (c : LCode) : CT R :=
 LCode.rec (motive := fun _ => CT R) zYH cOps zYL (fun _ _ _ _ => cNo) zVZ (fun _ _ iha ihb => cSeq iha ihb) (fun x _ _ iha ihb => zYM x iha ihb) (fun id _ ih => zV0 id ih) (fun _ ih => zYI ih)
  (fun _ _ _ _ _ _ => cNo) zYK cRet (fun _ _ _ => cNo) (fun _ _ _ => cNo) (fun _ => cNo) (fun _ _ _ => cNo) c
theorem zKM {b b' : Bd R} (h : ∀ e t n k,b e t n k = b' e t n k) : ∀ (m : Nat) (e : Tr AV) (t : Tr HO) (n : Nat) (k : Ko R),zSC b m e t n k = iter b' m e t n k
 | 0,e,t,n,k => rfl
 | m + 1,e,t,n,k => by
  show b e t n (fun o e t n => zW0 (zSC b m e t n k) k o e t n) = _
  rw [h]
  simp only [iter]
  congr 1
  funext o e t n
  cases o with
  | normal => exact zKM h m e t n k
  | _ => rfl
theorem zSQ (ca : Ca R) (m : Nat) : ∀ (c : LCode) (e : Tr AV) (t : Tr HO) (n : Nat) (k : Ko R),zSR c ca m e t n k = evC ca m c e t n k := by
 intro c
 induction c with
 | skip => intros; rfl
 | ops l => intro e t n k; exact zDM l ca e t n _
 | draw hd tl =>
  intro e t n k
  show zDL hd ca e t n (fun e => zEF tl ca e t n fun e t n => k .normal e t n) = zCf ca hd e t n fun e => zD5 ca tl e t n fun e t n => k .normal e t n
  simp only [zD1,zDM]
 | drawM => intros; rfl
 | drawA hd tl gs =>
  intro e t n k
  show zDL hd ca e t n (fun e1 => zQb ca hd e1 tl e1 t n fun e t n => zEF gs ca e t n fun e t n => k .normal e t n) = zCf ca hd e t n fun e1 => zVC ca hd e1 tl e1 t n fun e t n => zD5 ca gs e t n fun e t n => k .normal e t n
  simp only [zD1,zDM,zKW]
 | seq a b iha ihb =>
  intro e t n k
  show zSR a ca m e t n (fun o e t n => zW0 (zSR b ca m e t n k) k o e t n) = evC ca m a e t n _
  rw [iha]
  congr 1
  funext o e t n
  cases o with
  | normal => exact ihb e t n k
  | _ => rfl
 | cond x a b iha ihb =>
  intro e t n k
  show (match evT e x with | .v (.bool b') => cond b' (zSR a ca m e t n k) (zSR b ca m e t n k) | _ => none) = (match evT e x with | .v (.bool b') => cond b' (evC ca m a e t n k) (evC ca m b e t n k) | _ => none)
  simp only [iha,ihb]
 | block id c ih =>
  intro e t n k
  show zSR c ca m e t n (zQ9 id k) = evC ca m c e t n _
  rw [ih]
  congr 1
  funext o e t n
  cases o <;> rfl
 | loop c ih => intro e t n k; exact zKM ih m e t n k
 | range => intros; rfl
 | exit => intros; rfl
 | ret => intros; rfl
 | callp => intros; rfl
 | ti => intros; rfl
 | drawX => intros; rfl
 | pan => intros; rfl
noncomputable def zW1 (e : Tr AV) (t : Tr HO) (n : Nat) (rs : List RV) (k : Kv R) : Option R := match zQd e t n rs with
 | some x => k x t n
 | none => none
noncomputable def kRet (rs : List RV) (k : Kv R) : Ko R := fun o e t n => Out.casesOn (motive := fun _ => Option R) o (zW1 e t n rs k) (fun _ => none) (zW1 e t n rs k) fun _ => none
noncomputable def fGo (m : Nat) (ih : Ca R) (L : LFn) : List AV → Tr HO → Nat → Kv R → Option R := fun args t n k => cond (Nat.ble args.length L.n && Nat.ble args.length 1000) (zSR L.body ih m (zVH args 0) t n (kRet L.res k)) none
noncomputable def fS (tbl : Tr (Option LFn)) (m : Nat) (ih : Ca R) : Ca R := fun f args t n k => Option.casesOn (motive := fun _ => Option R) (tbl.get none f) none fun L => fGo m ih L args t n k
end
structure zGq where
 f : FuncId
 args : List AV
 x : AV
def zBP (P : Program) (q : zGq) : Prop := ∀ H,ACall P q.f q.args H fun y H' => y = q.x ∧ H' = H
section
variable {P : Program} {R : Type}
noncomputable def zN9 (l : List zGq) (f : FuncId) (args : List AV) (t : Tr HO) (n : Nat) (k : Kv R) (nx : Option R) : Option R :=
 List.rec (motive := fun _ => Option R) nx (fun q _ ih => cond (Nat.beq q.f f) (cond (zGa (eqA 60) args q.args) (k q.x t n) ih) ih) l
theorem zQa {l : List zGq} (hl : ∀ q ∈ l,zBP P q) {f : FuncId} {args : List AV} {t : Tr HO} {n : Nat} {k : Kv R} {nx : Option R} {r : R} (h : zN9 l f args t n k nx = some r) :
  nx = some r ∨ ∃ x,k x t n = some r ∧ ∀ H,ACall P f args H fun y H' => y = x ∧ H' = H := by
 induction l with
 | nil => exact .inl h
 | cons q l ih =>
  have ih := ih fun q' hq => hl q' (zZN _ hq)
  change cond (Nat.beq q.f f) (cond (zGa (eqA 60) args q.args) (k q.x t n) (zN9 l f args t n k nx)) (zN9 l f args t n k nx) = some r at h
  cases hb : Nat.beq q.f f with
  | false => rw [hb] at h; exact ih h
  | true =>
   rw [hb,zZI] at h
   cases he : zGa (eqA 60) args q.args with
   | false => rw [he] at h; exact ih h
   | true =>
    rw [he,zZI] at h
    have hf := zZU hb
    have ha := zDm (zOh 60) he
    subst ha
    subst hf
    exact .inr ⟨q.x,h,hl q (by simp)⟩
theorem zVA {tbl : Tr (Option LFn)} (ht : zMf P tbl) (m : Nat) {ca : Ca R} (hc : zOR P ca) : zOR P (fS tbl m ca) := by
 intro z f args t n k r H h hr
 unfold fS at h
 cases hL : tbl.get none f with
 | none => rw [hL] at h; cases h
 | some L =>
  rw [hL] at h
  change fGo m ca L args t n k = some r at h
  unfold fGo at h
  cases hb : (Nat.ble args.length L.n && Nat.ble args.length 1000) <;> rw [hb] at h
  ·cases h
  ·simp only [zYX,zzae] at hb
   rw [zZI,zSQ] at h
   obtain ⟨fn,hs,hf,hl⟩ := ht f L hL
   obtain ⟨o,e',t',n',H',r1,h1,f1⟩ := zVF hc m L.body _ _ _ _ _ _ _ h hr
   have fin : ∀ x,zQd e' t' n' L.res = some x → k x t' n' = some r → (o = .normal ∨ o = .ret) → ∃ x t' n' H',RH z t' n' H' ∧ k x t' n' = some r ∧ ∀ K : AV → zA → Prop,K x H' → ACall P f args H K := by
    intro x hx hk ho
    obtain ⟨g1,g2⟩ := zQc hx r1
    refine ⟨x,t',n',H',r1,hk,fun K hK => enter hf hl hb.1 ?_⟩
    have := f1 (zUD L.res K) (by rcases ho with rfl | rfl <;> exact ⟨g1,by rw [g2]; exact hK⟩)
    rw [zOi args 0 (by omega)] at this
    exact this
   have go : zW1 e' t' n' L.res k = some r → (o = .normal ∨ o = .ret) → ∃ x t' n' H',RH z t' n' H' ∧ k x t' n' = some r ∧ ∀ K : AV → zA → Prop,K x H' → ACall P f args H K := by
    intro h1 ho
    unfold zW1 at h1
    split at h1
    ·rename_i x hx; exact fin x hx h1 ho
    ·cases h1
   cases o with
   | exit id => cases h1
   | pan v => cases h1
   | normal => exact go h1 (.inl rfl)
   | ret => exact go h1 (.inr rfl)
noncomputable def zSP (l : List zGq) (tbl : Tr (Option LFn)) (m d : Nat) : Ca R := Nat.rec (motive := fun _ => Ca R) (fun _ _ _ _ _ => none) (fun _ ih f args t n k => zN9 l f args t n k (fS tbl m ih f args t n k)) d
theorem zKY {l : List zGq} (hl : ∀ q ∈ l,zBP P q) {tbl : Tr (Option LFn)} (ht : zMf P tbl) (m : Nat) : ∀ d,zOR (R := R) P (zSP l tbl m d)
 | 0 => fun z f args t n k r H h hr => by cases h
 | d + 1 => fun z f args t n k r H h hr => by
  change zN9 l f args t n k (fS tbl m (zSP l tbl m d) f args t n k) = some r at h
  rcases zQa hl h with h | ⟨x,h1,h2⟩
  ·exact zVA ht m (zKY hl ht m d) z f args t n k r H h hr
  ·exact ⟨x,t,n,H,hr,h1,fun K hK => (h2 H).mono fun y H' ⟨g1,g2⟩ => by rw [g1,g2]; exact hK⟩
end
noncomputable def zVB (l : List zGq) (tbl : Tr (Option LFn)) (m d : Nat) (f : FuncId) (args : List AV) : Option AV := fS (R := AV) tbl m (zSP l tbl m d) f args .leaf 0 fun x _ _ => some x
theorem zA1 {P : Program} {l : List zGq} (hl : ∀ q ∈ l,zBP P q) {tbl : Tr (Option LFn)} (ht : zMf P tbl) {m d : Nat} {f : FuncId} {args : List AV} {x : AV} (h : zVB l tbl m d f args = some x) (hx : x.cl = true) (hc : clL args = true) : zBP P ⟨f,args,x⟩ := by
 intro H
 obtain ⟨y,t',n',H',r1,h1,f1⟩ := zVA ht m (zKY hl ht m d) _ f args .leaf 0 _ _ [] h zQJ
 simp only [zYT] at h1
 subst h1
 exact APure.frame (ACall.drop (R := fun z => z = y) (f1 _ ⟨rfl,hx,H',rfl⟩)) hc H
def TrOk (P : Program) : (Nat → Nat) → Tr (Option LFn) → Prop
 | _,.leaf => True
 | φ,.node v l r => (∀ x,v = some x → zXi P (φ 0) x) ∧ TrOk P (fun j => φ (2 * j + 1)) l ∧ TrOk P (fun j => φ (2 * j + 2)) r
theorem TrOk.get {P : Program} : ∀ {t : Tr (Option LFn)} {φ : Nat → Nat} {i : Nat} {x : LFn},TrOk P φ t → t.get none i = some x → zXi P (φ i) x
 | .leaf,φ,i,x,_,h => by rw [Tr.get_leaf] at h; cases h
 | .node v l r,φ,i,x,⟨h1,h2,h3⟩,h => by
  cases i with
  | zero =>
   rw [Tr.get_z] at h
   exact h1 x h
  | succ n =>
   rw [Tr.get_s] at h
   split at h
   ·have := TrOk.get h2 h
    rwa [show 2 * (n / 2) + 1 = n + 1 by omega] at this
   ·have := TrOk.get h3 h
    rwa [show 2 * (n / 2) + 2 = n + 1 by omega] at this
theorem zIj {P : Program} {tbl : Tr (Option LFn)} (h : TrOk P id tbl) : zMf P tbl := fun f L hL => by
 obtain ⟨k,rfl,h⟩ := h.get hL
 exact h
theorem noFn {P : Program} {f : Nat} : ∀ x,(none : Option LFn) = some x → zXi P f x := fun _ h => by cases h
theorem fnOk {P : Program} {f : Nat} {fn : Func} {hs : List Hn} (hf : P.funcs[f]? = some fn) : ∀ x,zAv P fn hs = some x → zXi P f x := fun _ h => ⟨f,rfl,fn,hs,hf,h⟩
end Go.Ax
namespace Go.Proofs.YtbibhcmcjldhdaaGreatDoor
open Go Go.Ax
set_option maxRecDepth 100000
set_option linter.unusedSimpArgs false
set_option maxHeartbeats 4000000
abbrev tL : Tr (Option LFn) := .leaf
abbrev tN (l r : Tr (Option LFn)) : Tr (Option LFn) := .node none l r
noncomputable abbrev tE (fn : Func) (hs : List Hn) (l r : Tr (Option LFn)) : Tr (Option LFn) := .node (zAv Tryz.prog fn hs) l r
theorem hL {φ : Nat → Nat} : TrOk Tryz.prog φ tL := trivial
theorem hN {φ : Nat → Nat} {l r : Tr (Option LFn)} (a : TrOk Tryz.prog (fun j => φ (2 * j + 1)) l) (b : TrOk Tryz.prog (fun j => φ (2 * j + 2)) r) : TrOk Tryz.prog φ (tN l r) := ⟨noFn,a,b⟩
theorem hE {φ : Nat → Nat} {fn : Func} {hs : List Hn} {l r : Tr (Option LFn)} (h : Tryz.prog.funcs[φ 0]? = some fn) (a : TrOk Tryz.prog (fun j => φ (2 * j + 1)) l) (b : TrOk Tryz.prog (fun j => φ (2 * j + 2)) r) : TrOk Tryz.prog φ (tE fn hs l r) := ⟨fnOk h,a,b⟩
noncomputable def zV1 : Tr (Option LFn) := (tN (tN (tN (tN (tN (tN (tE Tryz.f63 [] (tE Tryz.f127 [] (tE Tryz.f255 [] tL tL) tL) (tE Tryz.f191 [] tL tL)) (tE Tryz.f95 [⟨29,2,.imm⟩,⟨33,2,.imm⟩,⟨39,5,(.pre 4 (.frz (.t 4)))⟩,⟨39,5,(.pre 5 (.frz (.t 5)))⟩] tL (tE Tryz.f223 [⟨6,4,.imm⟩,⟨9,4,.imm⟩] tL tL))) (tE Tryz.f47 [] (tE Tryz.f79 [] (tE Tryz.f143 [] (tE Tryz.f271 [] tL tL) tL) (tE Tryz.f207 [] tL tL)) (tN (tE Tryz.f175 [] tL tL) (tE Tryz.f239 [] tL tL)))) (tN (tE Tryz.f39 [] (tE Tryz.f71 [] (tE Tryz.f135 [] (tE Tryz.f263 [] tL tL) tL) (tE Tryz.f199 [⟨2,12,(.chn 8 9)⟩,⟨2,0,(.drw [7,8,9])⟩,⟨2,6,.imm⟩] tL tL)) (tE Tryz.f103 [⟨2,7,.imm⟩,⟨2,13,.imm⟩,⟨6,17,.imm⟩,⟨2,0,(.drw [8,14,17,20])⟩,⟨6,0,(.drw [18,20])⟩] (tE Tryz.f167 [] tL tL) (tE Tryz.f231 [⟨1,13,.imm⟩,⟨1,14,.tail⟩] tL tL))) (tN (tE Tryz.f87 [⟨2,20,.tail⟩] (tE Tryz.f151 [] (tE Tryz.f279 [⟨3,2,(.pre 2 (.frz (.t 2)))⟩,⟨5,2,(.pre 2 (.frz (.t 2)))⟩,⟨7,2,(.pre 2 (.frz (.t 2)))⟩,⟨9,2,(.pre 2 (.frz (.t 2)))⟩,⟨11,2,(.pre 2 (.frz (.t 2)))⟩] tL tL) tL) tL) (tN (tE Tryz.f183 [⟨7,0,.imm⟩] tL tL) (tE Tryz.f247 [] tL tL))))) (tN (tE Tryz.f19 [⟨3,6,(.pre 3 (.frz (.t 3)))⟩,⟨4,8,(.pre 3 (.frz (.t 3)))⟩] (tN (tE Tryz.f67 [] (tE Tryz.f131 [] (tE Tryz.f259 [] tL tL) tL) (tE Tryz.f195 [⟨1,14,(.var 16)⟩,⟨1,0,(.drw [15,17])⟩,⟨12,0,(.drw [21])⟩,⟨21,0,(.drw [4])⟩,⟨25,0,(.drw [4,5])⟩,⟨34,0,(.drw [4])⟩,⟨39,0,(.drw [4])⟩,⟨46,0,(.drw [4,5])⟩,⟨48,0,(.drw [3,5])⟩,⟨44,0,(.drw [2,5,6])⟩] tL tL)) (tE Tryz.f99 [⟨9,5,.imm⟩,⟨11,2,(.pre 2 (.frz (.t 2)))⟩] tL (tE Tryz.f227 [] tL tL))) (tN (tE Tryz.f83 [] (tE Tryz.f147 [] (tE Tryz.f275 [] tL tL) tL) tL) (tN (tE Tryz.f179 [] tL tL) (tE Tryz.f243 [⟨10,2,(.pre 4 (.frz (.t 4)))⟩,⟨9,7,.tail⟩] tL tL)))) (tN (tE Tryz.f43 [] (tN (tE Tryz.f139 [⟨14,2,.imm⟩,⟨15,2,(.pre 6 (.frz (.t 6)))⟩] (tE Tryz.f267 [⟨1,4,.imm⟩] tL tL) tL) (tE Tryz.f203 [⟨0,0,(.drw [4])⟩] tL tL)) (tE Tryz.f107 [] (tE Tryz.f171 [⟨47,2,(.pre 8 (.frz (.t 8)))⟩,⟨51,2,(.pre 8 (.frz (.t 8)))⟩,⟨52,2,(.pre 8 (.frz (.t 8)))⟩] tL tL) (tE Tryz.f235 [] tL tL))) (tN (tE Tryz.f91 [⟨4,11,(.pre 3 (.frz (.t 3)))⟩,⟨4,0,(.drw [8])⟩] (tE Tryz.f155 [⟨9,2,(.pre 4 (.frz (.t 4)))⟩,⟨1,1,(.pre 5 (.own 3 (.t 5)))⟩,⟨7,9,.tail⟩] tL tL) (tE Tryz.f219 [⟨10,5,.imm⟩] tL tL)) (tE Tryz.f123 [] (tE Tryz.f187 [⟨7,3,.imm⟩,⟨8,2,(.pre 4 (.frz (.t 4)))⟩] tL tL) (tE Tryz.f251 [] tL tL)))))) (tN (tN (tN (tN (tN (tE Tryz.f129 [] (tE Tryz.f257 [] tL tL) tL) (tE Tryz.f193 [⟨1,7,.tail⟩] tL tL)) (tE Tryz.f97 [] tL (tE Tryz.f225 [⟨24,0,.imm⟩] tL tL))) (tE Tryz.f49 [] (tE Tryz.f81 [⟨7,6,.imm⟩,⟨7,7,.tail⟩] (tE Tryz.f145 [] (tE Tryz.f273 [] tL tL) tL) tL) (tE Tryz.f113 [] (tE Tryz.f177 [⟨2,12,.imm⟩,⟨2,13,.tail⟩] tL tL) (tE Tryz.f241 [] tL tL)))) (tN (tN (tN (tE Tryz.f137 [⟨20,2,(.pre 6 (.frz (.t 6)))⟩] (tE Tryz.f265 [] tL tL) tL) (tE Tryz.f201 [⟨0,0,(.drw [4])⟩] tL tL)) (tE Tryz.f105 [⟨1,2,.imm⟩] (tE Tryz.f169 [] tL tL) (tE Tryz.f233 [] tL tL))) (tE Tryz.f57 [] (tE Tryz.f89 [⟨4,2,.imm⟩,⟨4,3,.imm⟩,⟨4,6,.imm⟩,⟨5,2,.imm⟩,⟨5,3,.imm⟩,⟨5,6,.imm⟩,⟨4,0,(.perm [0,1,2,3,4,6,7,5,8,9])⟩,⟨4,4,.imm⟩,⟨5,0,(.perm [0,1,2,3,4,6,7,5,8,9])⟩,⟨5,4,.imm⟩,⟨6,2,(.pre 4 (.frz (.t 4)))⟩,⟨4,7,.tail⟩,⟨5,7,.tail⟩] (tE Tryz.f153 [] (tE Tryz.f281 [] tL tL) tL) (tE Tryz.f217 [] tL tL)) (tE Tryz.f121 [⟨1,21,(.pre 0 (.frz (.t 0)))⟩] (tE Tryz.f185 [] tL tL) (tE Tryz.f249 [⟨0,0,(.drw [4])⟩] tL tL))))) (tN (tN (tN (tE Tryz.f69 [] (tE Tryz.f133 [⟨7,0,.imm⟩,⟨12,16,.tail⟩] tL tL) (tE Tryz.f197 [⟨1,15,.tail⟩,⟨2,0,(.drw [9,11])⟩] tL tL)) (tE Tryz.f101 [⟨1,11,.imm⟩,⟨1,12,.tail⟩] (tE Tryz.f165 [⟨6,5,.imm⟩] tL tL) (tE Tryz.f229 [] tL tL))) (tE Tryz.f53 [⟨37,1,(.pre 210 (.frzf 3 5 (.t 210)))⟩,⟨37,1,(.pre 210 (.frzf 1 6 (.t 210)))⟩,⟨37,1,(.pre 210 (.frzf 9 8 (.t 210)))⟩,⟨6,3,.imm⟩,⟨6,0,(.drw [7,8])⟩,⟨5,10,(.pre 3 (.frz (.t 3)))⟩,⟨12,8,.imm⟩,⟨18,21,.imm⟩,⟨24,7,(.pre 3 (.frz (.t 3)))⟩,⟨36,6,(.pre 3 (.frz (.t 3)))⟩,⟨12,9,.tail⟩,⟨18,22,.tail⟩,⟨36,0,(.drw [3])⟩] (tE Tryz.f85 [⟨7,6,.imm⟩] (tE Tryz.f149 [] (tE Tryz.f277 [⟨6,11,.tail⟩] tL tL) tL) (tE Tryz.f213 [] tL tL)) (tE Tryz.f117 [] (tE Tryz.f181 [] tL tL) (tE Tryz.f245 [] tL tL)))) (tN (tN (tE Tryz.f77 [] (tE Tryz.f141 [⟨11,2,.imm⟩,⟨12,2,(.pre 4 (.frz (.t 4)))⟩] (tE Tryz.f269 [] tL tL) tL) (tE Tryz.f205 [⟨0,17,(.chn 13 14)⟩,⟨0,0,(.drw [12,13,14])⟩,⟨0,11,.imm⟩] tL tL)) (tE Tryz.f109 [⟨5,3,.imm⟩,⟨9,2,(.pre 2 (.frz (.t 2)))⟩,⟨1,1,(.pre 3 (.own 1 (.t 3)))⟩] (tE Tryz.f173 [] tL tL) (tE Tryz.f237 [] tL tL))) (tN (tE Tryz.f93 [⟨6,2,(.pre 2 (.frz (.t 2)))⟩] tL (tE Tryz.f221 [] tL tL)) (tE Tryz.f125 [] (tE Tryz.f189 [] tL tL) (tE Tryz.f253 [] tL tL))))))) (tN (tN (tN (tE Tryz.f16 [] (tN (tN (tE Tryz.f128 [⟨5,3,.imm⟩,⟨7,3,.imm⟩] (tE Tryz.f256 [⟨0,0,(.drw [4])⟩] tL tL) tL) (tE Tryz.f192 [] tL tL)) (tE Tryz.f96 [⟨2,10,.tail⟩] tL (tE Tryz.f224 [] tL tL))) (tE Tryz.f48 [⟨1,0,.imm⟩] (tE Tryz.f80 [] (tE Tryz.f144 [⟨10,5,.imm⟩] (tE Tryz.f272 [⟨1,15,.imm⟩,⟨1,16,.tail⟩,⟨3,11,.tail⟩] tL tL) tL) tL) (tN (tE Tryz.f176 [⟨1,12,.imm⟩,⟨1,13,.tail⟩] tL tL) (tE Tryz.f240 [⟨1,5,(.pre 4 (.frz (.t 4)))⟩] tL tL)))) (tN (tN (tE Tryz.f72 [] (tE Tryz.f136 [] (tE Tryz.f264 [⟨15,3,.imm⟩,⟨22,3,.imm⟩] tL tL) tL) (tE Tryz.f200 [⟨0,0,(.drw [4])⟩] tL tL)) (tE Tryz.f104 [⟨9,2,.imm⟩,⟨12,2,(.pre 2 (.frz (.t 2)))⟩,⟨13,2,(.pre 2 (.frz (.t 2)))⟩] (tE Tryz.f168 [⟨8,5,.imm⟩,⟨14,4,.imm⟩,⟨22,6,.imm⟩,⟨28,3,.imm⟩,⟨32,3,.imm⟩,⟨43,4,.imm⟩] tL tL) (tE Tryz.f232 [⟨3,12,.tail⟩] tL tL))) (tE Tryz.f56 [] (tE Tryz.f88 [⟨6,1,(.pre 56 (.frzf 5 4 (.t 56)))⟩,⟨1,12,.tail⟩] (tE Tryz.f152 [] (tE Tryz.f280 [] tL tL) tL) (tE Tryz.f216 [] tL tL)) (tN (tE Tryz.f184 [] tL tL) (tE Tryz.f248 [⟨2,19,.tail⟩] tL tL))))) (tN (tE Tryz.f20 [] (tN (tE Tryz.f68 [] (tE Tryz.f132 [] tL tL) (tE Tryz.f196 [] tL tL)) (tE Tryz.f100 [⟨18,0,(.drw [9,10,11,13])⟩,⟨8,3,.imm⟩,⟨8,7,.imm⟩,⟨14,2,.imm⟩,⟨18,10,.imm⟩,⟨1,4,.tail⟩,⟨8,0,(.drw [4,8,10,12])⟩] (tE Tryz.f164 [] tL tL) (tE Tryz.f228 [] tL tL))) (tE Tryz.f52 [⟨15,11,(.pre 64 (.frzf 5 4 (.t 64)))⟩,⟨12,3,.imm⟩,⟨14,3,.imm⟩,⟨10,4,.imm⟩,⟨15,14,(.pre 3 (.frz (.t 3)))⟩,⟨15,11,.tail⟩] (tE Tryz.f84 [⟨7,3,.imm⟩] (tE Tryz.f148 [⟨21,3,.imm⟩,⟨2,8,.tail⟩] (tE Tryz.f276 [] tL tL) tL) tL) (tE Tryz.f116 [] (tE Tryz.f180 [] tL tL) (tE Tryz.f244 [] tL tL)))) (tN (tE Tryz.f44 [] (tE Tryz.f76 [] (tE Tryz.f140 [] (tE Tryz.f268 [] tL tL) tL) (tE Tryz.f204 [⟨2,6,.tail⟩,⟨5,0,(.drw [4])⟩,⟨7,0,(.drw [4])⟩] tL tL)) (tE Tryz.f108 [⟨7,2,.imm⟩,⟨9,2,(.pre 2 (.frz (.t 2)))⟩,⟨1,1,(.pre 3 (.own 5 (.t 3)))⟩,⟨6,7,.tail⟩] (tE Tryz.f172 [] tL tL) (tE Tryz.f236 [] tL tL))) (tN (tE Tryz.f92 [] (tE Tryz.f156 [⟨1,14,(.var 16)⟩,⟨1,0,(.drw [15,17])⟩,⟨26,1,(.pre 8 (.own 1 (.t 8)))⟩,⟨4,0,(.drw [4])⟩,⟨7,0,(.drw [8])⟩,⟨9,0,(.drw [4])⟩,⟨17,0,(.drw [4])⟩,⟨20,0,(.drw [4])⟩,⟨24,0,(.drw [9])⟩] tL tL) (tE Tryz.f220 [] tL tL)) (tE Tryz.f124 [] (tE Tryz.f188 [] tL tL) (tE Tryz.f252 [⟨1,14,(.pre 0 (.frz (.t 0)))⟩] tL tL)))))) (tN (tN (tN (tN (tN (tE Tryz.f130 [⟨6,3,.imm⟩] (tE Tryz.f258 [] tL tL) tL) (tE Tryz.f194 [⟨3,15,(.pre 0 (.frz (.t 0)))⟩] tL tL)) (tE Tryz.f98 [⟨30,9,.imm⟩,⟨30,10,.imm⟩] tL (tE Tryz.f226 [] tL tL))) (tN (tE Tryz.f82 [] (tE Tryz.f146 [] (tE Tryz.f274 [⟨13,2,.imm⟩,⟨20,2,.imm⟩,⟨21,2,.imm⟩,⟨8,5,.imm⟩,⟨22,2,(.pre 4 (.frz (.t 4)))⟩] tL tL) tL) tL) (tE Tryz.f114 [] (tE Tryz.f178 [] tL tL) (tE Tryz.f242 [⟨1,1,.imm⟩,⟨1,6,(.pre 4 (.frz (.t 4)))⟩] tL tL)))) (tN (tN (tN (tE Tryz.f138 [] (tE Tryz.f266 [] tL tL) tL) (tE Tryz.f202 [⟨0,0,(.drw [4])⟩] tL tL)) (tE Tryz.f106 [⟨5,4,.imm⟩,⟨7,2,(.pre 4 (.frz (.t 4)))⟩,⟨1,1,(.pre 5 (.own 1 (.t 5)))⟩] (tE Tryz.f170 [⟨16,2,.imm⟩,⟨17,2,(.pre 2 (.frz (.t 2)))⟩] tL tL) (tE Tryz.f234 [⟨1,4,.imm⟩,⟨3,2,(.pre 10 (.frz (.t 10)))⟩,⟨5,4,.imm⟩,⟨5,7,(.pre 10 (.frz (.t 10)))⟩] tL tL))) (tE Tryz.f58 [] (tE Tryz.f90 [⟨15,13,.imm⟩,⟨16,2,(.pre 2 (.frz (.t 2)))⟩,⟨15,14,.tail⟩] (tE Tryz.f154 [] tL tL) (tE Tryz.f218 [⟨6,3,.imm⟩,⟨11,3,.imm⟩,⟨17,5,.imm⟩] tL tL)) (tE Tryz.f122 [⟨7,5,.imm⟩,⟨7,9,(.pre 2 (.frz (.t 2)))⟩,⟨9,6,.imm⟩] (tE Tryz.f186 [] tL tL) (tE Tryz.f250 [] tL tL))))) (tN (tN (tE Tryz.f38 [⟨1,2,(.pre 0 (.frz (.t 0)))⟩] (tE Tryz.f70 [] (tE Tryz.f134 [⟨14,2,(.pre 68 (.frzf 4 1 (.t 68)))⟩,⟨13,11,.imm⟩,⟨14,2,.imm⟩,⟨15,2,(.pre 2 (.frz (.t 2)))⟩,⟨13,12,.tail⟩] (tE Tryz.f262 [] tL tL) tL) (tE Tryz.f198 [] tL tL)) (tE Tryz.f102 [] (tE Tryz.f166 [] tL tL) (tE Tryz.f230 [] tL tL))) (tE Tryz.f54 [⟨35,0,(.pre 9 (.frzf 6 0 (.t 9)))⟩,⟨33,3,.imm⟩,⟨33,11,.imm⟩,⟨37,5,(.pre 3 (.frz (.t 3)))⟩,⟨10,1,(.pre 10 (.own 1 (.t 10)))⟩,⟨7,11,.tail⟩,⟨24,0,(.drw [5,6,8])⟩,⟨26,8,.tail⟩,⟨31,0,(.drw [11])⟩,⟨33,0,(.drw [4,10,11,12,14,15])⟩] (tE Tryz.f86 [⟨3,12,.imm⟩,⟨0,10,.tail⟩,⟨3,13,.tail⟩] (tE Tryz.f150 [⟨18,11,.imm⟩,⟨16,19,.imm⟩,⟨25,3,.imm⟩,⟨2,10,.tail⟩,⟨16,20,.tail⟩,⟨18,16,.tail⟩] (tE Tryz.f278 [] tL tL) tL) tL) (tE Tryz.f118 [] (tE Tryz.f182 [] tL tL) (tE Tryz.f246 [⟨6,4,.imm⟩,⟨8,2,(.pre 4 (.frz (.t 4)))⟩,⟨1,1,(.pre 5 (.own 3 (.t 5)))⟩] tL tL)))) (tN (tN (tE Tryz.f78 [⟨1,6,.imm⟩,⟨3,0,.imm⟩] (tE Tryz.f142 [⟨7,2,(.pre 6 (.frz (.t 6)))⟩] (tE Tryz.f270 [] tL tL) tL) (tE Tryz.f206 [] tL tL)) (tN (tE Tryz.f174 [⟨0,15,.tail⟩] tL tL) (tE Tryz.f238 [⟨1,2,.imm⟩] tL tL))) (tE Tryz.f62 [] (tE Tryz.f94 [⟨12,4,(.pre 2 (.frz (.t 2)))⟩,⟨4,6,.tail⟩] tL (tE Tryz.f222 [⟨4,3,.imm⟩,⟨6,3,.imm⟩,⟨8,2,(.pre 2 (.frz (.t 2)))⟩] tL tL)) (tE Tryz.f126 [⟨8,4,.imm⟩,⟨11,4,.imm⟩] (tE Tryz.f190 [⟨10,2,.imm⟩,⟨11,4,(.pre 4 (.frz (.t 4)))⟩,⟨10,0,(.drw [3,10])⟩] tL tL) (tE Tryz.f254 [⟨6,2,(.pre 4 (.frz (.t 4)))⟩] tL tL))))))))
theorem zBO : zMf Tryz.prog zV1 := zIj (hN (hN (hN (hN (hN (hN (hE Tryz.func63 (hE Tryz.func127 (hE Tryz.func255 hL hL) hL) (hE Tryz.func191 hL hL)) (hE Tryz.func95 hL (hE Tryz.func223 hL hL))) (hE Tryz.func47 (hE Tryz.func79 (hE Tryz.func143 (hE Tryz.func271 hL hL) hL) (hE Tryz.func207 hL hL)) (hN (hE Tryz.func175 hL hL) (hE Tryz.func239 hL hL)))) (hN (hE Tryz.func39 (hE Tryz.func71 (hE Tryz.func135 (hE Tryz.func263 hL hL) hL) (hE Tryz.func199 hL hL)) (hE Tryz.func103 (hE Tryz.func167 hL hL) (hE Tryz.func231 hL hL))) (hN (hE Tryz.func87 (hE Tryz.func151 (hE Tryz.func279 hL hL) hL) hL) (hN (hE Tryz.func183 hL hL) (hE Tryz.func247 hL hL))))) (hN (hE Tryz.func19 (hN (hE Tryz.func67 (hE Tryz.func131 (hE Tryz.func259 hL hL) hL) (hE Tryz.func195 hL hL)) (hE Tryz.func99 hL (hE Tryz.func227 hL hL))) (hN (hE Tryz.func83 (hE Tryz.func147 (hE Tryz.func275 hL hL) hL) hL) (hN (hE Tryz.func179 hL hL) (hE Tryz.func243 hL hL)))) (hN (hE Tryz.func43 (hN (hE Tryz.func139 (hE Tryz.func267 hL hL) hL) (hE Tryz.func203 hL hL)) (hE Tryz.func107 (hE Tryz.func171 hL hL) (hE Tryz.func235 hL hL))) (hN (hE Tryz.func91 (hE Tryz.func155 hL hL) (hE Tryz.func219 hL hL)) (hE Tryz.func123 (hE Tryz.func187 hL hL) (hE Tryz.func251 hL hL)))))) (hN (hN (hN (hN (hN (hE Tryz.func129 (hE Tryz.func257 hL hL) hL) (hE Tryz.func193 hL hL)) (hE Tryz.func97 hL (hE Tryz.func225 hL hL))) (hE Tryz.func49 (hE Tryz.func81 (hE Tryz.func145 (hE Tryz.func273 hL hL) hL) hL) (hE Tryz.func113 (hE Tryz.func177 hL hL) (hE Tryz.func241 hL hL)))) (hN (hN (hN (hE Tryz.func137 (hE Tryz.func265 hL hL) hL) (hE Tryz.func201 hL hL)) (hE Tryz.func105 (hE Tryz.func169 hL hL) (hE Tryz.func233 hL hL))) (hE Tryz.func57 (hE Tryz.func89 (hE Tryz.func153 (hE Tryz.func281 hL hL) hL) (hE Tryz.func217 hL hL)) (hE Tryz.func121 (hE Tryz.func185 hL hL) (hE Tryz.func249 hL hL))))) (hN (hN (hN (hE Tryz.func69 (hE Tryz.func133 hL hL) (hE Tryz.func197 hL hL)) (hE Tryz.func101 (hE Tryz.func165 hL hL) (hE Tryz.func229 hL hL))) (hE Tryz.func53 (hE Tryz.func85 (hE Tryz.func149 (hE Tryz.func277 hL hL) hL) (hE Tryz.func213 hL hL)) (hE Tryz.func117 (hE Tryz.func181 hL hL) (hE Tryz.func245 hL hL)))) (hN (hN (hE Tryz.func77 (hE Tryz.func141 (hE Tryz.func269 hL hL) hL) (hE Tryz.func205 hL hL)) (hE Tryz.func109 (hE Tryz.func173 hL hL) (hE Tryz.func237 hL hL))) (hN (hE Tryz.func93 hL (hE Tryz.func221 hL hL)) (hE Tryz.func125 (hE Tryz.func189 hL hL) (hE Tryz.func253 hL hL))))))) (hN (hN (hN (hE Tryz.func16 (hN (hN (hE Tryz.func128 (hE Tryz.func256 hL hL) hL) (hE Tryz.func192 hL hL)) (hE Tryz.func96 hL (hE Tryz.func224 hL hL))) (hE Tryz.func48 (hE Tryz.func80 (hE Tryz.func144 (hE Tryz.func272 hL hL) hL) hL) (hN (hE Tryz.func176 hL hL) (hE Tryz.func240 hL hL)))) (hN (hN (hE Tryz.func72 (hE Tryz.func136 (hE Tryz.func264 hL hL) hL) (hE Tryz.func200 hL hL)) (hE Tryz.func104 (hE Tryz.func168 hL hL) (hE Tryz.func232 hL hL))) (hE Tryz.func56 (hE Tryz.func88 (hE Tryz.func152 (hE Tryz.func280 hL hL) hL) (hE Tryz.func216 hL hL)) (hN (hE Tryz.func184 hL hL) (hE Tryz.func248 hL hL))))) (hN (hE Tryz.func20 (hN (hE Tryz.func68 (hE Tryz.func132 hL hL) (hE Tryz.func196 hL hL)) (hE Tryz.func100 (hE Tryz.func164 hL hL) (hE Tryz.func228 hL hL))) (hE Tryz.func52 (hE Tryz.func84 (hE Tryz.func148 (hE Tryz.func276 hL hL) hL) hL) (hE Tryz.func116 (hE Tryz.func180 hL hL) (hE Tryz.func244 hL hL)))) (hN (hE Tryz.func44 (hE Tryz.func76 (hE Tryz.func140 (hE Tryz.func268 hL hL) hL) (hE Tryz.func204 hL hL)) (hE Tryz.func108 (hE Tryz.func172 hL hL) (hE Tryz.func236 hL hL))) (hN (hE Tryz.func92 (hE Tryz.func156 hL hL) (hE Tryz.func220 hL hL)) (hE Tryz.func124 (hE Tryz.func188 hL hL) (hE Tryz.func252 hL hL)))))) (hN (hN (hN (hN (hN (hE Tryz.func130 (hE Tryz.func258 hL hL) hL) (hE Tryz.func194 hL hL)) (hE Tryz.func98 hL (hE Tryz.func226 hL hL))) (hN (hE Tryz.func82 (hE Tryz.func146 (hE Tryz.func274 hL hL) hL) hL) (hE Tryz.func114 (hE Tryz.func178 hL hL) (hE Tryz.func242 hL hL)))) (hN (hN (hN (hE Tryz.func138 (hE Tryz.func266 hL hL) hL) (hE Tryz.func202 hL hL)) (hE Tryz.func106 (hE Tryz.func170 hL hL) (hE Tryz.func234 hL hL))) (hE Tryz.func58 (hE Tryz.func90 (hE Tryz.func154 hL hL) (hE Tryz.func218 hL hL)) (hE Tryz.func122 (hE Tryz.func186 hL hL) (hE Tryz.func250 hL hL))))) (hN (hN (hE Tryz.func38 (hE Tryz.func70 (hE Tryz.func134 (hE Tryz.func262 hL hL) hL) (hE Tryz.func198 hL hL)) (hE Tryz.func102 (hE Tryz.func166 hL hL) (hE Tryz.func230 hL hL))) (hE Tryz.func54 (hE Tryz.func86 (hE Tryz.func150 (hE Tryz.func278 hL hL) hL) hL) (hE Tryz.func118 (hE Tryz.func182 hL hL) (hE Tryz.func246 hL hL)))) (hN (hN (hE Tryz.func78 (hE Tryz.func142 (hE Tryz.func270 hL hL) hL) (hE Tryz.func206 hL hL)) (hN (hE Tryz.func174 hL hL) (hE Tryz.func238 hL hL))) (hE Tryz.func62 (hE Tryz.func94 hL (hE Tryz.func222 hL hL)) (hE Tryz.func126 (hE Tryz.func190 hL hL) (hE Tryz.func254 hL hL))))))))
def zI3 : zGq := ⟨122,[str [112,114,111,99,32,102,40,120,58,32,105,110,116,41,58,32,98,111,111,108,32,123,32,114,101,116,117,114,110,32,120,32,62,32,48,32,97,110,100,32,120,32,60,32,51,59,32,125]],.tup [.sl 4 [[int 1,int 0,int 0,int 4],[int 0,int 4,int 5,int 6],[int 3,int 6,int 6,int 7],[int 0,int 7,int 7,int 8],[int 3,int 8,int 8,int 9],[int 1,int 9,int 10,int 13],[int 3,int 13,int 13,int 14],[int 3,int 14,int 14,int 15],[int 1,int 15,int 16,int 20],[int 3,int 20,int 21,int 22],[int 1,int 22,int 23,int 29],[int 0,int 29,int 30,int 31],[int 3,int 31,int 32,int 33],[int 2,int 33,int 34,int 35],[int 1,int 35,int 36,int 39],[int 0,int 39,int 40,int 41],[int 3,int 41,int 42,int 43],[int 2,int 43,int 44,int 45],[int 3,int 45,int 45,int 46],[int 3,int 46,int 47,int 48],[int 5,int 48,int 48,int 48]],int 0]⟩
theorem zI2 : zBP Tryz.prog zI3 :=
 zA1 (l := []) (fun q hq => by simp at hq)
  zBO (m := 200) (d := 60) (by kernel_rfl) (by kernel_rfl) (by kernel_rfl)
def zG7 : zGq := ⟨52,[str [112,114,111,99,32,102,40,120,58,32,105,110,116,41,58,32,98,111,111,108,32,123,32,114,101,116,117,114,110,32,120,32,62,32,48,32,97,110,100,32,120,32,60,32,51,59,32,125]],.tup [.agg [int 2,str [],int 0,int 48,.sl 5 [[int 5,str [102],int 0,int 48,.sl 5 [[int 6,str [],int 6,int 14,.sl 5 [[int 7,str [120],int 7,int 13,.sl 5 [[int 9,str [105,110,116],int 10,int 13,.sl 5 []]]]]],[int 9,str [98,111,111,108],int 16,int 20,.sl 5 []],[int 11,str [],int 21,int 48,.sl 5 [[int 17,str [],int 23,int 46,.sl 5 [[int 29,str [97,110,100],int 30,int 45,.sl 5 [[int 29,str [62],int 30,int 35,.sl 5 [[int 20,str [120],int 30,int 31,.sl 5 []],[int 24,str [48],int 34,int 35,.sl 5 []]]],[int 29,str [60],int 40,int 45,.sl 5 [[int 20,str [120],int 40,int 41,.sl 5 []],[int 24,str [51],int 44,int 45,.sl 5 []]]]]]]]]]]]]],.sl 5 [],int 0]⟩
theorem zHU : zBP Tryz.prog zG7 :=
 zA1 (l := [zI3]) (fun q hq => by
  simp only [zZr,zZ1,or_false] at hq
  subst hq; exact zI2)
  zBO (m := 200) (d := 60) (by kernel_rfl) (by kernel_rfl) (by kernel_rfl)
def zC7 : zGq := ⟨132,[.agg [int 2,str [],int 0,int 48,.sl 5 [[int 5,str [102],int 0,int 48,.sl 5 [[int 6,str [],int 6,int 14,.sl 5 [[int 7,str [120],int 7,int 13,.sl 5 [[int 9,str [105,110,116],int 10,int 13,.sl 5 []]]]]],[int 9,str [98,111,111,108],int 16,int 20,.sl 5 []],[int 11,str [],int 21,int 48,.sl 5 [[int 17,str [],int 23,int 46,.sl 5 [[int 29,str [97,110,100],int 30,int 45,.sl 5 [[int 29,str [62],int 30,int 35,.sl 5 [[int 20,str [120],int 30,int 31,.sl 5 []],[int 24,str [48],int 34,int 35,.sl 5 []]]],[int 29,str [60],int 40,int 45,.sl 5 [[int 20,str [120],int 40,int 41,.sl 5 []],[int 24,str [51],int 44,int 45,.sl 5 []]]]]]]]]]]]]]],bool true⟩
theorem zCp : zBP Tryz.prog zC7 :=
 zA1 (l := []) (fun q hq => by simp at hq)
  zBO (m := 200) (d := 60) (by kernel_rfl) (by kernel_rfl) (by kernel_rfl)
def zDP : zGq := ⟨134,[.agg [int 2,str [],int 0,int 48,.sl 5 [[int 5,str [102],int 0,int 48,.sl 5 [[int 6,str [],int 6,int 14,.sl 5 [[int 7,str [120],int 7,int 13,.sl 5 [[int 9,str [105,110,116],int 10,int 13,.sl 5 []]]]]],[int 9,str [98,111,111,108],int 16,int 20,.sl 5 []],[int 11,str [],int 21,int 48,.sl 5 [[int 17,str [],int 23,int 46,.sl 5 [[int 29,str [97,110,100],int 30,int 45,.sl 5 [[int 29,str [62],int 30,int 35,.sl 5 [[int 20,str [120],int 30,int 31,.sl 5 []],[int 24,str [48],int 34,int 35,.sl 5 []]]],[int 29,str [60],int 40,int 45,.sl 5 [[int 20,str [120],int 40,int 41,.sl 5 []],[int 24,str [51],int 44,int 45,.sl 5 []]]]]]]]]]]]]]],.sl 2 []⟩
theorem zDO : zBP Tryz.prog zDP :=
 zA1 (l := [zC7]) (fun q hq => by
  simp only [zZr,zZ1,or_false] at hq
  subst hq; exact zCp)
  zBO (m := 200) (d := 60) (by kernel_rfl) (by kernel_rfl) (by kernel_rfl)
def zFf : zGq := ⟨94,[.agg [int 2,str [],int 0,int 48,.sl 5 [[int 5,str [102],int 0,int 48,.sl 5 [[int 6,str [],int 6,int 14,.sl 5 [[int 7,str [120],int 7,int 13,.sl 5 [[int 9,str [105,110,116],int 10,int 13,.sl 5 []]]]]],[int 9,str [98,111,111,108],int 16,int 20,.sl 5 []],[int 11,str [],int 21,int 48,.sl 5 [[int 17,str [],int 23,int 46,.sl 5 [[int 29,str [97,110,100],int 30,int 45,.sl 5 [[int 29,str [62],int 30,int 35,.sl 5 [[int 20,str [120],int 30,int 31,.sl 5 []],[int 24,str [48],int 34,int 35,.sl 5 []]]],[int 29,str [60],int 40,int 45,.sl 5 [[int 20,str [120],int 40,int 41,.sl 5 []],[int 24,str [51],int 44,int 45,.sl 5 []]]]]]]]]]]]]]],.tup [.sl 8 [[int 0,int 1,int 0,int 2,int 0,str [],int 16,int 20],[int 0,int 3,int 0,int 1,int 0,str [],int 10,int 13],[int 1,int 8,int 1,int 0,int 0,str [],int 23,int 46],[int 0,int 9,int 0,int 2,int 0,str [],int 30,int 35],[int 0,int 12,int 0,int 2,int 0,str [],int 40,int 45],[int 0,int 8,int 0,int 2,int 0,str [],int 30,int 45],[int 0,int 10,int 0,int 1,int 0,str [],int 30,int 31],[int 0,int 11,int 0,int 1,int 0,str [],int 34,int 35],[int 0,int 9,int 0,int 2,int 0,str [],int 30,int 35],[int 1,int 10,int 3,int 0,int 0,str [],int 30,int 31],[int 0,int 11,int 0,int 1,int 0,str [],int 34,int 35],[int 0,int 13,int 0,int 1,int 0,str [],int 40,int 41],[int 0,int 14,int 0,int 1,int 0,str [],int 44,int 45],[int 0,int 12,int 0,int 2,int 0,str [],int 40,int 45],[int 1,int 13,int 3,int 0,int 0,str [],int 40,int 41],[int 0,int 14,int 0,int 1,int 0,str [],int 44,int 45]],int 0]⟩
theorem zGf : zBP Tryz.prog zFf :=
 zA1 (l := [zC7,zDP]) (fun q hq => by
  simp only [zZr,zZ1,or_false] at hq
  rcases hq with rfl | rfl
  ·exact zCp
  ·exact zDO)
  zBO (m := 200) (d := 60) (by kernel_rfl) (by kernel_rfl) (by kernel_rfl)
def zG6 : zGq := ⟨95,[int 15,.sl 8 [[int 0,int 1,int 0,int 2,int 0,str [],int 16,int 20],[int 0,int 3,int 0,int 1,int 0,str [],int 10,int 13],[int 1,int 8,int 1,int 0,int 0,str [],int 23,int 46],[int 0,int 9,int 0,int 2,int 0,str [],int 30,int 35],[int 0,int 12,int 0,int 2,int 0,str [],int 40,int 45],[int 0,int 8,int 0,int 2,int 0,str [],int 30,int 45],[int 0,int 10,int 0,int 1,int 0,str [],int 30,int 31],[int 0,int 11,int 0,int 1,int 0,str [],int 34,int 35],[int 0,int 9,int 0,int 2,int 0,str [],int 30,int 35],[int 1,int 10,int 3,int 0,int 0,str [],int 30,int 31],[int 0,int 11,int 0,int 1,int 0,str [],int 34,int 35],[int 0,int 13,int 0,int 1,int 0,str [],int 40,int 41],[int 0,int 14,int 0,int 1,int 0,str [],int 44,int 45],[int 0,int 12,int 0,int 2,int 0,str [],int 40,int 45],[int 1,int 13,int 3,int 0,int 0,str [],int 40,int 41],[int 0,int 14,int 0,int 1,int 0,str [],int 44,int 45]]],.tup [.sl 3 [[int 0,int 0,str []],[int 2,int 0,str []],[int 0,int 0,str []],[int 1,int 0,str []],[int 0,int 0,str []],[int 0,int 0,str []],[int 0,int 0,str []],[int 0,int 0,str []],[int 2,int 0,str []],[int 2,int 0,str []],[int 1,int 0,str []],[int 1,int 0,str []],[int 2,int 0,str []],[int 1,int 0,str []],[int 1,int 0,str []]],.sl 1 [],int 0]⟩
theorem zHT : zBP Tryz.prog zG6 :=
 zA1 (l := [zC7]) (fun q hq => by
  simp only [zZr,zZ1,or_false] at hq
  subst hq; exact zCp)
  zBO (m := 200) (d := 60) (by kernel_rfl) (by kernel_rfl) (by kernel_rfl)
def zI1 : zGq := ⟨53,[.agg [int 2,str [],int 0,int 48,.sl 5 [[int 5,str [102],int 0,int 48,.sl 5 [[int 6,str [],int 6,int 14,.sl 5 [[int 7,str [120],int 7,int 13,.sl 5 [[int 9,str [105,110,116],int 10,int 13,.sl 5 []]]]]],[int 9,str [98,111,111,108],int 16,int 20,.sl 5 []],[int 11,str [],int 21,int 48,.sl 5 [[int 17,str [],int 23,int 46,.sl 5 [[int 29,str [97,110,100],int 30,int 45,.sl 5 [[int 29,str [62],int 30,int 35,.sl 5 [[int 20,str [120],int 30,int 31,.sl 5 []],[int 24,str [48],int 34,int 35,.sl 5 []]]],[int 29,str [60],int 40,int 45,.sl 5 [[int 20,str [120],int 40,int 41,.sl 5 []],[int 24,str [51],int 44,int 45,.sl 5 []]]]]]]]]]]]]]],.tup [.agg [int 2,str [],int 0,int 48,.sl 5 [[int 5,str [102],int 0,int 48,.sl 5 [[int 6,str [],int 6,int 14,.sl 5 [[int 7,str [120],int 7,int 13,.sl 5 [[int 9,str [105,110,116],int 10,int 13,.sl 5 []]]]]],[int 9,str [98,111,111,108],int 16,int 20,.sl 5 []],[int 11,str [],int 21,int 48,.sl 5 [[int 17,str [],int 23,int 46,.sl 5 [[int 29,str [97,110,100],int 30,int 45,.sl 5 [[int 29,str [62],int 30,int 35,.sl 5 [[int 20,str [120],int 30,int 31,.sl 5 []],[int 24,str [48],int 34,int 35,.sl 5 []]]],[int 29,str [60],int 40,int 45,.sl 5 [[int 20,str [120],int 40,int 41,.sl 5 []],[int 24,str [51],int 44,int 45,.sl 5 []]]]]]]]]]]]],.sl 3 [[int 0,int 0,str []],[int 0,int 0,str []],[int 0,int 0,str []],[int 0,int 0,str []],[int 0,int 0,str []],[int 0,int 0,str []],[int 0,int 0,str []],[int 0,int 0,str []],[int 2,int 0,str []],[int 2,int 0,str []],[int 1,int 0,str []],[int 1,int 0,str []],[int 2,int 0,str []],[int 1,int 0,str []],[int 1,int 0,str []]],.sl 1 [[int (-1)],[int (-1)],[int (-1)],[int 0],[int (-1)],[int (-1)],[int (-1)],[int (-1)],[int (-1)],[int (-1)],[int 0],[int (-1)],[int (-1)],[int 0],[int (-1)]],.sl 2 [],.sl 9 [[str [102],int 1,int 1,int 2,int 0,str [],.sl 8 [[str [120],int 1,int 0,str [],int 0,int 3,bool false,bool false]],int 1,zAI]]],zAI,int 0]⟩
theorem zI0 : zBP Tryz.prog zI1 :=
 zA1 (l := [zC7,zDP,zFf,zG6]) (fun q hq => by
  simp only [zZr,zZ1,or_false] at hq
  rcases hq with rfl | rfl | rfl | rfl
  ·exact zCp
  ·exact zDO
  ·exact zGf
  ·exact zHT)
  zBO (m := 200) (d := 60) (by kernel_rfl) (by kernel_rfl) (by kernel_rfl)
def zG5 : zGq := ⟨19,[str [112,114,111,99,32,102,40,120,58,32,105,110,116,41,58,32,98,111,111,108,32,123,32,114,101,116,117,114,110,32,120,32,62,32,48,32,97,110,100,32,120,32,60,32,51,59,32,125]],.tup [.agg [int 2,str [],int 0,int 48,.sl 5 [[int 5,str [102],int 0,int 48,.sl 5 [[int 6,str [],int 6,int 14,.sl 5 [[int 7,str [120],int 7,int 13,.sl 5 [[int 9,str [105,110,116],int 10,int 13,.sl 5 []]]]]],[int 9,str [98,111,111,108],int 16,int 20,.sl 5 []],[int 11,str [],int 21,int 48,.sl 5 [[int 17,str [],int 23,int 46,.sl 5 [[int 29,str [97,110,100],int 30,int 45,.sl 5 [[int 29,str [62],int 30,int 35,.sl 5 [[int 20,str [120],int 30,int 31,.sl 5 []],[int 24,str [48],int 34,int 35,.sl 5 []]]],[int 29,str [60],int 40,int 45,.sl 5 [[int 20,str [120],int 40,int 41,.sl 5 []],[int 24,str [51],int 44,int 45,.sl 5 []]]]]]]]]]]]],.sl 3 [[int 0,int 0,str []],[int 0,int 0,str []],[int 0,int 0,str []],[int 0,int 0,str []],[int 0,int 0,str []],[int 0,int 0,str []],[int 0,int 0,str []],[int 0,int 0,str []],[int 2,int 0,str []],[int 2,int 0,str []],[int 1,int 0,str []],[int 1,int 0,str []],[int 2,int 0,str []],[int 1,int 0,str []],[int 1,int 0,str []]],.sl 1 [[int (-1)],[int (-1)],[int (-1)],[int 0],[int (-1)],[int (-1)],[int (-1)],[int (-1)],[int (-1)],[int (-1)],[int 0],[int (-1)],[int (-1)],[int 0],[int (-1)]],.sl 2 [],.sl 9 [[str [102],int 1,int 1,int 2,int 0,str [],.sl 8 [[str [120],int 1,int 0,str [],int 0,int 3,bool false,bool false]],int 1,zAI]]],.sl 0 [],int 0]⟩
theorem zHS : zBP Tryz.prog zG5 :=
 zA1 (l := [zG7,zI1]) (fun q hq => by
  simp only [zZr,zZ1,or_false] at hq
  rcases hq with rfl | rfl
  ·exact zHU
  ·exact zI0)
  zBO (m := 200) (d := 60) (by kernel_rfl) (by kernel_rfl) (by kernel_rfl)
end Go.Proofs.YtbibhcmcjldhdaaGreatDoor
namespace Go.Proofs.YtbibhcmcjldhdaaGreatDoor
open Go Go.Ax Go.RowKit
set_option maxRecDepth 100000
set_option linter.unusedSimpArgs false
set_option linter.unusedVariables false
set_option maxHeartbeats 4000000
def wC : AV := .agg [.sl 6 [[str [102],int 1,int 1,int 1,zAI,.sl 5 [[int 1,int 0,int 0,.sl 5 [],.sl 5 []],[int 0,int 0,int 0,.sl 5 [],.sl 5 []],[int 14,int 0,int 0,.sl 5 [],.sl 5 []],[int 18,int 0,int 0,.sl 5 [[int 1,int 0,int 0,.sl 5 [],.sl 5 []],[int 0,int 3,int 0,.sl 5 [],.sl 5 []],[int 12,int 0,int 0,.sl 5 [],.sl 5 []]],.sl 5 [[int 0,int 0,int 0,.sl 5 [],.sl 5 []]]],[int 21,int 0,int 0,.sl 5 [],.sl 5 []]]]]]
def wps : List Pr := [⟨[102],1,1,1,[],[.mk 1 0 0 [] [],.mk 0 0 0 [] [],.mk 14 0 0 [] [],.mk 18 0 0 [.mk 1 0 0 [] [],.mk 0 3 0 [] [],.mk 12 0 0 [] []] [.mk 0 0 0 [] []],.mk 21 0 0 [] []]⟩]
theorem wSml : zCU wps := ⟨by decide,by decide,fun q hq => by
 simp only [wps,zZ5] at hq
 subst hq
 exact ⟨by decide,by decide,by decide⟩⟩
theorem zQy : zBR wps = true := zFm.2 ⟨by decide,fun k hk => by
 have hk : k < 1 := hk
 have : k = 0 := by omega
 subst this
 exact ⟨⟨by kernel_rfl,fun j hj => absurd hj (Nat.not_lt_zero j)⟩,⟨by decide,by decide,by decide,by decide,by decide,by decide,.inr rfl,by intro s hs; cases hs⟩,by decide,by decide,by kernel_rfl⟩⟩
theorem AV.Le.row {sz : Nat} {xs ys : List (List AV)} (hl : xs.length = ys.length) (hs : ∀ (i : Nat) (x y : List AV),xs[i]? = some x → ys[i]? = some y → y.length = x.length ∧ ∀ (j : Nat) (a b : AV),x[j]? = some a → y[j]? = some b → AV.Le a b) : AV.Le (.sl sz xs) (.sl sz ys) := fun w M ρ n v hv => by
 cases hv with
 | slE =>
  cases ys with
  | nil => exact .slE _ _ _ _
  | cons _ _ => cases hl
 | slN _ _ _ b o cap c hm hb hcap hsz hcell hrep =>
  have hx : ∀ (i j : Nat) (x : List AV) (y : AV),ys[i]? = some x → x[j]? = some y → ∃ x' y',xs[i]? = some x' ∧ x'[j]? = some y' ∧ AV.Le y' y := by
   intro i j y b hy hb
   have hi := (zYU.1 hy).1
   have hx := zZe (l := xs) (show i < xs.length by omega)
   obtain ⟨h1,h2⟩ := hs i _ y hx hy
   have hj := (zYU.1 hb).1
   have hxj := zZe (l := xs[i]'(by omega)) (show j < (xs[i]'(by omega)).length by omega)
   exact ⟨_,_,hx,hxj,h2 j _ b hxj hb⟩
  rw [hl]
  refine .slN _ _ _ b o cap c hm hb (by omega) (fun y hy => ?_) (fun i j x y hx' hy => ?_) fun i j x y hx' hy => ?_
  ·obtain ⟨i,hi,rfl⟩ := zZY.1 hy
   have hx := zZe (l := xs) (show i < xs.length by omega)
   rw [(hs i _ _ hx (zZe hi)).1]
   exact hsz _ (zzaO _)
  ·obtain ⟨x',y',h1,h2,h3⟩ := hx i j x y hx' hy
   exact hcell i j x' y' h1 h2
  ·obtain ⟨x',y',h1,h2,h3⟩ := hx i j x y hx' hy
   exact h3 _ _ _ _ _ (hrep i j x' y' h1 h2)
theorem wLe : AV.Le wC (.agg [zAU wps]) := by
 refine AV.Le.agg rfl fun i x y hx hy => ?_
 match i,hx,hy with
 | 0,rfl,rfl =>
  refine AV.Le.row rfl fun i x y hx hy => ?_
  match i,hx,hy with
  | 0,rfl,rfl =>
   refine ⟨rfl,fun j a b ha hb => ?_⟩
   match j,ha,hb with
   | 0,rfl,rfl => exact AV.Le.refl _
   | 1,rfl,rfl => exact AV.Le.refl _
   | 2,rfl,rfl => exact AV.Le.refl _
   | 3,rfl,rfl => exact AV.Le.refl _
   | 4,rfl,rfl => exact AV.Le.nil _
   | 5,rfl,rfl => exact AV.Le.refl _
theorem zT8 {k : FuncId} {H : zA} {R : AV → zA → Prop} (h : ACall Tryz.prog k [.agg [zAU wps]] H R) : ACall Tryz.prog k [wC] H R := by
 refine ACall.args h rfl fun i x y hx hy => ?_
 match i,hx,hy with
 | 0,rfl,rfl => exact wLe
end Go.Proofs.YtbibhcmcjldhdaaGreatDoor
namespace Go.Proofs.YtbibhcmcjldhdaaGreatDoor
open Go Go.Ax
set_option maxRecDepth 100000
set_option linter.unusedSimpArgs false
set_option maxHeartbeats 4000000
noncomputable def zYE : Tr (Option LFn) := (tN (tN (tN (tN tL (tN tL (tN (tN tL (tE Tryz.f215 [] tL tL)) tL))) (tN (tN (tN tL (tN (tE Tryz.f163 [⟨29,5,(.pre 10 (.frz (.t 10)))⟩] tL tL) tL)) tL) tL)) (tN (tN (tN (tN tL (tN (tE Tryz.f161 [] tL tL) tL)) tL) tL) tL)) (tN (tN (tE Tryz.f8 [] (tN (tN tL (tN (tE Tryz.f160 [] tL tL) tL)) tL) (tN (tE Tryz.f40 [] tL tL) (tN tL (tE Tryz.f120 [] tL tL)))) (tN (tN tL (tN (tN tL (tE Tryz.f212 [] tL tL)) tL)) tL)) (tN (tN (tN (tN (tE Tryz.f66 [] tL tL) (tN (tE Tryz.f162 [⟨7,12,.tail⟩,⟨8,12,.tail⟩,⟨9,12,.tail⟩,⟨10,12,.tail⟩,⟨17,12,.tail⟩,⟨18,12,.tail⟩,⟨23,12,.tail⟩] tL tL) tL)) tL) tL) (tN (tN tL (tN (tN tL (tE Tryz.f214 [] tL tL)) tL)) tL))))
theorem zFD : zMf Tryz.prog zYE := zIj (hN (hN (hN (hN hL (hN hL (hN (hN hL (hE Tryz.func215 hL hL)) hL))) (hN (hN (hN hL (hN (hE Tryz.func163 hL hL) hL)) hL) hL)) (hN (hN (hN (hN hL (hN (hE Tryz.func161 hL hL) hL)) hL) hL) hL)) (hN (hN (hE Tryz.func8 (hN (hN hL (hN (hE Tryz.func160 hL hL) hL)) hL) (hN (hE Tryz.func40 hL hL) (hN hL (hE Tryz.func120 hL hL)))) (hN (hN hL (hN (hN hL (hE Tryz.func212 hL hL)) hL)) hL)) (hN (hN (hN (hN (hE Tryz.func66 hL hL) (hN (hE Tryz.func162 hL hL) hL)) hL) hL) (hN (hN hL (hN (hN hL (hE Tryz.func214 hL hL)) hL)) hL))))
def cwI0 : zGq := ⟨40,[int 0],str [48]⟩
theorem zS0 : zBP Tryz.prog cwI0 := zA1 (l := []) (fun q hq => by simp at hq) zFD (m := 200) (d := 60) (by kernel_rfl) (by kernel_rfl) (by kernel_rfl)
def cwI1 : zGq := ⟨40,[int 1],str [49]⟩
theorem zSZ : zBP Tryz.prog cwI1 := zA1 (l := []) (fun q hq => by simp at hq) zFD (m := 200) (d := 60) (by kernel_rfl) (by kernel_rfl) (by kernel_rfl)
def cwI3 : zGq := ⟨40,[int 3],str [51]⟩
theorem zSY : zBP Tryz.prog cwI3 := zA1 (l := []) (fun q hq => by simp at hq) zFD (m := 200) (d := 60) (by kernel_rfl) (by kernel_rfl) (by kernel_rfl)
def wN (n : Int) : Prop := n = 0 ∨ n = 1 ∨ n = 3
theorem wI0 : Lib.itoa 0 = [48] := by kernel_rfl
theorem wI1 : Lib.itoa 1 = [49] := by kernel_rfl
theorem wI3 : Lib.itoa 3 = [51] := by kernel_rfl
theorem zXl : zHh wN := ⟨fun n h H => by
  rcases h with rfl | rfl | rfl
  ·rw [wI0]; exact zS0 H
  ·rw [wI1]; exact zSZ H
  ·rw [wI3]; exact zSY H,
 fun n h => by
  rcases h with rfl | rfl | rfl
  ·rw [wI0]; decide
  ·rw [wI1]; decide
  ·rw [wI3]; decide⟩
theorem wFm : ∀ q ∈ wps,FmP wN q := fun q hq => by
 simp only [wps,zZ5] at hq
 subst hq
 refine ⟨by decide,by decide,fun n hn => ?_,?_,by decide⟩
 ·simp only [zEx,zZr,zZ1,or_false] at hn
  unfold wN; omega
 ·simp only [zOQ,FOk,zBh,zCE]
  simp [wN]
def wT : List UInt8 := [112,114,111,99,32,102,32,49,32,49,32,49,10,32,32,108,111,97,100,32,48,10,32,32,112,117,115,104,32,48,10,32,32,103,114,101,97,116,101,114,10,32,32,105,102,10,32,32,32,32,108,111,97,100,32,48,10,32,32,32,32,112,117,115,104,32,51,10,32,32,32,32,108,101,115,115,10,32,32,101,108,115,101,10,32,32,32,32,112,117,115,104,32,48,10,32,32,101,110,100,10,32,32,114,101,116,117,114,110,10,101,110,100,10]
theorem zT7 : zBZ wps = wT := by kernel_rfl
def zVN : zGq := ⟨14,[wC],bool true⟩
theorem zQj : zBP Tryz.prog zVN := fun H => zT8 (by have h := zCt wps wSml H; rw [zQy] at h; exact h)
def zVO : zGq := ⟨13,[wC],str wT⟩
theorem zQk : zBP Tryz.prog zVO := fun H => zT8 (by have h := zKR zXl wps wSml zQy wFm (by rw [zT7]; decide) H; rw [zT7] at h; exact h)
def zRd : zGq := ⟨20,[.agg [int 2,str [],int 0,int 48,.sl 5 [[int 5,str [102],int 0,int 48,.sl 5 [[int 6,str [],int 6,int 14,.sl 5 [[int 7,str [120],int 7,int 13,.sl 5 [[int 9,str [105,110,116],int 10,int 13,.sl 5 []]]]]],[int 9,str [98,111,111,108],int 16,int 20,.sl 5 []],[int 11,str [],int 21,int 48,.sl 5 [[int 17,str [],int 23,int 46,.sl 5 [[int 29,str [97,110,100],int 30,int 45,.sl 5 [[int 29,str [62],int 30,int 35,.sl 5 [[int 20,str [120],int 30,int 31,.sl 5 []],[int 24,str [48],int 34,int 35,.sl 5 []]]],[int 29,str [60],int 40,int 45,.sl 5 [[int 20,str [120],int 40,int 41,.sl 5 []],[int 24,str [51],int 44,int 45,.sl 5 []]]]]]]]]]]]],.sl 3 [[int 0,int 0,str []],[int 0,int 0,str []],[int 0,int 0,str []],[int 0,int 0,str []],[int 0,int 0,str []],[int 0,int 0,str []],[int 0,int 0,str []],[int 0,int 0,str []],[int 2,int 0,str []],[int 2,int 0,str []],[int 1,int 0,str []],[int 1,int 0,str []],[int 2,int 0,str []],[int 1,int 0,str []],[int 1,int 0,str []]],.sl 1 [[int (-1)],[int (-1)],[int (-1)],[int 0],[int (-1)],[int (-1)],[int (-1)],[int (-1)],[int (-1)],[int (-1)],[int 0],[int (-1)],[int (-1)],[int 0],[int (-1)]],.sl 2 [],.sl 9 [[str [102],int 1,int 1,int 2,int 0,str [],.sl 8 [[str [120],int 1,int 0,str [],int 0,int 3,bool false,bool false]],int 1,zAI]]]],.tup [.agg [.sl 6 [[str [102],int 1,int 1,int 1,zAI,.sl 5 [[int 1,int 0,int 0,.sl 5 [],.sl 5 []],[int 0,int 0,int 0,.sl 5 [],.sl 5 []],[int 14,int 0,int 0,.sl 5 [],.sl 5 []],[int 18,int 0,int 0,.sl 5 [[int 1,int 0,int 0,.sl 5 [],.sl 5 []],[int 0,int 3,int 0,.sl 5 [],.sl 5 []],[int 12,int 0,int 0,.sl 5 [],.sl 5 []]],.sl 5 [[int 0,int 0,int 0,.sl 5 [],.sl 5 []]]],[int 21,int 0,int 0,.sl 5 [],.sl 5 []]]]]],int 0]⟩
theorem zOo : zBP Tryz.prog zRd := zA1 (l := [zVN]) (fun q hq => by
  simp only [zZr,zZ1,or_false] at hq
  subst hq; exact zQj) zBO (m := 200) (d := 60) (by kernel_rfl) (by kernel_rfl) (by kernel_rfl)
def cwAw : zGq := ⟨8,[],bool true⟩
theorem zS1 : zBP Tryz.prog cwAw := zA1 (l := [zG5,zRd,zVO]) (fun q hq => by
  simp only [zZr,zZ1,or_false] at hq
  rcases hq with rfl | rfl | rfl
  ·exact zHS
  ·exact zOo
  ·exact zQk) zFD (m := 200) (d := 60) (by kernel_rfl) (by kernel_rfl) (by kernel_rfl)
theorem zH1 (H : zA) : zBm 8 [] H (bool true) := zS1 H
set_option linter.unusedVariables false
theorem zRW (ps : List Pr) (hs : zCU ps) : ∃ b,(b = true → (∀ q ∈ ps,q.name.length ≤ 60 ∧ q.outs.length ≤ 200) ∧ zAO ps ≤ 500) ∧ ∀ H,zBm 6 [.agg [zAU ps]] H (bool b) := by
 obtain ⟨hs1,hs2,hs3⟩ := hs
 by_cases hall : ∀ i,i < ps.length → (ps.getD i default).name.length ≤ 60 ∧ (ps.getD i default).outs.length ≤ 200
 ·refine ⟨decide (ps.length ≤ 20 ∧ zAO ps ≤ 500),fun hb => ⟨fun q hq => ?_,(zZ9 hb).2⟩,fun H => ACall.drop (R := fun x => x = bool (decide (ps.length ≤ 20 ∧ zAO ps ≤ 500))) ?_⟩
  ·obtain ⟨k,hk,rfl⟩ := List.getElem_of_mem hq
   have e : ps.getD k default = ps[k] := by simp [List.getD,hk]
   have := hall k hk
   rw [e] at this; exact this
  refine enter Tryz.func6 L6_ok (zY0 rfl) ?_
  repeat' (simp -implicitDefEqProofs (disch := omega) only [L6,zBE,push_cast,↓reduceIte,Nat.reduceAdd,zYW])
  refine zAd (fun (j : Nat) e' H' => e' 1 = .ptr H.length 0 0 ∧ e' 3 = int (zAO (ps.take j) : Nat) ∧ e' 4 = int j ∧ H' = H ++ [.box [zAU ps]] ∧ j ≤ ps.length) (fun j => ps.length - j) 0 ?_ ?_
  ·exact ⟨rfl,rfl,rfl,rfl,zZm _⟩
  rintro j e' H' ⟨h1,h3,h4,rfl,hj⟩
  by_cases hlt : j < ps.length
  ·obtain ⟨m1,m2,m3⟩ := hs3 _ (zAt hlt)
   obtain ⟨n1,n2⟩ := hall j hlt
   have hsn := zCW hlt
   have hpt := zEU ps (j + 1)
   repeat' (first | refine zY1 (by omega) ?_ | refine zC (zYB (ps.getD j default).body m3 _) ?_ | simp -implicitDefEqProofs (disch := omega) only [h1,h3,h4,zBL,zBx,zEv,zHy,zHx,zYV,zS,zAQ,push_cast,↓reduceIte,Nat.reduceEqDiff,Nat.reduceAdd,Nat.reduceLeDiff])
   exact .mk (j + 1) ⟨h1,zYu rfl (by omega),rfl,rfl,hlt⟩ (by omega)
  ·have e : j = ps.length := by omega
   subst e
   rw [zzaF] at h3
   by_cases hc : ps.length ≤ 20
   ·by_cases hd : zAO ps ≤ 500
    ·rw [zZz ⟨hc,hd⟩]
     repeat' (simp -implicitDefEqProofs (disch := omega) only [h1,h3,h4,zYV,zAQ,zAj,push_cast,↓reduceIte,Nat.reduceEqDiff,Nat.reduceAdd,Nat.reduceLeDiff])
     exact ⟨_,rfl⟩
    ·rw [zzad fun hh => hd hh.2]
     repeat' (simp -implicitDefEqProofs (disch := omega) only [h1,h3,h4,zYV,zAQ,zAj,zAK,push_cast,↓reduceIte,Nat.reduceEqDiff,Nat.reduceAdd,Nat.reduceLeDiff])
     exact ⟨_,rfl⟩
   ·rw [zzad fun hh => hc hh.1]
    repeat' (simp -implicitDefEqProofs (disch := omega) only [h1,h4,zYV,zAQ,zAK,push_cast,↓reduceIte,Nat.reduceEqDiff,Nat.reduceAdd,Nat.reduceLeDiff])
    exact ⟨_,rfl⟩
 ·refine ⟨false,fun hb => absurd hb (by decide),fun H => ACall.drop (R := fun x => x = bool false) ?_⟩
  refine enter Tryz.func6 L6_ok (zY0 rfl) ?_
  repeat' (simp -implicitDefEqProofs (disch := omega) only [L6,zBE,push_cast,↓reduceIte,Nat.reduceAdd,zYW])
  refine zAd (fun (j : Nat) e' H' => e' 1 = .ptr H.length 0 0 ∧ e' 3 = int (zAO (ps.take j) : Nat) ∧ e' 4 = int j ∧ H' = H ++ [.box [zAU ps]] ∧ j ≤ ps.length ∧ ∀ i,i < j → (ps.getD i default).name.length ≤ 60 ∧ (ps.getD i default).outs.length ≤ 200) (fun j => ps.length - j) 0 ?_ ?_
  ·exact ⟨rfl,rfl,rfl,rfl,zZm _,fun i hi => by omega⟩
  rintro j e' H' ⟨h1,h3,h4,rfl,hj,hup⟩
  by_cases hlt : j < ps.length
  ·obtain ⟨m1,m2,m3⟩ := hs3 _ (zAt hlt)
   have hsn := zCW hlt
   have hpt := zEU ps (j + 1)
   by_cases hjn : (ps.getD j default).name.length ≤ 60 ∧ (ps.getD j default).outs.length ≤ 200
   ·repeat' (first | refine zY1 (by omega) ?_ | refine zC (zYB (ps.getD j default).body m3 _) ?_ | simp -implicitDefEqProofs (disch := omega) only [h1,h3,h4,zBL,zBx,zEv,zHy,zHx,zYV,zS,zAQ,push_cast,↓reduceIte,Nat.reduceEqDiff,Nat.reduceAdd,Nat.reduceLeDiff])
    exact .mk (j + 1) ⟨h1,zYu rfl (by omega),rfl,rfl,hlt,zCv hup hjn⟩ (by omega)
   ·repeat' (first | refine zY1 (by omega) ?_ | refine zC (zYB (ps.getD j default).body m3 _) ?_ | simp -implicitDefEqProofs (disch := omega) only [h1,h3,h4,zBL,zBx,zEv,zHy,zHx,zYV,zS,zAQ,push_cast,↓reduceIte,Nat.reduceEqDiff,Nat.reduceAdd,Nat.reduceLeDiff] | split)
    all_goals first | exact ⟨_,rfl⟩ | (exfalso; omega)
  ·have e : j = ps.length := by omega
   subst e
   exact absurd hup hall
theorem zGz (hN : zHh NR) (ps : List Pr) (hs : zCU ps) (H : zA) : zBm 5 [.agg [zAU ps]] H (bool true) := by
 obtain ⟨b,hb,cS⟩ := zRW ps hs
 refine ACall.drop (R := fun x => x = bool true) ?_
 refine enter Tryz.func5 L5_ok (zY0 rfl) ?_
 cases b with
 | false =>
  repeat' (first | refine zC (cS _) ?_ | refine zC (zH1 _) ?_ | simp -implicitDefEqProofs (disch := omega) only [L5,zFy,zBE,push_cast,↓reduceIte,Nat.reduceEqDiff,Nat.reduceAdd,Nat.reduceLeDiff,zYW])
  all_goals exact ⟨_,rfl⟩
 | true =>
 have cV := fun H => zCt ps hs H
 cases hv : zBR ps with
 | false =>
  rw [hv] at cV
  have cF := fun H => zP9 ps hs hv H
  repeat' (first | refine zC (cS _) ?_ | refine zC (cF _) ?_ | refine zC (cV _) ?_ | refine zC (zH1 _) ?_ | simp -implicitDefEqProofs (disch := omega) only [L5,zFy,zBE,push_cast,↓reduceIte,Nat.reduceEqDiff,Nat.reduceAdd,Nat.reduceLeDiff,zYW])
  all_goals exact ⟨_,rfl⟩
 | true =>
  rw [hv] at cV
  obtain ⟨h1,h2⟩ := hb rfl
  obtain ⟨k1,k2,k3⟩ := zPs hv h1 h2
  have cF := fun H => zKR hN ps hs hv k2 (by omega) H
  have cP := fun H => zSi (zBZ ps) k1 H
  rw [k3] at cP
  have cE := fun H => zQn ps hs H
  generalize zBZ ps = t at *
  repeat' (first | refine zC (cS _) ?_ | refine zC (cF _) ?_ | refine zC (cV _) ?_ | refine zC (cP _) ?_ | refine zC (cE _) ?_ | refine zC (zH1 _) ?_ | simp -implicitDefEqProofs (disch := omega) only [L5,zFy,zBE,push_cast,↓reduceIte,Nat.reduceEqDiff,Nat.reduceAdd,Nat.reduceLeDiff,Nat.reduceLT,zYW])
  all_goals exact ⟨_,rfl⟩
end Go.Proofs.YtbibhcmcjldhdaaGreatDoor
namespace Go.Proofs
open Go.Shelf
set_option linter.unusedSimpArgs false
set_option maxHeartbeats 4000000
def Tryz.laysM171_ren : Go.Shelf.Ren := ⟨fun | 171 => 40 | 243 => 66 | 246 => 120 | 283 => 160 | 284 => 161 | 285 => 162 | 286 => 163 | 129 => 213 | 317 => 212 | 318 => 214 | 319 => 215 | 320 => 216 | 337 => 262 | 338 => 263 | n => n,fun | 3 => 3 | 9 => 9 | 2 => 2 | 4 => 4 | 171 => 242 | 0 => 0 | 53 => 196 | 37 => 80 | 5 => 5 | 173 => 245 | 212 => 290 | 51 => 193 | 20 => 20 | 213 => 291 | 46 => 118 | 232 => 329 | 233 => 330 | n => n,fun | 17 => 3 | 18 => 4 | 19 => 5 | n => n⟩
theorem Tryz.laysM171 : Go.Proofs.LaysM.n171 Tryz.prog Tryz.laysM171_ren := {
 mixed := by kernel_rfl
 f129 := Tryz.func213.trans (congrArg some (by kernel_rfl))
 f171 := Tryz.func40.trans (congrArg some (by kernel_rfl))
 f243 := Tryz.func66.trans (congrArg some (by kernel_rfl))
 f246 := Tryz.func120.trans (congrArg some (by kernel_rfl))
 f283 := Tryz.func160.trans (congrArg some (by kernel_rfl))
 f284 := Tryz.func161.trans (congrArg some (by kernel_rfl))
 f285 := Tryz.func162.trans (congrArg some (by kernel_rfl))
 f286 := Tryz.func163.trans (congrArg some (by kernel_rfl))
 f317 := Tryz.func212.trans (congrArg some (by kernel_rfl))
 f318 := Tryz.func214.trans (congrArg some (by kernel_rfl))
 f319 := Tryz.func215.trans (congrArg some (by kernel_rfl))
 f320 := Tryz.func216.trans (congrArg some (by kernel_rfl))
 f337 := Tryz.func262.trans (congrArg some (by kernel_rfl))
 f338 := Tryz.func263.trans (congrArg some (by kernel_rfl))
 t0 := Tryz.underlying0
 a0 := Tryz.isAgg0
 z0 := Tryz.sizeOf0
 v0 := Tryz.zeroValue0
 t2 := Tryz.underlying2
 a2 := Tryz.isAgg2
 z2 := Tryz.sizeOf2
 v2 := Tryz.zeroValue2
 t3 := Tryz.underlying3
 a3 := Tryz.isAgg3
 z3 := Tryz.sizeOf3
 v3 := Tryz.zeroValue3
 t4 := Tryz.underlying4
 a4 := Tryz.isAgg4
 z4 := Tryz.sizeOf4
 v4 := Tryz.zeroValue4
 t5 := Tryz.underlying5
 a5 := Tryz.isAgg5
 z5 := Tryz.sizeOf5
 v5 := Tryz.zeroValue5
 t9 := Tryz.underlying9
 a9 := Tryz.isAgg9
 z9 := Tryz.sizeOf9
 v9 := Tryz.zeroValue9
 t20 := Tryz.underlying20
 a20 := Tryz.isAgg20
 z20 := Tryz.sizeOf20
 v20 := Tryz.zeroValue20
 t37 := Tryz.underlying80
 a37 := Tryz.isAgg80
 z37 := Tryz.sizeOf80
 v37 := Tryz.zeroValue80
 t46 := Tryz.underlying118
 a46 := Tryz.isAgg118
 z46 := Tryz.sizeOf118
 v46 := Tryz.zeroValue118
 t51 := Tryz.underlying193
 a51 := Tryz.isAgg193
 z51 := Tryz.sizeOf193
 v51 := Tryz.zeroValue193
 t53 := Tryz.underlying196
 a53 := Tryz.isAgg196
 z53 := Tryz.sizeOf196
 v53 := Tryz.zeroValue196
 t171 := Tryz.underlying242
 a171 := Tryz.isAgg242
 z171 := Tryz.sizeOf242
 v171 := Tryz.zeroValue242
 t173 := Tryz.underlying245
 a173 := Tryz.isAgg245
 z173 := Tryz.sizeOf245
 v173 := Tryz.zeroValue245
 t212 := Tryz.underlying290
 a212 := Tryz.isAgg290
 z212 := Tryz.sizeOf290
 v212 := Tryz.zeroValue290
 t213 := Tryz.underlying291
 a213 := Tryz.isAgg291
 z213 := Tryz.sizeOf291
 t232 := Tryz.underlying329
 a232 := Tryz.isAgg329
 z232 := Tryz.sizeOf329
 v232 := Tryz.zeroValue329
 t233 := Tryz.underlying330
 a233 := Tryz.isAgg330
 z233 := Tryz.sizeOf330
 v233 := Tryz.zeroValue330
 g17 := by kernel_rfl
 g18 := by kernel_rfl
 g19 := by kernel_rfl
 i0 := by kernel_rfl
 i2 := by kernel_rfl
 i3 := by kernel_rfl
 i4 := by kernel_rfl
 i5 := by kernel_rfl
 i9 := by kernel_rfl
 i20 := by kernel_rfl
 i37 := by kernel_rfl
 i46 := by kernel_rfl
 i51 := by kernel_rfl
 i53 := by kernel_rfl
 i171 := by kernel_rfl
 i173 := by kernel_rfl
 i212 := by kernel_rfl
 i232 := by kernel_rfl
 i233 := by kernel_rfl
 m17 := by kernel_rfl
 m18 := by kernel_rfl
 m19 := by kernel_rfl }
open Go.RowKit Go.Sort Go.Lib in
theorem Tryz.strconv_Itoa (n : Int) (h0 : -9223372036854775808 ≤ n) (h1 : n ≤ 9223372036854775807) (w : World) (htab : Lib.TabIs Tryz.prog w "internal/strconv.uint64pow10" .u64 Lib.pow10Tab) :
  Calls Tryz.prog 40 #[.int .i64 n] w fun e w' => e = .returned (.string ⟨(Lib.itoa n).toArray⟩) ∧ ∃ k os,w' = grow (w.drewN k) os := Any.strconv_Itoa Tryz.laysM171 n h0 h1 w htab
end Go.Proofs
namespace Go.Proofs.YtbibhcmcjldhdaaGreatDoor
open Go Go.Ax Go.RowKit Go.Sort
set_option maxRecDepth 100000
set_option linter.unusedSimpArgs false
set_option linter.unusedVariables false
set_option maxHeartbeats 4000000
theorem zUe {w : World} (h : ∃ t fr, w.heap[3]? = some (.cells ((Lib.pow10Tab.map fun z => Value.int .u64 z).toArray) t fr)) : Lib.TabIs Tryz.prog w "internal/strconv.uint64pow10" .u64 Lib.pow10Tab := by
 obtain ⟨t,fr,h⟩ := h
 have hg : Tryz.prog.globalNamed "internal/strconv.uint64pow10" = some 3 := by kernel_rfl
 unfold Lib.TabIs World.var?
 rw [hg,zzaq,h]
theorem zPC {w : World} {M : Nat → Prop} {ρ : Nat → Ax.Loc} {n : Nat} {x : AV} {vs : Array Value} (h : RepL w M ρ n [x] vs) : ∃ a,vs = #[a] ∧ Rep w M ρ n x a := by
 obtain ⟨hl,hv⟩ := h
 obtain ⟨l⟩ := vs
 match l,hl with
 | [a],_ => exact ⟨a,rfl,hv 0 x a rfl rfl⟩
theorem zYs (n : Int) (h0 : -9223372036854775808 ≤ n) (h1 : n ≤ 9223372036854775807) (H : zA) : ACall Tryz.prog 40 [int n] H fun x H' => x = str (Lib.itoa n) ∧ H' = H := by
 refine ⟨⟨_,Tryz.func40,by kernel_rfl,by kernel_rfl⟩,fun X ρ w vs hrel hargs => ?_⟩
 obtain ⟨a,rfl,ha⟩ := zPC hargs
 have ha := zDz ha
 subst ha
 have htab := zUe ((hrel.gl 3 (.inr (by simp [zLQ]))).2.2 (by simp [zLQ]))
 refine (Tryz.strconv_Itoa n h0 h1 w htab).mono ?_
 rintro e w' ⟨rfl,k,os,rfl⟩
 obtain ⟨f1,f2⟩ := hrel.more (w' := grow (w.drewN k) os) ⟨rfl,rfl,rfl,by simp [grow]⟩ (fun b hb => by simp [grow,zZD,hb])
 exact ⟨_,_,H,ρ,rfl,⟨rfl,rfl⟩,f1,.v _ _,f2⟩
theorem zJp {laid : List (String × DataW Unit)} (hf : (laid.filter fun x => x.1 == "internal/strconv.uint64pow10") = [("internal/strconv.uint64pow10", Lib.tabData .u64 Lib.pow10Tab)]) (W : World) (h : laidMetH Tryz.prog laid W) :
  ∀ g ∈ zLQ,∃ t fr,W.heap[g]? = some (.cells ((Lib.pow10Tab.map fun z => Value.int .u64 z).toArray) t fr) := by
 intro g hg
 have h1 := h.filter fun x => x.1 == "internal/strconv.uint64pow10"
 rw [hf] at h1
 have h2 : laidMet Tryz.prog [("internal/strconv.uint64pow10", Lib.tabData .u64 Lib.pow10Tab)] W := (laidMetH_iff.1 h1).1
 have hg2 : Tryz.prog.globalNamed "internal/strconv.uint64pow10" = some 3 := by kernel_rfl
 obtain rfl : g = 3 := by simpa [zLQ] using hg
 have h3 : Lib.TabIs Tryz.prog W "internal/strconv.uint64pow10" .u64 Lib.pow10Tab := Lib.tabIs_of_head (t := 290) (e := 196) (n := 20) hg2 (by kernel_rfl) Tryz.underlying290 Tryz.underlying196 (by kernel_rfl) (by kernel_rfl) h2
 unfold Lib.TabIs World.var? at h3
 rw [hg2,zzaq] at h3
 split at h3
 ·rename_i cs t fr hc
  exact ⟨t,fr,by rw [hc,zzba h3]⟩
 ·cases h3
end Go.Proofs.YtbibhcmcjldhdaaGreatDoor
namespace Go.Proofs.YtbibhcmcjldhdaaGreatDoor
open Go Go.Ax
set_option maxRecDepth 100000
set_option linter.unusedSimpArgs false
set_option maxHeartbeats 4000000
theorem zVy : zHh NR := ⟨fun n hn H => zYs n (by have := hn.1; omega) (by have := hn.2; omega) H,fun n hn => zZ3 (zHI hn).2 (by omega)⟩
theorem zHV (ps : List Pr) (hs : zCU ps) (H : zA) : zBm 5 [.agg [zAU ps]] H (bool true) := zGz zVy ps hs H
end Go.Proofs.YtbibhcmcjldhdaaGreatDoor
namespace Go.Ax
open Go Go.RowKit Go.WideShapes Go.ChangeShapes
open Go.Proofs.YtbibhcmcjldhdaaGreatDoor
set_option linter.unusedSimpArgs false
set_option linter.unusedVariables false
theorem zHG {C : Checked} {k : FuncId} {fn : Func} {s : ChangeSpec} {F : Stop.Interp} {conds : List PathCond} {laid : List (String × DataW Unit)} {tb : TypeId} {S : List TypeId} {os : Os} {H : Type} {enc : TypeId × Value → H} {ts : List TypeId}
  (own : ownKnob C.prog.godebug = none) (started : os.Started) (noInit : C.prog.inits.idxOf? k = none) (hfn : C.prog.funcs[k]? = some fn)
  (witness : ∃ (w : World) (tape : Tape) (i : Input),w.os = os ∧ (w.forCall tape i).Shaped C.prog ∧ i.vars = [] ∧ Input.okWide C.prog (w.forCall tape i) .any w.heap.size k i ∧
   (Rows.OpenSpec.upto s).preRow enc C.prog fn conds false laid (w.forCall tape i).memory i.args ∧ (({} : Assume)).holds C.prog (lone (Frame.enter C.prog k i.args .normal) [] (w.forCall tape i)))
  (hv : s.vars = []) (hts : fn.params.toList = ts) (hf : fn.resultTypes = #[tb]) (htb : C.prog.underlying tb = some .bool) (hs : ∀ ds : List (DataW H),ds.length = ts.length → s.fn H ds = ⟨[.lit (.bool true)],ds,[]⟩)
  (hgl : zJQ C.prog = true) (hl : laidOutB C.prog = true) (hr : ts.all (fun t => C.prog.readableRec t && decide (t < C.prog.types.size) && S.contains t) = true) (hS : zGL C.prog S = true)
  (law : ∀ l,zK7 C.prog ts l → zAV l ≤ 1048576 → ∃ R : zA → Prop,ACall C.prog k (zDy C.prog ts l) [] fun x H' => x = bool true ∧ R H')
  (tab : ∀ W : World,laidMetH C.prog laid W → ∀ g ∈ zLQ,∃ t fr,W.heap[g]? = some (.cells ((Lib.pow10Tab.map fun z => Value.int .u64 z).toArray) t fr)) :
  ReturnsInHanded {} C os k .any ((Rows.OpenSpec.upto s).preRow enc C.prog fn conds false laid) (((Rows.OpenSpec.upto s).at F).post enc C.prog fn false true false false) := by
 refine returnsInHanded_of_row (s := Rows.OpenSpec.upto s) own started noInit hfn witness ?_
 intro W base args ds gs before hval hW _ hcnd _ hLm hsh _
 have hkk := hcnd _ rfl
 have hW' := hW
 obtain ⟨p,q,hA,hV,rfl,hfz,hnd⟩ := hW
 have hV' : DataW.TrodVars enc C.prog W (fun _ => true) s.vars gs q := hV
 rw [hv] at hV'
 obtain ⟨rfl,rfl⟩ := trodVars_none hV'
 have hall : ∀ t ∈ ts,C.prog.readableRec t = true ∧ t < C.prog.types.size ∧ t ∈ S := fun t ht => by
  have := zZb.1 hr t ht
  simpa [and_assoc] using this
 rw [hts] at hA
 obtain ⟨l,hl1,hlb,hl2,hl3⟩ := zID hS (fun t ht => (hall t ht).2.2) (fun j t v ht hvv => ⟨_,_,hval j t v (by rw [← zZT,hts]; exact ht) (by rw [← zZT]; exact hvv)⟩) hA
 have hbd : zAV l ≤ 1048576 := by
  have h : Rows.uptoBulkAll (ds ++ []) ≤ 1048576 := zZ9 hkk
  rw [zZA] at h
  exact zZ3 hlb h
 obtain ⟨R,hlaw⟩ := law l hl1 hbd
 have hrep : RepL W X0 (fun _ => {}) 0 (zDy C.prog ts l) args := ⟨by simpa using hl2,fun i x u hx hu => hl3 i x u hx (by rw [zZT]; exact hu)⟩
 refine (hlaw.top hrep (zN3 hgl hsh (tab W hLm))).mono fun e W' ⟨v,x,H',ρ',he,hx,hrx,hb⟩ => ?_
 obtain ⟨rfl,_⟩ := hx
 have hvv := zAJ hrx
 subst hvv
 subst he
 have hlt : ∀ x ∈ p ++ [],x.block < W.heap.size := fun x hx => hW'.lt x hx
 have hdl : ds.length = ts.length := by
  have aux : ∀ {ts : List TypeId} {vs : List Value} {ds : List (DataW H)} {ps : List MemPlace},DataW.TrodAll enc C.prog W 0 (fun _ => true) true ts vs ds ps → ds.length = ts.length := by
   intro ts
   induction ts with
   | nil => intro vs ds ps h; obtain ⟨_,rfl,_⟩ := trodAll_nil h; rfl
   | cons t ts ih => intro vs ds ps h; obtain ⟨v,vs1,d,ds1,a,b,rfl,rfl,rfl,h1,h2⟩ := trodAll_cons h; simp [ih h2]
  exact aux hA
 refine ⟨_,rfl,zPG (s := s) hW' hv hf htb (hs ds hdl) (fun sp hsp => ?_) hb⟩
 rw [hts,zZA]
 exact zIk hl (fun t ht => ⟨(hall t ht).1,(hall t ht).2.1⟩) hA (fun x hx => hb.same (hlt x (by simpa using hx))) (fun x hx => hsp x (by simpa using hx))
mutual
def zVz : DataW Unit → List Value
 | .lit (.int k n) => [.int k n]
 | .agg ps => zRb ps
 | _ => []
def zRb : List (DataW Unit) → List Value
 | [] => []
 | d :: l => zVz d ++ zRb l
end
noncomputable def zVu (P : Program) : List (String × DataW Unit) → World → World
 | [],w => w
 | (n,d) :: l,w => zVu P l (match P.globalNamed n with
  | none => w
  | some g => { w with heap := w.heap.modify g fun
   | .cells _ t frozen => .cells (zVz d).toArray t frozen
   | o => o })
end Go.Ax
namespace Go.Proofs.YtbibhcmcjldhdaaGreatDoor
open Go Go.Ax Go.ChangeShapes Go.WideShapes Go.ChangeAt Go.RowKit
set_option linter.unusedSimpArgs false
set_option linter.unusedVariables false
set_option maxHeartbeats 4000000
theorem zE7 : ∀ l,zK7 Tryz.prog Tryz.f5.params.toList l → zAV l ≤ 1048576 → ∃ R : zA → Prop,ACall Tryz.prog 5 (zDy Tryz.prog Tryz.f5.params.toList l) [] fun x H' => x = bool true ∧ R H' := by
 intro l h hb
 rw [Tryz.params5] at h ⊢
 match l,h with
 | [xs],h =>
  obtain ⟨h1,_⟩ := h
  simp only [zAV] at hb
  obtain ⟨ps,rfl,hps⟩ := zNm h1
  simp only [zDy,zQD,Tryz.underlying24,zzaZ]
  simp only [zBy,zFE] at hb
  exact ⟨_,zHV ps (zS2 ps (zZa _) (by omega)) []⟩
noncomputable def zBC (os : Os) : World := zVu Tryz.prog Rows.compilerReadsUptoRow.laid (World.holding Tryz.prog os ⟨#[],#[],[]⟩)
set_option maxRecDepth 100000 in
theorem zE6 (os : Os) : laidMet Tryz.prog Rows.compilerReadsUptoRow.laid ((zBC os).forCall (fun _ _ => 0) ⟨#[],#[.agg #[.slice none 0 0]],[]⟩).memory :=
 laidMet_of_run' 8 (by kernel_rfl) (by kernel_rfl)
set_option maxRecDepth 100000 in
theorem zEo (os : Os) {H : Type} (enc : TypeId × Value → H) : ∃ places,DataW.whole enc Tryz.prog ((zBC os).forCall (fun _ _ => 0) ⟨#[],#[.agg #[.slice none 0 0]],[]⟩).memory Tryz.f5.params.toList (Rows.OpenSpec.upto Rows.compilerReadsSpec).vars false (#[.agg #[.slice none 0 0]] : Array Value).toList 8 = some ([.agg [.nil]],[],places) :=
 ⟨[],by kernel_rfl⟩
set_option maxRecDepth 100000 in
theorem zD6 (os : Os) (started : os.Started) (H : Type) (enc : TypeId × Value → H) (F : Stop.Interp) :
  ReturnsInHanded {} Tryz.checked os 5 .any ((Rows.OpenSpec.upto Rows.compilerReadsSpec).preRow enc Tryz.prog Tryz.f5 Rows.compilerReadsUptoRow.domain false Rows.compilerReadsUptoRow.laid) (((Rows.OpenSpec.upto Rows.compilerReadsSpec).at F).post enc Tryz.prog Tryz.f5 false true false false) := by
 obtain ⟨places,hx⟩ := zEo os enc
 exact zHG (C := Tryz.checked) (S := [3,4,30,9,24,33,92,22,31]) (tb := 4) (by kernel_rfl) started (by kernel_rfl) Tryz.func5
  (witness_row_at (enc := enc) (C := Tryz.checked) (s := Rows.OpenSpec.upto Rows.compilerReadsSpec) false (zBC os) #[.agg #[.slice none 0 0]] rfl (by kernel_rfl) (by kernel_rfl) (by kernel_rfl)
   (OpenSpec.preRow_of_cond 8 hx (by kernel_rfl) (fun k hk => by cases hk; kernel_rfl) (by kernel_rfl) (zE6 os)))
  rfl rfl rfl Tryz.underlying4 (fun ds h => by
   match ds,h with
   | [a],_ => rfl
   ) (by kernel_rfl) (by kernel_rfl) (by kernel_rfl) (by kernel_rfl) zE7 (zJp (laid := Rows.compilerReadsUptoRow.laid) (by kernel_rfl))
end Go.Proofs.YtbibhcmcjldhdaaGreatDoor
