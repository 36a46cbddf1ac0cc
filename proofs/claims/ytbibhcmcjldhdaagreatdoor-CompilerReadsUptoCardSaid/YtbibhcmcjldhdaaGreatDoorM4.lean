/- Parts,merged by a program (wip/tools/merge2.py): Ty1 Ty2 Ty3 Va1 Va2 Va3 Ty4 Ty5 Va4 Va5 Va6 Va7 Vb2 Mc1 Fl Lx1 Lx2 Lx3 Lx4 Lx5 Lx6 Mc2 Cp1 Ax28 Ax29 Bd1 Bd2 Ff Ax30 Fm Fm1 Ax37 Ax38 Ax39 Fm2 Mc3 Mc4 Mc5 Mc6 Mc7 Mc8 Mc9 Mc10 Mc10a Mc10b Mc10c. -/
import Derived.Test.YtbibhcmcjldhdaaGreatDoorM3
import Derived.KernelRfl
import Derived.Shelf.Strings.OnBuilder
import Derived.Test.YtbibhcmcjldhdaaGreatDoorChecked
import Derived.Shelf.Strings.Builder1
import Derived.RecoverIn
import Derived.Lib.ItoaNum
namespace Go.Proofs.YtbibhcmcjldhdaaGreatDoor
open Go Go.Ax
set_option maxRecDepth 100000
set_option linter.unusedSimpArgs false
set_option linter.unusedVariables false
set_option maxHeartbeats 4000000
abbrev zBm (k : FuncId) (args : List AV) (H : zA) (x : AV) : Prop := ACall Tryz.prog k args H fun y H' => y = x ∧ H' = H
structure Ty where
 k : Int
 len : Int
 rc : List UInt8
 deriving Inhabited,DecidableEq
structure Fd where
 name : List UInt8
 ty : Ty
 deriving Inhabited,DecidableEq
structure Rc where
 name : List UInt8
 fields : List Fd
 deriving Inhabited,DecidableEq
structure Vr where
 name : List UInt8
 ty : Ty
 slot : Int
 node : Int
 var_ : Bool
 loop_ : Bool
 deriving Inhabited,DecidableEq
def tyR (t : Ty) : List AV := [int t.k,int t.len,str t.rc]
def fdR (f : Fd) : List AV := [str f.name,int f.ty.k,int f.ty.len,str f.ty.rc]
def rcR (r : Rc) : List AV := [str r.name,.sl 4 (r.fields.map fdR)]
def big (n : Nat) : Prop := n ≤ 9223372036854775807
structure Ty.Ok (t : Ty) : Prop where
 k : zLN t.k
 len : zLN t.len
 rc : big t.rc.length
structure Fd.Ok (f : Fd) : Prop where
 name : big f.name.length
 ty : f.ty.Ok
structure Rc.Ok (r : Rc) : Prop where
 name : big r.name.length
 len : big r.fields.length
 fields : ∀ f ∈ r.fields,f.Ok
structure Vr.Ok (v : Vr) : Prop where
 name : big v.name.length
 ty : v.ty.Ok
 slot : zLN v.slot
 node : zLN v.node
def zNZ (rs : List Rc) (nm : List UInt8) : Option Nat := rs.findIdx? fun r => decide (r.name = nm)
theorem zIN (rs : List Rc) (p : Rc → Bool) (f : FuncId) (fa fb : List AV) (H : zA) (hl : (rs.length : Int) < 9223372036854775807) (hp : ∀ r,zBm f (fa ++ .agg (rcR r) :: fb) H (bool (p r))) :
  zBm 275 [.sl 2 (rs.map rcR),.fn (.func f) fa fb] H (int (zOY (rs.findIdx? p))) := by
 refine enter Tryz.func275 L275_ok (zY0 rfl) ?_
 simp -implicitDefEqProofs (disch := omega) only [L275,push_cast,↓reduceIte,Nat.reduceEqDiff,reduceCtorEq,Nat.reduceAdd,Nat.reduceSub,Nat.reduceMul,Nat.reduceLeDiff,Nat.reduceLT,Nat.reduceMod,Nat.reduceDiv,Int.reduceToNat,Int.reduceLT,Int.reduceLE,Int.reduceEq,Int.reduceAdd,Int.reduceSub,Int.reduceNeg,Int.reduceMul,zYW]
 refine zAd (fun (j : Nat) e' H' => e' 0 = .sl 2 (rs.map rcR) ∧ e' 1 = .fn (.func f) fa fb ∧ e' 7 = int rs.length ∧ e' 8 = int j ∧ H = H' ∧ j ≤ rs.length ∧ ∀ i,i < j → p (rs.getD i default) = false) (fun j => rs.length - j) 0 ?_ ?_
 ·exact ⟨rfl,rfl,rfl,rfl,rfl,zZm _,by simp⟩
 rintro j e' H' ⟨h0,h1,h7,h8,rfl,hj,hr⟩
 have hrow : ∀ r : Rc,(rcR r).take 2 = rcR r := fun r => rfl
 have hlen : ∀ r : Rc,(rcR r).length = 2 := fun r => rfl
 by_cases hlt : j < rs.length
 ·by_cases hf : p (rs.getD j default) = true
  ·repeat' (first | refine zY1 (by omega) ?_ | refine zC (hp _) ?_ | simp -implicitDefEqProofs (disch := omega) only [h0,h1,h7,h8,zN,hrow,hlen,hf,zS,push_cast,↓reduceIte,Nat.reduceEqDiff,reduceCtorEq,Nat.reduceAdd,Nat.reduceLeDiff,Int.reduceNeg])
   rw [show rs.findIdx? p = some j from zIU hlt hf hr]; rfl
  ·have hf' := zzaN.2 hf
   repeat' (first | refine zY1 (by omega) ?_ | refine zC (hp _) ?_ | simp -implicitDefEqProofs (disch := omega) only [h0,h1,h7,h8,zN,hrow,hlen,hf',zS,push_cast,↓reduceIte,Nat.reduceEqDiff,reduceCtorEq,Nat.reduceAdd,Nat.reduceLeDiff,Int.reduceNeg])
   exact .mk (j + 1) ⟨h0,h1,h7,rfl,rfl,hlt,zCv hr hf'⟩ (by omega)
 ·repeat' (simp -implicitDefEqProofs (disch := omega) only [h7,h8,zAQ,push_cast,↓reduceIte,Int.reduceNeg])
  rw [show rs.findIdx? p = none from zIV fun i hi => hr i (by omega)]; rfl
theorem zSa (r : Rc) (nm : List UInt8) (q : Nat) (H : zA) (hq : H[q]? = some (.box [str nm])) : zBm 276 [.agg (rcR r),.ptr q 0 0] H (bool (decide (r.name = nm))) := by
 refine ACall.drop (R := fun x => x = bool (decide (r.name = nm))) ?_
 refine enter Tryz.func276 L276_ok (zY0 rfl) ?_
 have hq' : ∀ l,(H ++ l)[q]? = some (.box [str nm]) := fun l => zE3 hq
 repeat' (simp -implicitDefEqProofs (disch := omega) only [L276,rcR,hq',push_cast,↓reduceIte,Nat.reduceEqDiff,reduceCtorEq,Nat.reduceAdd,Nat.reduceLeDiff,zYW])
 exact ⟨_,rfl⟩
def recV (rs : List Rc) (nm : List UInt8) : AV := match zNZ rs nm with
 | some i => .tup [.agg (rcR (rs.getD i default)),bool true]
 | none => .tup [.agg [str [],zAI],bool false]
theorem zMP (rs : List Rc) (nm : List UInt8) (H : zA) (hl : (rs.length : Int) < 9223372036854775807) : zBm 245 [.sl 2 (rs.map rcR),str nm] H (recV rs nm) := by
 refine ACall.drop (R := fun x => x = recV rs nm) ?_
 refine enter Tryz.func245 L245_ok (zY0 rfl) ?_
 have hc : ∀ r : Rc,zBm 276 [.agg (rcR r),.ptr H.length 0 0] (H ++ [.box [str nm],.box [str [],zAI]]) (bool (decide (r.name = nm))) := fun r => zSa r nm _ _ (by simp)
 have hrow : ∀ r : Rc,(rcR r).take 2 = rcR r := fun r => rfl
 have hlen : ∀ r : Rc,(rcR r).length = 2 := fun r => rfl
 cases hi : zNZ rs nm with
 | none =>
  have hi' : rs.findIdx? (fun r => decide (r.name = nm)) = none := hi
  repeat' (first | refine zC (zIN rs (fun r => decide (r.name = nm)) 276 [] [.ptr H.length 0 0] _ hl hc) ?_ | simp -implicitDefEqProofs (disch := omega) only [L245,hi',zOY,push_cast,↓reduceIte,Nat.reduceEqDiff,reduceCtorEq,Nat.reduceAdd,Nat.reduceLeDiff,Int.reduceLT,Int.reduceNeg,zYW])
  exact ⟨by unfold recV; rw [hi],_,rfl⟩
 | some i =>
  have hi' : rs.findIdx? (fun r => decide (r.name = nm)) = some i := hi
  have hlt := (zJT hi).1
  repeat' (first | refine zY1 (by omega) ?_ | refine zC (zIN rs (fun r => decide (r.name = nm)) 276 [] [.ptr H.length 0 0] _ hl hc) ?_ | simp -implicitDefEqProofs (disch := omega) only [L245,hi',zOY,zN,hrow,hlen,zAQ,push_cast,↓reduceIte,Nat.reduceEqDiff,reduceCtorEq,Nat.reduceAdd,Nat.reduceLeDiff,zYW])
  exact ⟨rfl,by unfold recV; rw [hi],rfl,_,rfl⟩
def tyI : Ty := ⟨1,0,[]⟩
def tyB : Ty := ⟨2,0,[]⟩
def scF (t : Ty) : Ty := if t.k = 2 then tyB else tyI
theorem zUm (t : Ty) (H : zA) : zBm 247 [.agg (tyR t)] H (.agg (tyR (scF t))) := by
 refine ACall.drop (R := fun x => x = .agg (tyR (scF t))) ?_
 refine enter Tryz.func247 L247_ok (zY0 rfl) ?_
 repeat' (first | simp -implicitDefEqProofs (disch := omega) only [L247,tyR,zAz,zAx,push_cast,↓reduceIte,Nat.reduceEqDiff,Nat.reduceAdd,Nat.reduceLeDiff,zYW] | split)
 ·rename_i h; exact ⟨by unfold scF; rw [if_pos h]; rfl,_,rfl⟩
 ·rename_i h; exact ⟨by unfold scF; rw [if_neg h]; rfl,_,rfl⟩
theorem shp1 (t : Ty) (rs : List Rc) (H : zA) : zBm 239 [.agg (tyR t),.sl 2 (rs.map rcR)] H (bool (decide (t.len = 0) && decide (t.rc = []))) := by
 refine ACall.drop (R := fun x => x = bool (decide (t.len = 0) && decide (t.rc = []))) ?_
 refine enter Tryz.func239 L239_ok (zY0 rfl) ?_
 repeat' (first | simp -implicitDefEqProofs (disch := omega) only [L239,tyR,zAz,zAx,push_cast,↓reduceIte,Nat.reduceEqDiff,Nat.reduceAdd,Nat.reduceLeDiff,zYW] | split)
 all_goals first | exact ⟨_,rfl⟩ | (refine ⟨?_,_,rfl⟩; simp_all)
theorem shp2 (t : Ty) (rs : List Rc) (H : zA) : zBm 240 [.agg (tyR t),.sl 2 (rs.map rcR)] H (.sl 3 [tyR ⟨t.k,0,[]⟩]) := by
 refine ACall.drop (R := fun x => x = .sl 3 [tyR ⟨t.k,0,[]⟩]) ?_
 refine enter Tryz.func240 L240_ok (zY0 rfl) ?_
 repeat' (simp -implicitDefEqProofs (disch := omega) only [L240,tyR,push_cast,↓reduceIte,Nat.reduceEqDiff,Nat.reduceAdd,Nat.reduceLeDiff,Nat.reduceLT,zYW])
 exact ⟨_,rfl⟩
theorem shp3 (t : Ty) (rs : List Rc) (H : zA) : zBm 241 [.agg (tyR t),.sl 2 (rs.map rcR)] H (bool (decide (1 ≤ t.len) && decide (t.len ≤ 8) && decide (t.rc = []))) := by
 refine ACall.drop (R := fun x => x = bool (decide (1 ≤ t.len) && decide (t.len ≤ 8) && decide (t.rc = []))) ?_
 refine enter Tryz.func241 L241_ok (zY0 rfl) ?_
 repeat' (first | simp -implicitDefEqProofs (disch := omega) only [L241,tyR,zAj,zAK,push_cast,↓reduceIte,Nat.reduceEqDiff,Nat.reduceAdd,Nat.reduceLeDiff,zYW] | split)
 all_goals first | exact ⟨_,rfl⟩ | (refine ⟨?_,_,rfl⟩; simp_all)
theorem shp5 (t : Ty) (rs : List Rc) (H : zA) (hl : (rs.length : Int) < 9223372036854775807) : zBm 244 [.agg (tyR t),.sl 2 (rs.map rcR)] H (bool (decide (t.len = 0) && (zNZ rs t.rc).isSome)) := by
 refine ACall.drop (R := fun x => x = bool (decide (t.len = 0) && (zNZ rs t.rc).isSome)) ?_
 refine enter Tryz.func244 L244_ok (zY0 rfl) ?_
 cases hi : zNZ rs t.rc with
 | none =>
  have hr : recV rs t.rc = .tup [.agg [str [],zAI],bool false] := by unfold recV; rw [hi]
  repeat' (first | refine zC (zMP _ _ _ hl) ?_ | simp -implicitDefEqProofs (disch := omega) only [L244,tyR,hr,zAz,zAx,push_cast,↓reduceIte,Nat.reduceEqDiff,reduceCtorEq,Nat.reduceAdd,Nat.reduceLeDiff,Nat.reduceLT,zYW] | split)
  all_goals first | exact ⟨_,rfl⟩ | (refine ⟨?_,_,rfl⟩; simp_all)
 | some i =>
  have hr : recV rs t.rc = .tup [.agg (rcR (rs.getD i default)),bool true] := by unfold recV; rw [hi]
  repeat' (first | refine zC (zMP _ _ _ hl) ?_ | simp -implicitDefEqProofs (disch := omega) only [L244,tyR,hr,rcR,zAz,zAx,push_cast,↓reduceIte,Nat.reduceEqDiff,reduceCtorEq,Nat.reduceAdd,Nat.reduceLeDiff,Nat.reduceLT,zYW] | split)
  all_goals first | exact ⟨_,rfl⟩ | (refine ⟨?_,_,rfl⟩; simp_all)
def scR (f : Fd) : List AV := tyR (scF f.ty)
theorem shp6 (t : Ty) (rs : List Rc) (i : Nat) (H : zA) (hl : (rs.length : Int) < 9223372036854775807) (hi : zNZ rs t.rc = some i) (hf : ∀ r ∈ rs,r.fields.length ≤ 20) :
  zBm 246 [.agg (tyR t),.sl 2 (rs.map rcR)] H (.sl 3 ((rs.getD i default).fields.map scR)) := by
 refine ACall.drop (R := fun x => x = .sl 3 ((rs.getD i default).fields.map scR)) ?_
 refine enter Tryz.func246 L246_ok (zY0 rfl) ?_
 have hr : recV rs t.rc = .tup [.agg (rcR (rs.getD i default)),bool true] := by unfold recV; rw [hi]
 have hlt := (zJT hi).1
 have h20 := hf _ (zAt hlt)
 generalize rs.getD i default = r at hr h20 ⊢
 repeat' (first | refine zC (zMP _ _ _ hl) ?_ | simp -implicitDefEqProofs (disch := omega) only [L246,tyR,hr,rcR,push_cast,↓reduceIte,Nat.reduceEqDiff,reduceCtorEq,Nat.reduceAdd,Nat.reduceLeDiff,Nat.reduceLT,zYW])
 refine zAd (fun (p : Nat × Nat × List HO) e' H' => e' 5 = .os (H.length + 1) p.2.1 0 p.1 ∧ e' 18 = .sl 4 (r.fields.map fdR) ∧ e' 19 = int r.fields.length ∧ e' 20 = int p.1 ∧ H' = H ++ .box (tyR t) :: .arr p.2.1 3 ((r.fields.take p.1).map scR) :: p.2.2 ∧ p.1 ≤ r.fields.length) (fun p => r.fields.length - p.1) (0,0,[.box (rcR r)]) ?_ ?_
 ·exact ⟨rfl,rfl,rfl,rfl,rfl,zZm _⟩
 rintro ⟨j,ver,rest⟩ e' H' ⟨h5,h18,h19,h20',rfl,hj⟩
 simp only at h5 h18 h19 h20' hj
 have hlen : ((r.fields.take j).map scR).length = j := by simp; omega
 by_cases hlt : j < r.fields.length
 ·have hsn : (r.fields.take j).map scR ++ [[int (scF (r.fields.getD j default).ty).k,int (scF (r.fields.getD j default).ty).len,str (scF (r.fields.getD j default).ty).rc]] = (r.fields.take (j + 1)).map scR := by rw [zBf hlt]; simp [scR,tyR]
  repeat' (first | refine zY1 (by omega) ?_ | refine zC (zUm (r.fields.getD j default).ty _) ?_ | simp -implicitDefEqProofs (disch := omega) only [h5,h18,h19,h20',zN,fdR,tyR,hlen,zFH _ (Nat.le_of_eq hlen),hsn,zS,push_cast,↓reduceIte,Nat.reduceEqDiff,reduceCtorEq,Nat.reduceAdd,Nat.reduceLeDiff,Nat.reduceLT,zYW])
  exact .mk (j + 1,ver + 1,rest ++ [_]) ⟨rfl,h18,h19,rfl,rfl,hlt⟩ (by simp only; omega)
 ·repeat' (first | refine zY1 ⟨by omega,zBA (fun _ => rfl) _⟩ ?_ | simp -implicitDefEqProofs (disch := omega) only [h5,h19,h20',hlen,zFH _ (Nat.le_of_eq hlen),zAQ,push_cast,↓reduceIte,Nat.reduceEqDiff])
  exact ⟨by rw [zFH _ (by omega)],_,rfl⟩
abbrev u64 (n : Int) : AV := .v (.int .u64 n)
theorem zYl (n : Nat) (h1 : 1 ≤ n) (h8 : n ≤ 8) (H : zA) : zBm 117 [u64 1,u64 n] H (.tup [u64 0,u64 n]) := by
 refine enter Tryz.func117 L117_ok (zY0 rfl) ?_
 have hn : n = 1 ∨ n = 2 ∨ n = 3 ∨ n = 4 ∨ n = 5 ∨ n = 6 ∨ n = 7 ∨ n = 8 := by omega
 rcases hn with rfl | rfl | rfl | rfl | rfl | rfl | rfl | rfl
 all_goals
  simp -implicitDefEqProofs (disch := omega) only [L117,push_cast,↓reduceIte,Nat.reduceEqDiff,reduceCtorEq,Nat.reduceAdd,Nat.reduceSub,Nat.reduceMul,Nat.reduceLeDiff,Nat.reduceLT,Nat.reduceMod,Nat.reduceDiv,Int.reduceToNat,Int.reduceLT,Int.reduceLE,Int.reduceEq,Int.reduceAdd,Int.reduceSub,Int.reduceNeg,Int.reduceMul,zYW]
  refine congrArg (fun n : Int => AV.tup [u64 n,_]) ?_
  decide +kernel
theorem mulC (n : Nat) (h1 : 1 ≤ n) (h8 : n ≤ 8) (H : zA) : zBm 62 [u64 1,u64 n] H (.tup [u64 0,u64 n]) := by
 refine enter Tryz.func62 L62_ok (zY0 rfl) ?_
 repeat' (first | refine zC (zYl n h1 h8 _) ?_ | simp -implicitDefEqProofs (disch := omega) only [L62,push_cast,↓reduceIte,Nat.reduceEqDiff,reduceCtorEq,Nat.reduceAdd,Nat.reduceLT])
theorem zPB {row : List AV} {xs : List (List AV)} {m n : Nat} (hl : xs.length = n) (hm : m ≤ n) (ht : xs.take m = List.replicate m row) :
  (xs.take m ++ (xs.take m).take (min m (n - m)) ++ xs.drop (m + min m (n - m))).length = n ∧ (xs.take m ++ (xs.take m).take (min m (n - m)) ++ xs.drop (m + min m (n - m))).take (m + min m (n - m)) = List.replicate (m + min m (n - m)) row := by
 refine ⟨by simp [hl]; omega,?_⟩
 rw [ht,List.take_replicate,show min (min m (n - m)) m = min m (n - m) by omega,List.replicate_append_replicate]
 rw [zzbu (by simp)]
theorem zR8 (t : Ty) (n : Nat) (h1 : 1 ≤ n) (h8 : n ≤ 8) (H : zA) : zBm 243 [.sl 3 [tyR t],int n] H (.sl 3 (List.replicate n (tyR t))) := by
 refine ACall.drop (R := fun x => x = .sl 3 (List.replicate n (tyR t))) ?_
 refine enter Tryz.func243 L243_ok (zY0 rfl) ?_
 have w1 : IntKind.u64.wrap 1 = 1 := by decide
 have w2 : IntKind.u64.wrap n = n := zK9 _ (by omega) (by omega)
 have hmin : min 1 n = 1 := by omega
 repeat' (first | refine zY1 (by omega) ?_ | refine zC (mulC n h1 h8 _) ?_ | simp -implicitDefEqProofs (disch := omega) only [L243,w1,w2,hmin,zAQ,push_cast,↓reduceIte,Nat.reduceEqDiff,reduceCtorEq,Nat.reduceAdd,Nat.reduceLT,Int.reduceLT,Int.reduceAdd])
 refine zAd (fun (p : Nat × List (List AV)) e' H' => e' 7 = .os H.length 0 0 n ∧ e' 8 = int p.1 ∧ H' = H ++ [.arr 0 3 p.2] ∧ 1 ≤ p.1 ∧ p.1 ≤ n ∧ p.2.length = n ∧ p.2.take p.1 = List.replicate p.1 (tyR t)) (fun p => n - p.1) (1,tyR t :: List.drop 1 (List.replicate n [int 0,int 0,str []])) ?_ ?_
 ·exact ⟨rfl,rfl,rfl,by omega,h1,by simp; omega,rfl⟩
 rintro ⟨m,xs⟩ e' H' ⟨h7,h8',rfl,hm1,hmn,hl,ht⟩
 simp only at h7 h8' hm1 hmn hl ht
 have hst := zPB hl hmn ht
 by_cases hlt : m < n
 ·have e1 : min (xs.take m).length (n - m) = min m (n - m) := by simp; omega
  rw [zZx] at hst
  repeat' (first | refine zY1 (by omega) ?_ | simp -implicitDefEqProofs (disch := omega) only [h7,h8',zNh,zJD,zZw,zzaK,e1,zS,push_cast,↓reduceIte,Nat.reduceEqDiff,Int.reduceToNat,Int.reduceLE])
  exact .mk (m + min m (n - m),_) ⟨h7,by simp [up],rfl,by simp only; omega,by simp only; omega,hst.1,hst.2⟩ (by simp only; omega)
 ·have hmn2 : m = n := by omega
  subst hmn2
  have hxs : xs = List.replicate m (tyR t) := by rw [← ht,zZu (by omega)]
  have hcr : zHa xs = true := by rw [hxs]; simp [zHa,tyR,clL,AV.cl]
  repeat' (first | refine zY1 (by omega) ?_ | simp -implicitDefEqProofs (disch := omega) only [h7,h8',hcr,zAQ,push_cast,↓reduceIte,Nat.reduceEqDiff])
  exact ⟨by rw [ht],_,rfl⟩
theorem shp4 (t : Ty) (rs : List Rc) (n : Nat) (hn : t.len = n) (h1 : 1 ≤ n) (h8 : n ≤ 8) (H : zA) : zBm 242 [.agg (tyR t),.sl 2 (rs.map rcR)] H (.sl 3 (List.replicate n (tyR tyI))) := by
 refine ACall.drop (R := fun x => x = .sl 3 (List.replicate n (tyR tyI))) ?_
 refine enter Tryz.func242 L242_ok (zY0 rfl) ?_
 repeat' (first | refine zC (zR8 tyI n h1 h8 _) ?_ | simp -implicitDefEqProofs (disch := omega) only [L242,tyR,hn,push_cast,↓reduceIte,Nat.reduceEqDiff,reduceCtorEq,Nat.reduceAdd,Nat.reduceLeDiff,Nat.reduceLT,zYW])
 exact ⟨_,rfl⟩
def zMI : List Value := [.int .i64 1,.int .i64 2,.int .i64 3,.int .i64 4]
def zPv : List AV := [.agg [.fn (.func 239) [] [],.fn (.func 240) [] []],.agg [.fn (.func 239) [] [],.fn (.func 240) [] []],.agg [.fn (.func 241) [] [],.fn (.func 242) [] []],.agg [.fn (.func 244) [] [],.fn (.func 246) [] []]]
theorem zEu (H : zA) : zBm 194 [] H (.mp zMI zPv) := by
 refine ACall.drop (R := fun x => x = .mp zMI zPv) ?_
 refine enter Tryz.func194 L194_ok (zY0 rfl) ?_
 repeat' (simp -implicitDefEqProofs (disch := omega) only [L194,push_cast,↓reduceIte,Nat.reduceEqDiff,Nat.reduceAdd,Nat.reduceLeDiff,zYW])
 simp [kEq,zMI,zPv]
theorem zDd (n : Int) : (∀ k' ∈ zMI,kCmp (.int .i64 n) k' = true) = True := by simp [zMI,kCmp]
theorem zUl : zFc (.int .i64 1) zMI zPv = some (.agg [.fn (.func 239) [] [],.fn (.func 240) [] []]) := rfl
theorem zUk : zFc (.int .i64 2) zMI zPv = some (.agg [.fn (.func 239) [] [],.fn (.func 240) [] []]) := rfl
theorem zUj : zFc (.int .i64 3) zMI zPv = some (.agg [.fn (.func 241) [] [],.fn (.func 242) [] []]) := rfl
theorem zUi : zFc (.int .i64 4) zMI zPv = some (.agg [.fn (.func 244) [] [],.fn (.func 246) [] []]) := rfl
theorem zUh {k : Int} (h : k ≠ 1 ∧ k ≠ 2 ∧ k ≠ 3 ∧ k ≠ 4) : zFc (.int .i64 k) zMI zPv = none := by
 simp [zFc,zMI,zPv,kEq,h]
def zBs (t : Ty) (rs : List Rc) : Bool :=
 if t.k = 1 ∨ t.k = 2 then decide (t.len = 0) && decide (t.rc = [])
 else if t.k = 3 then decide (1 ≤ t.len) && decide (t.len ≤ 8) && decide (t.rc = [])
 else if t.k = 4 then decide (t.len = 0) && (zNZ rs t.rc).isSome
 else false
theorem zMq (t : Ty) (rs : List Rc) (H : zA) (hl : (rs.length : Int) < 9223372036854775807) : zBm 193 [.agg (tyR t),.sl 2 (rs.map rcR)] H (bool (zBs t rs)) := by
 refine ACall.drop (R := fun x => x = bool (zBs t rs)) ?_
 refine enter Tryz.func193 L193_ok (zY0 rfl) ?_
 obtain ⟨k,len,rc⟩ := t
 have hk : k = 1 ∨ k = 2 ∨ k = 3 ∨ k = 4 ∨ (k ≠ 1 ∧ k ≠ 2 ∧ k ≠ 3 ∧ k ≠ 4) := by omega
 rcases hk with rfl | rfl | rfl | rfl | hk
 ·repeat' (first | refine zC (shp1 ⟨1,len,rc⟩ rs _) ?_ | refine zQ (zEu _) rfl ?_ | simp -implicitDefEqProofs (disch := omega) only [L193,tyR,zUl,zDd,lookV,push_cast,↓reduceIte,Nat.reduceEqDiff,reduceCtorEq,Nat.reduceAdd,Nat.reduceLeDiff,Nat.reduceLT,zYW])
  exact ⟨rfl,_,rfl⟩
 ·repeat' (first | refine zC (shp1 ⟨2,len,rc⟩ rs _) ?_ | refine zQ (zEu _) rfl ?_ | simp -implicitDefEqProofs (disch := omega) only [L193,tyR,zUk,zDd,lookV,push_cast,↓reduceIte,Nat.reduceEqDiff,reduceCtorEq,Nat.reduceAdd,Nat.reduceLeDiff,Nat.reduceLT,zYW])
  exact ⟨rfl,_,rfl⟩
 ·repeat' (first | refine zC (shp3 ⟨3,len,rc⟩ rs _) ?_ | refine zQ (zEu _) rfl ?_ | simp -implicitDefEqProofs (disch := omega) only [L193,tyR,zUj,zDd,lookV,push_cast,↓reduceIte,Nat.reduceEqDiff,reduceCtorEq,Nat.reduceAdd,Nat.reduceLeDiff,Nat.reduceLT,zYW])
  exact ⟨rfl,_,rfl⟩
 ·repeat' (first | refine zC (shp5 ⟨4,len,rc⟩ rs _ hl) ?_ | refine zQ (zEu _) rfl ?_ | simp -implicitDefEqProofs (disch := omega) only [L193,tyR,zUi,zDd,lookV,push_cast,↓reduceIte,Nat.reduceEqDiff,reduceCtorEq,Nat.reduceAdd,Nat.reduceLeDiff,Nat.reduceLT,zYW])
  exact ⟨rfl,_,rfl⟩
 ·repeat' (first | refine zQ (zEu _) rfl ?_ | simp -implicitDefEqProofs (disch := omega) only [L193,tyR,zUh hk,zDd,lookV,push_cast,↓reduceIte,Nat.reduceEqDiff,Nat.reduceAdd,Nat.reduceLeDiff,Nat.reduceLT,zYW])
  exact ⟨by simp [zBs,hk],_,rfl⟩
def zBU (rs : List Rc) (t : Ty) : List Ty :=
 if t.k = 3 then List.replicate t.len.toNat tyI
 else if t.k = 4 then (match zNZ rs t.rc with | some i => (rs.getD i default).fields.map fun f => scF f.ty | none => [])
 else [⟨t.k,0,[]⟩]
def zGs (rs : List Rc) (l : List Ty) : AV := if l.all (fun t => zBs t rs) = true then .sl 3 ((l.flatMap (zBU rs)).map tyR) else zAI
structure Few (rs : List Rc) : Prop where
 len : rs.length ≤ 20
 fields : ∀ r ∈ rs,r.fields.length ≤ 20
theorem zIp {rs : List Rc} {t : Ty} (hf : Few rs) (hv : zBs t rs = true) : (zBU rs t).length ≤ 20 := by
 unfold zBU
 split
 ·rename_i h
  unfold zBs at hv
  rw [if_neg (by omega),if_pos h] at hv
  simp at hv
  simp; omega
 ·split
  ·split
   ·rename_i i hi
    simpa using hf.fields _ (zAt (zJT hi).1)
   ·simp
  ·simp
theorem zJh {t : Ty} {rs : List Rc} (hv : zBs t rs = true) : t.k = 1 ∨ t.k = 2 ∨ (t.k = 3 ∧ 1 ≤ t.len ∧ t.len ≤ 8) ∨ (t.k = 4 ∧ ∃ i,zNZ rs t.rc = some i) := by
 unfold zBs at hv
 split at hv
 ·omega
 ·split at hv
  ·simp at hv; omega
  ·split at hv
   ·simp at hv
    obtain ⟨_,h⟩ := hv
    cases hi : zNZ rs t.rc with
    | none => rw [hi] at h; simp at h
    | some i => exact .inr (.inr (.inr ⟨‹_›,i,rfl⟩))
   ·simp at hv
theorem zN6 {rs : List Rc} {l : List Ty} {j : Nat} (h : j < l.length) : ((l.take j).flatMap (zBU rs)).map tyR ++ (zBU rs (l.getD j default)).map tyR = ((l.take (j + 1)).flatMap (zBU rs)).map tyR := by
 rw [zBf h]; simp
theorem zKT {rs : List Rc} (hf : Few rs) : ∀ {l : List Ty},(∀ t ∈ l,zBs t rs = true) → (l.flatMap (zBU rs)).length ≤ 20 * l.length
 | [],_ => by simp
 | t :: l,h => by
  have h1 := zIp hf (h t (by simp))
  have h2 := zKT hf (l := l) fun t ht => h t (by simp [ht])
  simp only [List.flatMap_cons,zY3,zYZ]; omega
theorem zK4 {α : Type} [Inhabited α] {l : List α} {p : α → Prop} {j : Nat} (h : ∀ i,i < j → p (l.getD i default)) (hj : j ≤ l.length) : ∀ t ∈ l.take j,p t := by
 intro t ht
 obtain ⟨i,hi,rfl⟩ := zZY.1 ht
 have := h i (by simp at hi; omega)
 simp at hi
 simpa [zZd,show i < l.length by omega] using this
theorem zPy {rs : List Rc} {l : List Ty} {j : Nat} (hj : j < l.length) (h : zBs (l.getD j default) rs = false) : zGs rs l = zAI := by
 unfold zGs
 rw [if_neg]
 intro hh
 rw [zZb] at hh
 rw [hh _ (zAt hj)] at h
 cases h
theorem zMK {rs : List Rc} {l : List Ty} (h : ∀ i,i < l.length → zBs (l.getD i default) rs = true) : zGs rs l = .sl 3 ((l.flatMap (zBU rs)).map tyR) := by
 unfold zGs
 rw [if_pos]
 rw [zZb]
 intro t ht
 have := zK4 (p := fun t => zBs t rs = true) h (zZa _) t (by rw [zzaF]; exact ht)
 exact this
theorem zMJ (rs : List Rc) (l : List Ty) (H : zA) (hf : Few rs) (hl : l.length ≤ 20) : zBm 155 [.sl 2 (rs.map rcR),.sl 3 (l.map tyR)] H (zGs rs l) := by
 refine ACall.drop (R := fun x => x = zGs rs l) ?_
 refine enter Tryz.func155 L155_ok (zY0 rfl) ?_
 have hrl := hf.len
 repeat' (simp -implicitDefEqProofs (disch := omega) only [L155,push_cast,↓reduceIte,Nat.reduceEqDiff,reduceCtorEq,Nat.reduceAdd,Nat.reduceLT])
 refine zAd (fun (p : Nat × Nat × List HO) e' H' => e' 0 = .sl 2 (rs.map rcR) ∧ e' 5 = .os H.length p.2.1 0 ((l.take p.1).flatMap (zBU rs)).length ∧ e' 8 = .sl 3 (l.map tyR) ∧ e' 9 = int l.length ∧ e' 10 = int p.1 ∧ H' = H ++ .arr p.2.1 3 (((l.take p.1).flatMap (zBU rs)).map tyR) :: p.2.2 ∧ p.1 ≤ l.length ∧ ∀ i,i < p.1 → zBs (l.getD i default) rs = true) (fun p => l.length - p.1) (0,0,[]) ?_ ?_
 ·exact ⟨rfl,rfl,rfl,rfl,rfl,rfl,zZm _,by simp⟩
 rintro ⟨j,ver,rest⟩ e' H' ⟨h0,h5,h8,h9,h10,rfl,hj,hv⟩
 simp only at h0 h5 h8 h9 h10 hj hv
 have hlen := zKT hf (zK4 (p := fun t => zBs t rs = true) hv hj)
 have hl0 : (l.take j).length = j := by simp; omega
 by_cases hlt : j < l.length
 ·have hft := zN6 (rs := rs) hlt
  by_cases hvj : zBs (l.getD j default) rs = true
  ·have hlen1 := zIp hf hvj
   have hall := zCv (p := fun i => zBs (l.getD i default) rs = true) hv hvj
   have hk := zJh hvj
   generalize hte : l.getD j default = t at hft hvj hk hlen1
   obtain ⟨k,len,rc⟩ := t
   simp only at hk
   rcases hk with rfl | rfl | ⟨rfl,hk1,hk2⟩ | ⟨rfl,i,hi⟩
   ·have hs : (zBU rs ⟨1,len,rc⟩).map tyR = [[int 1,int 0,str []]] := by rfl
    rw [hs] at hft
    have hfl : ((l.take j).flatMap (zBU rs)).length + 1 = ((l.take (j + 1)).flatMap (zBU rs)).length := by have := congrArg List.length hft; simpa using this
    have hb : 1 ≤ 20 := by have := congrArg List.length hs; simp only [zYV] at this; omega
    repeat' (first | refine zY1 (by omega) ?_ | refine zC (zMq ⟨1,len,rc⟩ rs _ (by omega)) ?_ | refine zQ (zEu _) rfl ?_ | refine zQ (shp2 ⟨1,len,rc⟩ rs _) rfl ?_ | simp -implicitDefEqProofs (disch := omega) only [h0,h5,h8,h9,h10,zN,hte,tyR,hvj,zUl,zDd,lookV,hft,zS,push_cast,↓reduceIte,Nat.reduceEqDiff,reduceCtorEq,Nat.reduceAdd,Nat.reduceLeDiff,zYW])
    exact .mk (j + 1,ver + 1,rest ++ [_]) ⟨h0,by rw [← hfl]; rfl,h8,h9,rfl,rfl,hlt,hall⟩ (by simp only; omega)
   ·have hs : (zBU rs ⟨2,len,rc⟩).map tyR = [[int 2,int 0,str []]] := by rfl
    rw [hs] at hft
    have hfl : ((l.take j).flatMap (zBU rs)).length + 1 = ((l.take (j + 1)).flatMap (zBU rs)).length := by have := congrArg List.length hft; simpa using this
    have hb : 1 ≤ 20 := by have := congrArg List.length hs; simp only [zYV] at this; omega
    repeat' (first | refine zY1 (by omega) ?_ | refine zC (zMq ⟨2,len,rc⟩ rs _ (by omega)) ?_ | refine zQ (zEu _) rfl ?_ | refine zQ (shp2 ⟨2,len,rc⟩ rs _) rfl ?_ | simp -implicitDefEqProofs (disch := omega) only [h0,h5,h8,h9,h10,zN,hte,tyR,hvj,zUk,zDd,lookV,hft,zS,push_cast,↓reduceIte,Nat.reduceEqDiff,reduceCtorEq,Nat.reduceAdd,Nat.reduceLeDiff,zYW])
    exact .mk (j + 1,ver + 1,rest ++ [_]) ⟨h0,by rw [← hfl]; rfl,h8,h9,rfl,rfl,hlt,hall⟩ (by simp only; omega)
   ·obtain ⟨n,hn⟩ : ∃ n : Nat,len = n := ⟨len.toNat,by omega⟩
    have hs : (zBU rs ⟨3,len,rc⟩).map tyR = List.replicate n [int tyI.k,int tyI.len,str tyI.rc] := by simp [zBU,hn,tyR]
    rw [hs] at hft
    have hfl : ((l.take j).flatMap (zBU rs)).length + n = ((l.take (j + 1)).flatMap (zBU rs)).length := by have := congrArg List.length hft; simpa using this
    have hb : n ≤ 20 := by have := congrArg List.length hs; simp only [zYV] at this; omega
    repeat' (first | refine zY1 (by omega) ?_ | refine zC (zMq ⟨3,len,rc⟩ rs _ (by omega)) ?_ | refine zQ (zEu _) rfl ?_ | refine zQ (shp4 ⟨3,len,rc⟩ rs n hn (by omega) (by omega) _) rfl ?_ | simp -implicitDefEqProofs (disch := omega) only [h0,h5,h8,h9,h10,zN,hte,tyR,hvj,zUj,zDd,lookV,hft,List.length_replicate,zS,push_cast,↓reduceIte,Nat.reduceEqDiff,reduceCtorEq,Nat.reduceAdd,Nat.reduceLeDiff,zYW])
    exact .mk (j + 1,ver + 1,rest ++ [_]) ⟨h0,by rw [← hfl]; rfl,h8,h9,rfl,rfl,hlt,hall⟩ (by simp only; omega)
   ·have hs : (zBU rs ⟨4,len,rc⟩).map tyR = (rs.getD i default).fields.map scR := by simp [zBU,show zNZ rs rc = some i from hi,scR]
    rw [hs] at hft
    have hfl : ((l.take j).flatMap (zBU rs)).length + (rs.getD i default).fields.length = ((l.take (j + 1)).flatMap (zBU rs)).length := by have := congrArg List.length hft; simpa using this
    have hb : (rs.getD i default).fields.length ≤ 20 := by have := congrArg List.length hs; simp only [zYV] at this; omega
    repeat' (first | refine zY1 (by omega) ?_ | refine zC (zMq ⟨4,len,rc⟩ rs _ (by omega)) ?_ | refine zQ (zEu _) rfl ?_ | refine zQ (shp6 ⟨4,len,rc⟩ rs i _ (by omega) hi hf.fields) rfl ?_ | simp -implicitDefEqProofs (disch := omega) only [h0,h5,h8,h9,h10,zN,hte,tyR,hvj,zUi,zDd,lookV,hft,zS,push_cast,↓reduceIte,Nat.reduceEqDiff,reduceCtorEq,Nat.reduceAdd,Nat.reduceLeDiff,zYW])
    exact .mk (j + 1,ver + 1,rest ++ [_]) ⟨h0,by rw [← hfl]; rfl,h8,h9,rfl,rfl,hlt,hall⟩ (by simp only; omega)
  ·have hvj' := zzaN.2 hvj
   rw [zPy hlt hvj']
   repeat' (first | refine zY1 (by omega) ?_ | refine zC (zMq (l.getD j default) rs _ (by omega)) ?_ | simp -implicitDefEqProofs (disch := omega) only [h0,h8,h9,h10,zN,tyR,hvj',zS,push_cast,↓reduceIte,Nat.reduceEqDiff,reduceCtorEq,Nat.reduceAdd,Nat.reduceLeDiff,zYW])
   exact ⟨_,rfl⟩
 ·rw [zMK fun i hi => hv i (by omega)]
  repeat' (first | refine zY1 ⟨by omega,zBA (fun _ => rfl) _⟩ ?_ | simp -implicitDefEqProofs (disch := omega) only [h5,h9,h10,zAQ,push_cast,↓reduceIte,Nat.reduceEqDiff])
  exact ⟨by rw [zFH l (by omega)],_,rfl⟩
def wOk (w : Int) : Prop := 2 ≤ w ∧ w ≤ 8
instance (w : Int) : Decidable (wOk w) := inferInstanceAs (Decidable (_ ∧ _))
def hf (w : Int) : Int := 2 ^ (w.toNat - 1)
def leF (w : Int) : Int := if wOk w then -hf w else 0
def grF (w : Int) : Int := if wOk w then hf w - 1 else 0
theorem zRr {w : Int} (h : wOk w) : w = 2 ∨ w = 3 ∨ w = 4 ∨ w = 5 ∨ w = 6 ∨ w = 7 ∨ w = 8 := by unfold wOk at h; omega
def inI (w n : Int) : Prop := leF w ≤ n ∧ n ≤ grF w
instance (w n : Int) : Decidable (inI w n) := inferInstanceAs (Decidable (_ ∧ _))
def isB (n : Int) : Prop := n = 0 ∨ n = 1
instance (n : Int) : Decidable (isB n) := inferInstanceAs (Decidable (_ ∨ _))
section
variable {w a b : Int} {o : List UInt8} {k : FuncId}
end
def zLq (rs : List Rc) (t : Ty) : Nat := if zBs t rs = true then (zBU rs t).length else 0
theorem zPu {rs : List Rc} {t : Ty} (h : zBs t rs = false) : zLq rs t = 0 := by unfold zLq; rw [h]; rfl
theorem zMH {rs : List Rc} {t : Ty} (h : zBs t rs = true) : zLq rs t = (zBU rs t).length := by unfold zLq; rw [h]; rfl
theorem zRX {rs : List Rc} {t : Ty} (h : zBs t rs = true) : zGs rs [t] = .sl 3 ((zBU rs t).map tyR) := by simp [zGs,h]
theorem zRY {rs : List Rc} {t : Ty} (h : zBs t rs = false) : zGs rs [t] = zAI := by simp [zGs,h]
theorem size (t : Ty) (rs : List Rc) (H : zA) (hf : Few rs) : zBm 105 [.agg (tyR t),.sl 2 (rs.map rcR)] H (int (zLq rs t)) := by
 refine ACall.drop (R := fun x => x = int (zLq rs t)) ?_
 refine enter Tryz.func105 L105_ok (zY0 rfl) ?_
 cases hv : zBs t rs with
 | true =>
  repeat' (first | refine zC (zMJ rs [t] _ hf (by simp)) ?_ | simp -implicitDefEqProofs (disch := omega) only [L105,tyR,zRX hv,zMH hv,push_cast,↓reduceIte,Nat.reduceEqDiff,reduceCtorEq,Nat.reduceAdd,Nat.reduceLeDiff,Nat.reduceLT,zYW])
  exact ⟨_,rfl⟩
 | false =>
  repeat' (first | refine zC (zMJ rs [t] _ hf (by simp)) ?_ | simp -implicitDefEqProofs (disch := omega) only [L105,tyR,zRY hv,zPu hv,push_cast,↓reduceIte,Nat.reduceEqDiff,reduceCtorEq,Nat.reduceAdd,Nat.reduceLeDiff,Nat.reduceLT,zYW])
  exact ⟨_,rfl⟩
section
variable {w a : Int} {o : List UInt8}
end
def iR (n : Int) : List AV := [int n]
def zT6 (low high l : List Int) : Prop := low.length = l.length ∧ high.length = l.length ∧ ∀ i,i < l.length → low.getD i default ≤ l.getD i default ∧ l.getD i default ≤ high.getD i default
instance (low high l : List Int) : Decidable (zT6 low high l) := inferInstanceAs (Decidable (_ ∧ _ ∧ _))
def nextA : Option (List Int) → AV
 | some l => .tup [.sl 1 (l.map iR),bool true]
 | none => .tup [zAI,bool false]
def sR (x : List UInt8) : List AV := [str x]
section
variable {w : Int}
theorem hf_pos (hw : wOk w) : 2 ≤ hf w ∧ hf w ≤ 128 := by
 rcases zRr hw with rfl | rfl | rfl | rfl | rfl | rfl | rfl <;> simp [hf]
theorem zYx (hw : wOk w) (n : Int) : inI w n ↔ -hf w ≤ n ∧ n < hf w := by
 unfold inI leF grF
 rw [if_pos hw,if_pos hw]
 omega
variable {a b : Int}
end
inductive Ins where
 | mk (op a b : Int) (body els : List Ins)
instance : Inhabited Ins := ⟨.mk 0 0 0 [] []⟩
def Ins.op : Ins → Int | .mk o _ _ _ _ => o
def Ins.a : Ins → Int | .mk _ a _ _ _ => a
def Ins.b : Ins → Int | .mk _ _ b _ _ => b
def Ins.body : Ins → List Ins | .mk _ _ _ l _ => l
def Ins.els : Ins → List Ins | .mk _ _ _ _ l => l
mutual
def zAp : Ins → List AV
 | .mk o a b l m => [int o,int a,int b,.sl 5 (zBu l),.sl 5 (zBu m)]
def zBu : List Ins → List (List AV)
 | [] => []
 | x :: l => zAp x :: zBu l
end
theorem zAc : ∀ l : List Ins,zBu l = l.map zAp
 | [] => rfl
 | x :: l => by simp [zBu,zAc l]
theorem zHK (x : Ins) : zAp x = [int x.op,int x.a,int x.b,.sl 5 (x.body.map zAp),.sl 5 (x.els.map zAp)] := by
 cases x; simp [zAp,zAc,Ins.op,Ins.a,Ins.b,Ins.body,Ins.els]
mutual
def zBa : Ins → Nat
 | .mk _ _ _ l m => zL l + zL m + 1
def zL : List Ins → Nat
 | [] => 0
 | x :: l => zBa x + zL l
end
mutual
def zCN : Ins → Nat
 | .mk _ _ _ l m => max (zAE l) (zAE m) + 1
def zAE : List Ins → Nat
 | [] => 0
 | x :: l => max (zCN x) (zAE l)
end
theorem zE2 (x : Ins) : zBa x = zL x.body + zL x.els + 1 := by cases x; rfl
theorem zSH (x : Ins) : zCN x = max (zAE x.body) (zAE x.els) + 1 := by cases x; rfl
theorem zHL (x : Ins) : 0 < zBa x := by rw [zE2]; omega
theorem zDI : ∀ a b : List Ins,zL (a ++ b) = zL a + zL b
 | [],b => by simp [zL]
 | x :: a,b => by simp only [zY9,zL,zDI a b]; omega
theorem zDH : ∀ a b : List Ins,zAE (a ++ b) = max (zAE a) (zAE b)
 | [],b => by simp [zAE]
 | x :: a,b => by simp only [zY9,zAE,zDH a b]; omega
theorem zC4 {x : Ins} : ∀ {l : List Ins},x ∈ l → zBa x ≤ zL l
 | y :: l,h => by
  simp only [zL]
  rcases zZr.1 h with rfl | h
  ·omega
  ·have := zC4 h; omega
theorem zM : ∀ l : List Ins,l.length ≤ zL l
 | [] => by simp
 | x :: l => by have := zM l; have := zHL x; simp only [zL,zYZ]; omega
mutual
theorem zSG : ∀ x : Ins,zCN x ≤ zBa x
 | .mk _ _ _ l m => by simp only [zCN,zBa]; have := zX l; have := zX m; omega
theorem zX : ∀ l : List Ins,zAE l ≤ zL l
 | [] => zZa _
 | x :: l => by simp only [zAE,zL]; have := zSG x; have := zX l; omega
end
theorem zAl {l : List Ins} {j : Nat} (h : j < l.length) : zL (l.take (j + 1)) = zL (l.take j) + zBa (l.getD j default) := by
 rw [zBf h,zDI]; simp [zL]
theorem zAC {l : List Ins} {j : Nat} (h : j < l.length) : zAE (l.take (j + 1)) = max (zAE (l.take j)) (zCN (l.getD j default)) := by
 rw [zBf h,zDH]; simp [zAE]
theorem zAs (l : List Ins) (j : Nat) : zL (l.take j) ≤ zL l := by
 have h := zDI (l.take j) (l.drop j)
 rw [zZ7] at h
 omega
theorem Ins.ind {p : Ins → Prop} (h : ∀ x,(∀ y ∈ x.body,p y) → (∀ y ∈ x.els,p y) → p x) (x : Ins) : p x := by
 have aux : ∀ (c : Nat) (x : Ins),zBa x ≤ c → p x := by
  intro c
  induction c with
  | zero => intro x hx; have := zHL x; omega
  | succ c ih =>
   intro x hx
   rw [zE2] at hx
   exact h x (fun y hy => ih y (by have := zC4 hy; omega)) (fun y hy => ih y (by have := zC4 hy; omega))
 exact aux _ x (zZa _)
theorem Ins.indL {p : List Ins → Prop} (h : ∀ l,(∀ x ∈ l,p x.body ∧ p x.els) → p l) (l : List Ins) : p l := by
 have aux : ∀ (c : Nat) (l : List Ins),zL l ≤ c → p l := by
  intro c
  induction c with
  | zero =>
   intro l hl
   refine h l fun x hx => ?_
   have := zC4 hx; have := zHL x; omega
  | succ c ih =>
   intro l hl
   refine h l fun x hx => ?_
   have h1 := zC4 hx
   rw [zE2] at h1
   exact ⟨ih _ (by omega),ih _ (by omega)⟩
 exact aux _ l (zZa _)
structure Pr where
 name : List UInt8
 par : Int
 slots : Int
 res : Int
 outs : List Int
 body : List Ins
instance : Inhabited Pr := ⟨⟨[],0,0,0,[],[]⟩⟩
def prR (q : Pr) : List AV := [str q.name,int q.par,int q.slots,int q.res,.sl 1 (q.outs.map iR),.sl 5 (q.body.map zAp)]
abbrev zAU (ps : List Pr) : AV := .sl 6 (ps.map prR)
theorem zDq {r : List AV} : ∀ {l : List (List AV)},r ∈ l → zBy r ≤ zAV l
 | x :: l,h => by
  simp only [zAV]
  rcases zZr.1 h with rfl | h
  ·omega
  ·have := zDq h; omega
theorem zEH (i : Int) : AV.bulk (int i) = 1 := by simp [AV.bulk]
theorem zOB (l : List UInt8) : AV.bulk (str l) = l.length + 1 := by simp [AV.bulk,mkS,ByteArray.size]
theorem zFE (k : Nat) (rows : List (List AV)) : AV.bulk (.sl k rows) = zAV rows + 1 := by simp [AV.bulk]
theorem zQs (x : Ins) : zBy (zAp x) = zAV (x.body.map zAp) + zAV (x.els.map zAp) + 5 := by
 rw [zHK]
 simp only [zBy,zEH,zFE]
 omega
mutual
theorem zN0 : ∀ x : Ins,zBa x ≤ zBy (zAp x)
 | .mk _ _ _ l m => by
  rw [zQs]
  have := zDZ l
  have := zDZ m
  simp only [zBa,Ins.body,Ins.els]
  omega
theorem zDZ : ∀ l : List Ins,zL l ≤ zAV (l.map zAp)
 | [] => zZa _
 | x :: l => by
  simp only [zL,zZG,zAV]
  have := zN0 x
  have := zDZ l
  omega
end
theorem zHd : ∀ l : List Int,zAV (l.map iR) = l.length
 | [] => rfl
 | x :: l => by simp only [zZG,zAV,iR,zBy,zEH,zHd l,zYZ]; omega
theorem zOA (q : Pr) : q.name.length + q.outs.length + zL q.body + 6 ≤ zBy (prR q) := by
 have := zDZ q.body
 simp only [prR,zBy,zEH,zOB,zFE,zHd]
 omega
def zAO : List Pr → Nat
 | [] => 0
 | q :: l => zL q.body + zAO l
theorem zDC : ∀ a b : List Pr,zAO (a ++ b) = zAO a + zAO b
 | [],b => by simp [zAO]
 | x :: a,b => by simp only [zY9,zAO,zDC a b]; omega
theorem zCW {l : List Pr} {j : Nat} (h : j < l.length) : zAO (l.take (j + 1)) = zAO (l.take j) + zL (l.getD j default).body := by
 rw [zBf h,zDC]; simp [zAO]
theorem zEU (l : List Pr) (j : Nat) : zAO (l.take j) ≤ zAO l := by
 have h := zDC (l.take j) (l.drop j)
 rw [zZ7] at h
 omega
structure Pr.Sml (q : Pr) : Prop where
 nm : q.name.length ≤ 1048576
 os : q.outs.length ≤ 1048576
 bd : zL q.body ≤ 1048576
structure zCU (ps : List Pr) : Prop where
 len : ps.length ≤ 1048576
 cnt : zAO ps ≤ 1048576
 each : ∀ q ∈ ps,q.Sml
theorem zS2 : ∀ (ps : List Pr) {b : Nat},zAV (ps.map prR) ≤ b → b ≤ 1048576 → zCU ps := by
 intro ps b hb hb'
 have aux : ∀ ps : List Pr,ps.length + zAO ps ≤ zAV (ps.map prR) := by
  intro ps
  induction ps with
  | nil => simp [zAO]
  | cons q ps ih =>
   have := zOA q
   simp only [zYZ,zAO,zZG,zAV]
   omega
 have h := aux ps
 refine ⟨by omega,by omega,fun q hq => ?_⟩
 have h1 := zDq (List.mem_map_of_mem (f := prR) hq)
 have h2 := zOA q
 exact ⟨by omega,by omega,by omega⟩
inductive Ins.Ok : Ins → Prop
 | mk {x : Ins} : zLN x.op → zLN x.a → zLN x.b → (∀ y ∈ x.body,Ins.Ok y) → (∀ y ∈ x.els,Ins.Ok y) → x.Ok
structure Pr.Ok (q : Pr) : Prop where
 par : zLN q.par
 slots : zLN q.slots
 res : zLN q.res
 outs : ∀ n ∈ q.outs,zLN n
 body : ∀ x ∈ q.body,x.Ok
theorem zOy : Tryz.prog.cellsOf 92 = 5 := by kernel_rfl
theorem zOx : Tryz.prog.cellsOf 31 = 1 := by kernel_rfl
theorem zS8 : Tryz.prog.cellsOf 30 = 1 := by kernel_rfl
theorem zGj : Tryz.prog.cellsOf 3 = 1 := by kernel_rfl
theorem zVX : Tryz.prog.cellsOf 9 = 1 := by kernel_rfl
theorem c_pr : Tryz.prog.cellsOf 33 = 6 := by kernel_rfl
theorem zYG : Tryz.prog.cellsOf 22 = 1 := by kernel_rfl
theorem zVY : Tryz.prog.cellsOf 24 = 1 := by kernel_rfl
theorem zHt {α : Type} {enc : α → List AV} {ok : α → Prop} {rows : List (List AV)} (h : ∀ r ∈ rows,∃ a,r = enc a ∧ ok a) : ∃ l : List α,rows = l.map enc ∧ ∀ a ∈ l,ok a := by
 induction rows with
 | nil => exact ⟨[],rfl,by simp⟩
 | cons x rows ih =>
  obtain ⟨a,rfl,ha⟩ := h x (by simp)
  obtain ⟨l,rfl,hl⟩ := ih fun y hy => h y (by simp [hy])
  exact ⟨a :: l,rfl,by simp only [zZr,forall_eq_or_imp]; exact ⟨ha,hl⟩⟩
theorem zPN : ∀ (b : Nat) {xs : List AV},zBy xs ≤ b → Val Tryz.prog 92 xs → ∃ x : Ins,xs = zAp x ∧ x.Ok := by
 intro b
 induction b with
 | zero =>
  intro xs hb h
  obtain ⟨hl,hf⟩ := zKb Tryz.underlying92 zOy h
  match xs,hl with
  | x :: l,_ =>
   simp only [zBy] at hb
   cases x with
   | v v => cases v <;> simp [AV.bulk] at hb
   | _ => simp [AV.bulk] at hb
 | succ b ih =>
  intro xs hb h
  obtain ⟨hl,hf⟩ := zKb Tryz.underlying92 zOy h
  obtain ⟨x0,x1,x2,x3,x4,rfl⟩ : ∃ a b c d e,xs = [a,b,c,d,e] := by
   match xs,hl with
   | [a,b,c,d,e],_ => exact ⟨a,b,c,d,e,rfl⟩
  obtain ⟨x,hx,hx'⟩ := zEf Tryz.underlying3 (zCh hf 0 3 0 1 rfl zGj)
  obtain ⟨y,hy,hy'⟩ := zEf Tryz.underlying3 (zCh hf 1 3 1 1 rfl zGj)
  obtain ⟨z,hz,hz'⟩ := zEf Tryz.underlying3 (zCh hf 2 3 2 1 rfl zGj)
  obtain ⟨r1,hr1,hr1',hrows1⟩ := zIa Tryz.underlying31 zOy (zCh hf 3 31 3 1 rfl zOx)
  obtain ⟨r2,hr2,hr2',hrows2⟩ := zIa Tryz.underlying31 zOy (zCh hf 4 31 4 1 rfl zOx)
  simp only [zzaR,zzal,zzaS,zzay,zzbv,and_true] at hx hy hz hr1 hr2
  subst hx; subst hy; subst hz; subst hr1; subst hr2
  have hbr : zAV r1 ≤ b ∧ zAV r2 ≤ b := by simp only [zBy,zEH,zFE] at hb; omega
  obtain ⟨l1,rfl,hok1⟩ := zHt (enc := zAp) (ok := Ins.Ok) fun r hr => ih (zZ3 (zDq hr) hbr.1) (hrows1 r hr)
  obtain ⟨l2,rfl,hok2⟩ := zHt (enc := zAp) (ok := Ins.Ok) fun r hr => ih (zZ3 (zDq hr) hbr.2) (hrows2 r hr)
  exact ⟨.mk x y z l1 l2,by simp [zAp,zAc],.mk hx' hy' hz' hok1 hok2⟩
theorem zSl {xs : List AV} (h : Val Tryz.prog 33 xs) : ∃ q : Pr,xs = prR q ∧ q.Ok := by
 obtain ⟨hl,hf⟩ := zKb Tryz.underlying33 c_pr h
 obtain ⟨x0,x1,x2,x3,x4,x5,rfl⟩ : ∃ a b c d e f,xs = [a,b,c,d,e,f] := by
  match xs,hl with
  | [a,b,c,d,e,f],_ => exact ⟨a,b,c,d,e,f,rfl⟩
 obtain ⟨n,hn,hn'⟩ := zRs Tryz.underlying9 (zCh hf 0 9 0 1 rfl zVX)
 obtain ⟨x,hx,hx'⟩ := zEf Tryz.underlying3 (zCh hf 1 3 1 1 rfl zGj)
 obtain ⟨y,hy,hy'⟩ := zEf Tryz.underlying3 (zCh hf 2 3 2 1 rfl zGj)
 obtain ⟨z,hz,hz'⟩ := zEf Tryz.underlying3 (zCh hf 3 3 3 1 rfl zGj)
 obtain ⟨r1,hr1,hr1',hrows1⟩ := zIa Tryz.underlying30 zGj (zCh hf 4 30 4 1 rfl zS8)
 obtain ⟨r2,hr2,hr2',hrows2⟩ := zIa Tryz.underlying31 zOy (zCh hf 5 31 5 1 rfl zOx)
 simp only [zzaR,zzal,zzaS,zzay,zzbv,and_true] at hn hx hy hz hr1 hr2
 subst hn; subst hx; subst hy; subst hz; subst hr1; subst hr2
 obtain ⟨l1,rfl,hok1⟩ := zKc (enc := iR) hrows1 fun x hx => zEf Tryz.underlying3 hx
 obtain ⟨l2,rfl,hok2⟩ := zHt (enc := zAp) (ok := Ins.Ok) fun r hr => zPN _ (zZa _) (hrows2 r hr)
 exact ⟨⟨n,x,y,z,l1,l2⟩,rfl,⟨hx',hy',hz',hok1,hok2⟩⟩
theorem zNm {xs : List AV} (h : Val Tryz.prog 24 xs) : ∃ ps : List Pr,xs = [zAU ps] ∧ ∀ q ∈ ps,q.Ok := by
 obtain ⟨hl,hf⟩ := zKb Tryz.underlying24 zVY h
 obtain ⟨x0,rfl⟩ : ∃ a,xs = [a] := by
  match xs,hl with
  | [a],_ => exact ⟨a,rfl⟩
 obtain ⟨r1,hr1,hr1',hrows1⟩ := zIa Tryz.underlying22 c_pr (zCh hf 0 22 0 1 rfl zYG)
 simp only [zzal,zzaS,zzay,zzbv,and_true] at hr1
 subst hr1
 obtain ⟨l1,rfl,hok1⟩ := zKc (enc := prR) hrows1 fun x hx => zSl hx
 exact ⟨l1,rfl,hok1⟩
def L43 : LFn := ⟨25,[(.tmp 2)],(.seq (.ops [oX 2 (.mv (kB false))]) (.seq (.seq (.ops [oM 3 0,oX 4 (.bin .str .eql (.t 3) (.c (.v (.string (mkS []))))),oM 5 4,oF 6 5 (.mv (.t 0)),oF 7 5 (.len .str (.t 6)),oF 8 5 (bI .gtr (.t 7) (kI 16)),oP 9 5 (kB true) (.t 8),oM 10 9,oF 11 10 (.mv (.t 0)),oF 12 10 (.idx (.t 11) (kI 0)),oF 13 10 (cF 67 [(.t 12)]),oF 14 10 (.not (.t 13)),oP 15 10 (kB true) (.t 14),oM 16 15,oF 17 16 (.mv (.t 0)),oF 18 16 (cF 68 [(.t 17)]),oP 19 16 (kB true) (.t 18)]) (.cond (.t 19) (.seq (.ops [oX 2 (.mv (kB false))]) .ret) .skip)) (.seq (.ops [oM 20 0,oX 21 (cF 69 [(.t 20),(kI 0),(.c (.fn (.func 70) [] []))]),oM 22 0,oX 23 (.len .str (.t 22)),oX 24 (bI .eql (.t 21) (.t 23)),oM 2 24]) .ret)))⟩
theorem L43_ok : zAv Tryz.prog Tryz.f43 [] = some L43 := by kernel_rfl
def L57 : LFn := ⟨36,[(.tmp 2),(.tmp 3)],(.seq (.ops [oX 2 (.mv (kI 0)),oX 3 (.mv (kB false))]) (.seq (.seq (.ops [oM 7 0,oX 8 (.bin .str .eql (.t 7) (.c (.v (.string (mkS []))))),oM 9 8,oF 10 9 (.mv (.t 0)),oF 11 9 (.len .str (.t 10)),oF 12 9 (bI .gtr (.t 11) (kI 9)),oP 13 9 (kB true) (.t 12),oM 14 13,oF 15 14 (.mv (.t 0)),oF 16 14 (cF 69 [(.t 15),(kI 0),(.c (.fn (.func 71) [] []))]),oF 17 14 (.mv (.t 0)),oF 18 14 (.len .str (.t 17)),oF 19 14 (bI .lss (.t 16) (.t 18)),oP 20 14 (kB true) (.t 19)]) (.cond (.t 20) (.seq (.ops [oX 2 (.mv (kI 0)),oX 3 (.mv (kB false))]) .ret) .skip)) (.seq (.ops [oX 4 (.mv (kI 0))]) (.seq (.seq (.ops [oM 21 0,oX 22 (.conv .strBytes (.t 21)),oX 23 (.len .slc (.t 22)),oX 24 (.mv (kI 0))]) (.block 0 (.loop (.seq (.ops [oX 25 (bI .lss (.t 24) (.t 23))]) (.seq (.cond (.t 25) .skip (.exit 0)) (.seq (.block 1 (.seq (.ops [oI 26 1 22 24,oL 27 26,oM 6 27]) (.ops [oM 28 4,oX 29 (bI .mul (kI 10) (.t 28)),oM 30 6,oX 31 (bI .sub (.t 30) (.c (.v (.int .u8 48)))),oX 32 (.conv (.toInt .i64) (.t 31)),oX 33 (bI .add (.t 29) (.t 32)),oM 4 33]))) (.ops [oX 34 (bI .add (.t 24) (kI 1)),oM 24 34]))))))) (.seq (.ops [oM 35 4,oM 2 35,oX 3 (.mv (kB true))]) .ret)))))⟩
theorem L57_ok : zAv Tryz.prog Tryz.f57 [] = some L57 := by kernel_rfl
def L67 : LFn := ⟨9,[(.tmp 2)],(.seq (.ops [oX 2 (.mv (kB false))]) (.seq (.ops [oM 3 0,oX 4 (bI .geq (.t 3) (.c (.v (.int .u8 97)))),oM 5 4,oT 6 5 (.mv (.t 0)),oT 7 5 (bI .leq (.t 6) (.c (.v (.int .u8 122)))),oP 8 5 (.t 7) (kB false),oM 2 8]) .ret))⟩
theorem L67_ok : zAv Tryz.prog Tryz.f67 [] = some L67 := by kernel_rfl
def L68 : LFn := ⟨6,[(.tmp 2)],(.seq (.ops [oX 2 (.mv (kB false))]) (.seq (.ops [oX 3 (cF 121 []),oM 4 0,oX 5 (.look .str (.v (.bool false)) false (.t 3) (.t 4)),oM 2 5]) .ret))⟩
theorem L68_ok : zAv Tryz.prog Tryz.f68 [] = some L68 := by kernel_rfl
def L69 : LFn := ⟨21,[(.tmp 6)],(.seq (.ops [oX 6 (.mv (kI 0))]) (.seq (.block 0 (.loop (.seq (.seq (.ops [oM 7 1,oM 8 0,oX 9 (.len .str (.t 8)),oX 10 (bI .lss (.t 7) (.t 9)),oM 11 10,oT 12 11 (.mv (.t 2)),oT 13 11 (.mv (.t 0)),oT 14 11 (.mv (.t 1)),oT 15 11 (.idx (.t 13) (.t 14)),oT 16 11 (.call (.t 12) [(.t 15)]),oP 17 11 (.t 16) (kB false)]) (.cond (.t 17) .skip (.exit 0))) (.block 1 (.ops [oM 18 1,oX 19 (bI .add (.t 18) (kI 1)),oM 1 19]))))) (.seq (.ops [oM 20 1,oM 6 20]) .ret)))⟩
theorem L69_ok : zAv Tryz.prog Tryz.f69 [] = some L69 := by kernel_rfl
def L70 : LFn := ⟨13,[(.tmp 2)],(.seq (.ops [oX 2 (.mv (kB false))]) (.seq (.ops [oM 3 0,oX 4 (cF 67 [(.t 3)]),oM 5 4,oF 6 5 (.mv (.t 0)),oF 7 5 (cF 71 [(.t 6)]),oP 8 5 (kB true) (.t 7),oM 9 8,oF 10 9 (.mv (.t 0)),oF 11 9 (bI .eql (.t 10) (.c (.v (.int .u8 95)))),oP 12 9 (kB true) (.t 11),oM 2 12]) .ret))⟩
theorem L70_ok : zAv Tryz.prog Tryz.f70 [] = some L70 := by kernel_rfl
def L71 : LFn := ⟨9,[(.tmp 2)],(.seq (.ops [oX 2 (.mv (kB false))]) (.seq (.ops [oM 3 0,oX 4 (bI .geq (.t 3) (.c (.v (.int .u8 48)))),oM 5 4,oT 6 5 (.mv (.t 0)),oT 7 5 (bI .leq (.t 6) (.c (.v (.int .u8 57)))),oP 8 5 (.t 7) (kB false),oM 2 8]) .ret))⟩
theorem L71_ok : zAv Tryz.prog Tryz.f71 [] = some L71 := by kernel_rfl
def L121 : LFn := ⟨3,[(.tmp 0)],(.seq (.ops [oX 0 (.mv (.c (.v (.map none))))]) (.seq (.ops [⟨(some 1),none,.mkmap⟩,oN (.ins .str (.t 1) (.c (.v (.string (mkS [114,101,99,111,114,100])))) (kB true)),oN (.ins .str (.t 1) (.c (.v (.string (mkS [112,114,111,99])))) (kB true)),oN (.ins .str (.t 1) (.c (.v (.string (mkS [118,97,114])))) (kB true)),oN (.ins .str (.t 1) (.c (.v (.string (mkS [105,102])))) (kB true)),oN (.ins .str (.t 1) (.c (.v (.string (mkS [101,108,115,101])))) (kB true)),oN (.ins .str (.t 1) (.c (.v (.string (mkS [119,104,105,108,101])))) (kB true)),oN (.ins .str (.t 1) (.c (.v (.string (mkS [102,111,114])))) (kB true)),oN (.ins .str (.t 1) (.c (.v (.string (mkS [116,111])))) (kB true)),oN (.ins .str (.t 1) (.c (.v (.string (mkS [114,101,116,117,114,110])))) (kB true)),oN (.ins .str (.t 1) (.c (.v (.string (mkS [97,115,115,101,114,116])))) (kB true)),oN (.ins .str (.t 1) (.c (.v (.string (mkS [97,110,100])))) (kB true)),oN (.ins .str (.t 1) (.c (.v (.string (mkS [111,114])))) (kB true)),oN (.ins .str (.t 1) (.c (.v (.string (mkS [110,111,116])))) (kB true)),oN (.ins .str (.t 1) (.c (.v (.string (mkS [116,114,117,101])))) (kB true)),oN (.ins .str (.t 1) (.c (.v (.string (mkS [102,97,108,115,101])))) (kB true)),oN (.ins .str (.t 1) (.c (.v (.string (mkS [105,110,116])))) (kB true)),oN (.ins .str (.t 1) (.c (.v (.string (mkS [98,111,111,108])))) (kB true)),oN (.ins .str (.t 1) (.c (.v (.string (mkS [108,101,110])))) (kB true)),oM 2 1,oM 0 2,oX 0 (.frz (.t 0))]) .ret))⟩
theorem L121_ok : zAv Tryz.prog Tryz.f121 [⟨1,21,(.pre 0 (.frz (.t 0)))⟩] = some L121 := by kernel_rfl
abbrev by8 (c : UInt8) : AV := u8 c.toNat
def isL (c : UInt8) : Bool := decide (97 ≤ c.toNat) && decide (c.toNat ≤ 122)
def isD (c : UInt8) : Bool := decide (48 ≤ c.toNat) && decide (c.toNat ≤ 57)
def isN (c : UInt8) : Bool := isL c || isD c || decide (c.toNat = 95)
abbrev zQw (k : FuncId) (args : List AV) (H : zA) (x : AV) : Prop := ACall Tryz.prog k args H fun y H' => y = x ∧ H' = H
theorem zQ6 (c : UInt8) (H : zA) : zQw 67 [by8 c] H (bool (isL c)) := by
 refine enter Tryz.func67 L67_ok (zY0 rfl) ?_
 repeat' (first | simp -implicitDefEqProofs (disch := omega) only [L67,push_cast,↓reduceIte,Nat.reduceEqDiff,reduceCtorEq,Nat.reduceAdd] | split)
 all_goals (refine zH0 ?_; simp [isL] <;> omega)
theorem zVM (c : UInt8) (H : zA) : zQw 71 [by8 c] H (bool (isD c)) := by
 refine enter Tryz.func71 L71_ok (zY0 rfl) ?_
 repeat' (first | simp -implicitDefEqProofs (disch := omega) only [L71,push_cast,↓reduceIte,Nat.reduceEqDiff,reduceCtorEq,Nat.reduceAdd] | split)
 all_goals (refine zH0 ?_; simp [isD] <;> omega)
theorem zYk (c : UInt8) (H : zA) : zQw 70 [by8 c] H (bool (isN c)) := by
 refine enter Tryz.func70 L70_ok (zY0 rfl) ?_
 repeat' (first | refine zC (zQ6 _ _) ?_ | refine zC (zVM _ _) ?_ | simp -implicitDefEqProofs (disch := omega) only [L70,push_cast,↓reduceIte,Nat.reduceEqDiff,reduceCtorEq,Nat.reduceAdd] | split)
 all_goals (refine zH0 ?_; simp_all [isN] <;> omega)
def zH5 (p : UInt8 → Bool) (l : List UInt8) (i : Nat) : Nat := i + ((l.drop i).takeWhile p).length
theorem zML {p : UInt8 → Bool} {l : List UInt8} {i : Nat} (h : i < l.length) (hp : p (l.getD i 0) = true) : zH5 p l (i + 1) = zH5 p l i := by
 simp only [zH5]
 rw [zZV h,zzaT]
 simp [List.getD,h] at hp
 simp [hp]; omega
theorem zIs {p : UInt8 → Bool} {l : List UInt8} {i : Nat} (h : i < l.length → p (l.getD i 0) = false) : zH5 p l i = i := by
 simp only [zH5]
 by_cases hi : i < l.length
 ·have := h hi
  rw [zZV hi,zzaT]
  simp [List.getD,hi] at this
  simp [this]
 ·simp [zzaI (zzaW hi)]
theorem run (l : List UInt8) (i : Nat) (p : UInt8 → Bool) (f : FuncId) (H : zA) (hl : (l.length : Int) < 9223372036854775807) (hi : i ≤ l.length)
  (hp : ∀ c : UInt8,zQw f [by8 c] H (bool (p c))) :
  zQw 69 [str l,int i,.fn (.func f) [] []] H (int (zH5 p l i)) := by
 refine enter Tryz.func69 L69_ok (zY0 rfl) ?_
 simp -implicitDefEqProofs (disch := omega) only [L69,push_cast,↓reduceIte,Nat.reduceEqDiff,reduceCtorEq,Nat.reduceAdd,Nat.reduceSub,Nat.reduceMul,Nat.reduceLeDiff,Nat.reduceLT,Nat.reduceMod,Nat.reduceDiv,Int.reduceToNat,Int.reduceLT,Int.reduceLE,Int.reduceEq,Int.reduceAdd,Int.reduceSub,Int.reduceNeg,Int.reduceMul,zYW]
 refine zMM (fun e' H' => ∃ j : Nat,e' 0 = str l ∧ e' 1 = int j ∧ e' 2 = .fn (.func f) [] [] ∧ H' = H ∧ j ≤ l.length ∧ zH5 p l j = zH5 p l i) (fun e' _ => match e' 1 with | .v (.int _ n) => l.length - n.toNat | _ => 0) ⟨i,by simp -implicitDefEqProofs (disch := omega) only [push_cast,↓reduceIte,Nat.reduceEqDiff,reduceCtorEq,Nat.reduceAdd,Nat.reduceSub,Nat.reduceMul,Nat.reduceLeDiff,Nat.reduceLT,Nat.reduceMod,Nat.reduceDiv,Int.reduceToNat,Int.reduceLT,Int.reduceLE,Int.reduceEq,Int.reduceAdd,Int.reduceSub,Int.reduceNeg,Int.reduceMul,zYW],by simp -implicitDefEqProofs (disch := omega) only [push_cast,↓reduceIte,Nat.reduceEqDiff,reduceCtorEq,Nat.reduceAdd,Nat.reduceSub,Nat.reduceMul,Nat.reduceLeDiff,Nat.reduceLT,Nat.reduceMod,Nat.reduceDiv,Int.reduceToNat,Int.reduceLT,Int.reduceLE,Int.reduceEq,Int.reduceAdd,Int.reduceSub,Int.reduceNeg,Int.reduceMul,zYW],by simp -implicitDefEqProofs (disch := omega) only [push_cast,↓reduceIte,Nat.reduceEqDiff,reduceCtorEq,Nat.reduceAdd,Nat.reduceSub,Nat.reduceMul,Nat.reduceLeDiff,Nat.reduceLT,Nat.reduceMod,Nat.reduceDiv,Int.reduceToNat,Int.reduceLT,Int.reduceLE,Int.reduceEq,Int.reduceAdd,Int.reduceSub,Int.reduceNeg,Int.reduceMul,zYW],rfl,hi,rfl⟩ ?_
 rintro e' H' ⟨j,h0,h1,h2,rfl,hj,hr⟩
 repeat' (first | refine zY1 (by omega) ?_ | refine zC (hp _) ?_ | simp -implicitDefEqProofs (disch := omega) only [h0,h1,h2,push_cast,↓reduceIte,Nat.reduceEqDiff,reduceCtorEq] | split)
 ·exact ⟨⟨j + 1,by simp,by omega,by rw [zML (by omega) ‹_›]; exact hr⟩,by omega⟩
 ·rename_i h3
  rw [← hr,zIs fun _ => zzaN.2 h3]
 ·rw [← hr,zIs fun _ => by omega]
def kwL : List (List UInt8) := [[114,101,99,111,114,100],[112,114,111,99],[118,97,114],[105,102],[101,108,115,101],[119,104,105,108,101],[102,111,114],[116,111],[114,101,116,117,114,110],[97,115,115,101,114,116],[97,110,100],[111,114],[110,111,116],[116,114,117,101],[102,97,108,115,101],[105,110,116],[98,111,111,108],[108,101,110]]
def isK (s : List UInt8) : Bool := decide (s ∈ kwL)
theorem zPY (H : zA) : zQw 121 [] H (.mp (kwL.map fun s => .string (mkS s)) (kwL.map fun _ => bool true)) := by
 refine (ACall.drop (R := fun x => x = .mp (kwL.map fun s => .string (mkS s)) (kwL.map fun _ => bool true)) ?_)
 refine enter Tryz.func121 L121_ok (zY0 rfl) ?_
 simp -implicitDefEqProofs (disch := omega) only [L121,push_cast,↓reduceIte,Nat.reduceEqDiff,reduceCtorEq,Nat.reduceAdd,Nat.reduceSub,Nat.reduceMul,Nat.reduceLeDiff,Nat.reduceLT,Nat.reduceMod,Nat.reduceDiv,Int.reduceToNat,Int.reduceLT,Int.reduceLE,Int.reduceEq,Int.reduceAdd,Int.reduceSub,Int.reduceNeg,Int.reduceMul,zYW]
 simp [kEq,zRm,kwL]
theorem zIH (s : List UInt8) : ∀ ls : List (List UInt8),zFc (.string (mkS s)) (ls.map fun s => .string (mkS s)) (ls.map fun _ => bool true) = if s ∈ ls then some (bool true) else none
 | [] => by simp [zFc]
 | x :: l => by
  simp only [zZG,zFc,kEq,zRm,zzax,zZr]
  by_cases h : s = x
  ·simp [h]
  ·simp [h,zIH s l]
theorem zSv (s : List UInt8) (H : zA) : zQw 68 [str s] H (bool (isK s)) := by
 refine enter Tryz.func68 L68_ok (zY0 rfl) ?_
 simp -implicitDefEqProofs (disch := omega) only [L68,push_cast,↓reduceIte,Nat.reduceEqDiff,reduceCtorEq,Nat.reduceAdd,Nat.reduceSub,Nat.reduceMul,Nat.reduceLeDiff,Nat.reduceLT,Nat.reduceMod,Nat.reduceDiv,Int.reduceToNat,Int.reduceLT,Int.reduceLE,Int.reduceEq,Int.reduceAdd,Int.reduceSub,Int.reduceNeg,Int.reduceMul,zYW]
 refine zC (zPY H) ?_
 simp -implicitDefEqProofs (disch := omega) only [zIH,push_cast,↓reduceIte,Nat.reduceEqDiff,reduceCtorEq,Nat.reduceAdd,Nat.reduceSub,Nat.reduceMul,Nat.reduceLeDiff,Nat.reduceLT,Nat.reduceMod,Nat.reduceDiv,Int.reduceToNat,Int.reduceLT,Int.reduceLE,Int.reduceEq,Int.reduceAdd,Int.reduceSub,Int.reduceNeg,Int.reduceMul,zYW]
 refine ⟨fun k hk => ?_,?_⟩
 ·obtain ⟨x,_,rfl⟩ := zZK.1 hk; rfl
 ·unfold isK
  by_cases h : s ∈ kwL <;> simp [h,lookV]
theorem zMa {rows : List UInt8} {j : Nat} (h : j < rows.length) : (rows.map zBv).getD (0 + j) [] = [by8 (rows.getD j 0)] := by
 simp [zBv,zZd,h]
structure Tok where
 kind : Nat
 fr : Nat
 at_ : Nat
 en : Nat
theorem zP7 {α : Type} {l : List α} {j : Nat} (h : j < l.length) (d : α) : l.getD j d ∈ l := by
 simp [zZd,h]
def zGv (n : Nat) (l : List UInt8) : Nat := l.foldl (fun n c => 10 * n + (c.toNat - 48)) n
def zE0 (s : List UInt8) : Bool := decide (1 ≤ s.length) && decide (s.length ≤ 9) && s.all isD
def zYh (s : List UInt8) : AV := if zE0 s = true then .tup [int (zGv 0 s),bool true] else .tup [int 0,bool false]
theorem zEB {s : List UInt8} : zE0 s = true ↔ 1 ≤ s.length ∧ s.length ≤ 9 ∧ ∀ j,j < s.length → isD (s.getD j 0) = true := by
 simp only [zE0,zYX,zY5,zZb,and_assoc]
 refine and_congr_right fun _ => and_congr_right fun _ => ⟨fun h j hj => h _ (zP7 hj 0),fun h x hx => ?_⟩
 obtain ⟨j,hj,rfl⟩ := zZY.1 hx
 have := h j hj
 simpa [zZd,hj] using this
theorem zHz {s : List UInt8} (h : ¬ zE0 s = true) : zYh s = .tup [int 0,bool false] := if_neg h
theorem zKA {s : List UInt8} (h : zE0 s = true) : zYh s = .tup [int (zGv 0 s),bool true] := if_pos h
theorem zKo {p : UInt8 → Bool} : ∀ {s : List UInt8},s.length ≤ zH5 p s 0 → ∀ j,j < s.length → p (s.getD j 0) = true
 | [],_,j,hj => by simp at hj
 | c :: l,h,j,hj => by
  simp only [zH5,zzal,zZw,zzaT] at h
  by_cases hc : p c = true
  ·rw [if_pos hc] at h
   cases j with
   | zero => simpa using hc
   | succ j => rw [zzam]; exact zKo (by simpa [zH5] using h) j (by simpa using hj)
  ·rw [if_neg hc] at h; simp at h
theorem zK5 {p : UInt8 → Bool} : ∀ {s : List UInt8},(∀ j,j < s.length → p (s.getD j 0) = true) → zH5 p s 0 = s.length
 | [],_ => by simp [zH5]
 | c :: l,h => by
  have hc : p c = true := h 0 (by simp)
  have := zK5 (s := l) fun j hj => by have := h (j + 1) (by simpa using hj); rwa [zzam] at this
  simp only [zH5,zzal,zZw] at this
  simp [zH5,zzaT,hc,this]
theorem zIG (n : Nat) (c : UInt8) (l : List UInt8) : zGv n (c :: l) = zGv (10 * n + (c.toNat - 48)) l := by unfold zGv; rw [zzaL]
theorem zNv {s : List UInt8} {n j : Nat} (h : j < s.length) : zGv (10 * n + ((s.getD j 0).toNat - 48)) (s.drop (j + 1)) = zGv n (s.drop j) := by
 have e : s.getD j 0 = s[j] := by simp [zZd,h]
 have e2 : s.drop j = s[j] :: s.drop (j + 1) := zZV h
 rw [e,e2,zIG]
theorem zIz {n j : Nat} (h : n < 10 ^ j) (hj : j ≤ 9) : n < 1000000000 := by
 have h1 : 10 ^ j ≤ 10 ^ 9 := Nat.pow_le_pow_right (by decide) hj
 have h2 : (10 : Nat) ^ 9 = 1000000000 := by simp
 rw [h2] at h1
 exact zZl h h1
theorem zYv {x : AV} {a : Int} {b : Nat} (h : x = int a) (h2 : a = b) : x = int b := h.trans (by rw [h2])
theorem zNW {c : UInt8} : isD c = true ↔ 48 ≤ c.toNat ∧ c.toNat ≤ 57 := by simp [isD]
theorem zVl (s : List UInt8) (H : zA) (hs : (s.length : Int) < 9223372036854775807) : zQw 57 [str s] H (zYh s) := by
 refine enter Tryz.func57 L57_ok (zY0 rfl) ?_
 repeat' (first | refine zY1 (by omega) ?_ | refine zC (run s 0 isD 71 _ (by omega) (by omega) fun c => zVM c _) ?_ | simp -implicitDefEqProofs (disch := omega) only [L57,push_cast,↓reduceIte,Nat.reduceEqDiff,reduceCtorEq,Nat.reduceAdd] | split)
 ·rw [zHz]; simp_all [zE0]
 ·rw [zHz]; rw [zEB]; omega
 ·rw [zHz]; rw [zEB]; rintro ⟨_,_,h⟩; have := zK5 h; omega
 ·rename_i h1 h2 h3
  have hd : ∀ j,j < s.length → isD (s.getD j 0) = true := zKo (by omega)
  have hpos : 1 ≤ s.length := by cases s with | nil => exact absurd rfl h1 | cons a l => simp
  rw [zKA (zEB.2 ⟨hpos,by omega,hd⟩)]
  refine zAd (fun (p : Nat × Nat) e' H' => e' 4 = int p.2 ∧ e' 22 = .sl 1 (s.map zBv) ∧ e' 23 = int s.length ∧ e' 24 = int p.1 ∧ H = H' ∧ p.1 ≤ s.length ∧ p.2 < 10 ^ p.1 ∧ zGv p.2 (s.drop p.1) = zGv 0 s) (fun p => s.length - p.1) (0,0) ?_ ?_
  ·exact ⟨rfl,rfl,rfl,rfl,rfl,zZm _,by simp,rfl⟩
  rintro ⟨j,n⟩ e' H' ⟨g4,g22,g23,g24,rfl,hj,hp,hr⟩
  simp only at g4 g22 g23 g24 hj hp hr
  by_cases hlt : j < s.length
  ·have hn := zIz hp (by omega)
   have hc := zNW.1 (hd j hlt)
   have hb := zMa hlt
   rw [zZw] at hb
   have hp' : 10 * n + ((s.getD j 0).toNat - 48) < 10 ^ (j + 1) := by rw [zzbd]; omega
   repeat' (first | refine zY1 (by omega) ?_ | simp -implicitDefEqProofs (disch := omega) only [g4,g22,g23,g24,hb,push_cast,↓reduceIte,Nat.reduceEqDiff,Nat.reduceAdd,Nat.reduceLeDiff] | split)
   ·exact .mk (j + 1,10 * n + ((s.getD j 0).toNat - 48)) ⟨zYv rfl (by omega),g22,g23,rfl,rfl,hlt,hp',by simp only; rw [zNv hlt]; exact hr⟩ (by simp only; omega)
   ·omega
  ·repeat' (first | simp -implicitDefEqProofs (disch := omega) only [g4,g22,g23,g24,push_cast,↓reduceIte,Nat.reduceEqDiff] | split)
   ·omega
   ·rw [zzaI (by omega)] at hr
    rw [← hr]; rfl
def zEC (s : List UInt8) : Bool := decide (1 ≤ s.length) && decide (s.length ≤ 16) && isL (s.getD 0 0) && !isK s && decide (zH5 isN s 0 = s.length)
theorem zE1 {s : List UInt8} : zEC s = true ↔ 1 ≤ s.length ∧ s.length ≤ 16 ∧ isL (s.getD 0 0) = true ∧ isK s = false ∧ zH5 isN s 0 = s.length := by
 simp only [zEC,zYX,zY5,zZL,and_assoc]
theorem zVm {s : List UInt8} (h : 1 ≤ s.length → s.length ≤ 16 → isL (s.getD 0 0) = true → isK s = false → False) : AV.v (.bool false) = bool (zEC s) := by
 rw [show zEC s = false from zzaN.2 fun hh => by rw [zE1] at hh; exact h hh.1 hh.2.1 hh.2.2.1 hh.2.2.2.1]
theorem zDE (s : List UInt8) (H : zA) (hs : (s.length : Int) < 9223372036854775806) : zQw 43 [str s] H (bool (zEC s)) := by
 refine enter Tryz.func43 L43_ok (zY0 rfl) ?_
 have hne : s = [] ↔ s.length = 0 := by simp
 repeat' (first | refine zY1 (by omega) ?_ | refine zC (run s 0 isN 70 _ (by omega) (by omega) fun c => zYk c _) ?_ | refine zC (zQ6 _ _) ?_ | refine zC (zSv _ _) ?_ | simp -implicitDefEqProofs (disch := omega) only [L43,hne,push_cast,↓reduceIte,Nat.reduceEqDiff,reduceCtorEq,Nat.reduceAdd,Int.reduceToNat,Int.reduceLE] | split)
 all_goals first
  | exact zVm fun h1 h2 h3 h4 => by first | omega | (simp_all; done)
  | skip
 refine zH0 ?_
 rw [zE1,zY5]
 exact ⟨fun h => ⟨by omega,by omega,by simpa using ‹¬ isL _ = false›,by simpa using ‹¬ isK _ = true›,by omega⟩,fun h => by omega⟩
def zEz (q : Pr) : Int := if 0 ≤ q.res then q.res else q.outs.length
def zW (slots o a b : Int) (e : Bool) : Prop :=
 0 ≤ o ∧ o ≤ 22 ∧ (o = 18 ∨ o = 19 ∨ e = true) ∧ (o = 0 → 0 ≤ a ∧ a ≤ 999999999 ∧ b = 0) ∧ (o = 1 ∨ o = 2 → 0 ≤ a ∧ a < slots ∧ b = 0) ∧
 (o = 3 ∨ o = 4 → 0 ≤ a ∧ 1 ≤ b ∧ a < slots ∧ b ≤ slots - a) ∧ (o = 20 → b = 0) ∧ (5 ≤ o ∧ ¬ o = 20 → a = 0 ∧ b = 0)
instance (slots o a b : Int) (e : Bool) : Decidable (zW slots o a b e) := by unfold zW; infer_instance
def chg (h n c : Int) : Option Int := if n ≤ h ∧ h + c ≤ 1024 then some (h + c) else none
def zFC (ps : List Pr) (k : Nat) (o a : Int) (out : Bool) (h : Int) : Option Int :=
 if o = 0 ∨ o = 1 then chg h 0 1
 else if o = 2 ∨ o = 22 then chg h 1 (-1)
 else if o = 3 ∨ o = 16 ∨ o = 17 then chg h 1 0
 else if o = 4 then chg h 2 (-2)
 else if o = 20 then (if 0 ≤ a ∧ a < k then chg h (ps.getD a.toNat default).par (zEz (ps.getD a.toNat default) - (ps.getD a.toNat default).par) else none)
 else if o = 21 then (if out = true ∧ h = max (ps.getD k default).res 0 then chg h 0 (-h) else none)
 else chg h 2 (-1)
mutual
def zCA (ps : List Pr) (k : Nat) : Ins → Bool → Int → Option Int
 | .mk o a b l m,out,h =>
  if zW (ps.getD k default).slots o a b (l.isEmpty && m.isEmpty) then
   if o = 18 then
    if 1 ≤ h then
     match zDu ps k l (out && decide (h = 1)) 0,zDu ps k m (out && decide (h = 1)) 0 with
     | some e,some e' => if e = e' then chg h 0 (e - 1) else none
     | _,_ => none
    else none
   else if o = 19 then
    if out = true ∧ h = 0 ∧ zDu ps k m false 0 = some 1 ∧ zDu ps k l true 0 = some 0 then some h else none
   else zFC ps k o a out h
  else none
def zDu (ps : List Pr) (k : Nat) : List Ins → Bool → Int → Option Int
 | [],_,h => some h
 | x :: l,out,h => match zCA ps k x out h with
  | some h' => zDu ps k l out h'
  | none => none
end
theorem zOj (ps : List Pr) (k : Nat) (x : Ins) (l : List Ins) (out : Bool) (h : Int) : zDu ps k (x :: l) out h = (zCA ps k x out h).bind fun h' => zDu ps k l out h' := by
 simp only [zDu]
 cases zCA ps k x out h <;> rfl
theorem zAM (ps : List Pr) (k : Nat) {l : List Ins} {j : Nat} (hj : j < l.length) (out : Bool) (h : Int) : zDu ps k (l.drop j) out h = (zCA ps k (l.getD j default) out h).bind fun h' => zDu ps k (l.drop (j + 1)) out h' := by
 rw [zOk hj,zOj]
def zDc (ps : List Pr) (k : Nat) : Prop := ∀ j,j < k → 0 ≤ (ps.getD j default).par ∧ (ps.getD j default).par ≤ 1024 ∧ (ps.getD j default).res ≤ 128 ∧ (ps.getD j default).outs.length ≤ 128
theorem zKx {q : Pr} (h1 : q.res ≤ 128) (h2 : q.outs.length ≤ 128) : 0 ≤ zEz q ∧ zEz q ≤ 128 := by
 unfold zEz; split <;> omega
theorem zDv {h n c h' : Int} (hc : chg h n c = some h') : n ≤ h ∧ h' = h + c ∧ h' ≤ 1024 := by
 unfold chg at hc
 split at hc
 ·simp only [zYT] at hc; omega
 ·cases hc
theorem zL1 {ps : List Pr} {k : Nat} (hp : zDc ps k) {o a : Int} {out : Bool} {h h' : Int} (h0 : 0 ≤ h) (he : zFC ps k o a out h = some h') : 0 ≤ h' ∧ h' ≤ 1024 := by
 unfold zFC at he
 split at he
 ·have := zDv he; omega
 split at he
 ·have := zDv he; omega
 split at he
 ·have := zDv he; omega
 split at he
 ·have := zDv he; omega
 split at he
 ·split at he
  ·rename_i hh
   have h1 := hp a.toNat (by omega)
   have h2 := zKx h1.2.2.1 h1.2.2.2
   have := zDv he; omega
  ·cases he
 split at he
 ·split at he
  ·have := zDv he; omega
  ·cases he
 ·have := zDv he; omega
mutual
theorem zL2 {ps : List Pr} {k : Nat} (hp : zDc ps k) : ∀ (x : Ins) (out : Bool) (h h' : Int),0 ≤ h → h ≤ 1024 → zCA ps k x out h = some h' → 0 ≤ h' ∧ h' ≤ 1024
 | .mk o a b l m,out,h,h',h0,h1,he => by
  simp only [zCA] at he
  split at he
  ·split at he
   ·split at he
    ·split at he
     ·rename_i e e' he1 he2
      have g := zBI hp l _ 0 e (by omega) (by omega) he1
      split at he
      ·have := zDv he; omega
      ·cases he
     ·cases he
    ·cases he
   ·split at he
    ·split at he
     ·simp only [zYT] at he; omega
     ·cases he
    ·exact zL1 hp h0 he
  ·cases he
theorem zBI {ps : List Pr} {k : Nat} (hp : zDc ps k) : ∀ (l : List Ins) (out : Bool) (h h' : Int),0 ≤ h → h ≤ 1024 → zDu ps k l out h = some h' → 0 ≤ h' ∧ h' ≤ 1024
 | [],out,h,h',h0,h1,he => by simp only [zDu,zYT] at he; omega
 | x :: l,out,h,h',h0,h1,he => by
  simp only [zDu] at he
  split at he
  ·rename_i g hg
   have := zL2 hp x out h g h0 h1 hg
   exact zBI hp l out g h' (by omega) (by omega) he
  ·cases he
end
def zDk (q : Pr) : Prop := 0 ≤ q.par ∧ q.par ≤ q.slots ∧ q.slots ≤ 1024 ∧ -1 ≤ q.res ∧ q.res ≤ 128 ∧ q.outs.length ≤ 128 ∧ (q.res = -1 ∨ q.outs = []) ∧ ∀ s ∈ q.outs,0 ≤ s ∧ s < q.slots
def prP (ps : List Pr) (k : Nat) : Prop := (zEC (ps.getD k default).name = true ∧ ∀ j,j < k → ¬ (ps.getD j default).name = (ps.getD k default).name) ∧ zDk (ps.getD k default) ∧
 zAO (ps.take (k + 1)) ≤ 32768 ∧ zAE (ps.getD k default).body ≤ 256 ∧ zDu ps k (ps.getD k default).body true 0 = some 0
def zDt (ps : List Pr) : Prop := ps.length ≤ 8 ∧ ∀ k,k < ps.length → prP ps k
theorem zKv {ps : List Pr} {k : Nat} (h : ∀ j,j < k → prP ps j) : zDc ps k := fun j hj => by
 obtain ⟨_,⟨h1,h2,h3,h4,h5,h6,_⟩,_⟩ := h j hj
 exact ⟨h1,by omega,h5,h6⟩
abbrev Wd := List UInt8
abbrev Ln := List (List UInt8)
def spB (c : UInt8) : Wd → Ln
 | [] => [[]]
 | x :: s => if x = c then [] :: spB c s else (x :: (spB c s).headD []) :: (spB c s).tail
theorem zMB (c : UInt8) : ∀ s,spB c s ≠ []
 | [] => by simp [spB]
 | x :: s => by unfold spB; split <;> simp
theorem zUg (c : UInt8) (s : Wd) : spB c s = (spB c s).headD [] :: (spB c s).tail := by
 have := zMB c s
 cases h : spB c s with
 | nil => exact absurd h this
 | cons a l => rfl
theorem zHp {c : UInt8} : ∀ {w : Wd},c ∉ w → spB c w = [w]
 | [],_ => rfl
 | x :: w,h => by
  simp only [zZr,not_or] at h
  have hx : ¬ x = c := fun e => h.1 e.symm
  simp [spB,hx,zHp h.2]
theorem zFr {c : UInt8} {s : Wd} : ∀ {w : Wd},c ∉ w → spB c (w ++ c :: s) = w :: spB c s
 | [],_ => by simp [spB]
 | x :: w,h => by
  simp only [zZr,not_or] at h
  have hx : ¬ x = c := fun e => h.1 e.symm
  rw [zY9,spB,if_neg hx,zFr h.2]; rfl
theorem zEO (c : UInt8) : ∀ s,(spB c s).length ≤ s.length + 1
 | [] => by simp [spB]
 | x :: s => by
  have := zEO c s
  have h2 := zMB c s
  have h3 : 0 < (spB c s).length := List.length_pos_iff.2 h2
  unfold spB; split <;> simp <;> omega
theorem zFQ {c : UInt8} : ∀ {s w : Wd},w ∈ spB c s → w.length ≤ s.length ∧ c ∉ w
 | [],w,h => by simp [spB] at h; subst h; simp
 | x :: s,w,h => by
  unfold spB at h
  split at h
  ·rcases zZr.1 h with rfl | h
   ·simp
   ·have := zFQ h; simp only [zYZ]; exact ⟨by omega,this.2⟩
  ·rename_i hx
   rcases zZr.1 h with rfl | h
   ·have h2 : (spB c s).headD [] ∈ spB c s := by rw [zUg c s]; simp
    have := zFQ h2
    simp only [zYZ,zZr,not_or]
    exact ⟨by omega,fun e => hx e.symm,this.2⟩
   ·have h2 : w ∈ spB c s := List.mem_of_mem_tail h
    have := zFQ h2
    simp only [zYZ]; exact ⟨by omega,this.2⟩
def ne {α : Type} (w : List α) : Bool := !w.isEmpty
theorem zGP {α : Type} {w : List α} : ne w = true ↔ w ≠ [] := by cases w <;> simp [ne]
def zEd (l : Wd) : Ln := (spB 32 l).filter ne
def zA9 (s : Wd) : List Ln := ((spB 10 s).map zEd).filter ne
def zQ1 (w : Wd) (now : Ln) : Ln := if w = [] then now else now ++ [w]
def lnM : Wd → Wd → Ln → List Ln
 | [],w,now => if zQ1 w now = [] then [] else [zQ1 w now]
 | x :: s,w,now => if x = 32 then lnM s [] (zQ1 w now) else if x = 10 then (if zQ1 w now = [] then lnM s [] [] else zQ1 w now :: lnM s [] []) else lnM s (w ++ [x]) now
theorem zMm {w : Wd} (h : (32 : UInt8) ∉ w) : zEd w = zQ1 w [] := by
 unfold zEd zQ1
 rw [zHp h]
 by_cases hw : w = []
 ·subst hw; rfl
 ·rw [if_neg hw,zZ0 (zGP.2 hw)]; rfl
theorem zNL {s : Wd} {l : Ln} (h : l ∈ zA9 s) : l ≠ [] := zGP.1 (zzah.1 h).2
theorem zGV (s : Wd) : (zA9 s).length ≤ s.length + 1 := by
 have h1 := zEO 10 s
 have h2 := List.length_filter_le ne ((spB 10 s).map zEd)
 rw [zYV] at h2
 unfold zA9; omega
theorem zEZ {s : Wd} {l : Ln} (h : l ∈ zA9 s) : l.length ≤ s.length + 1 ∧ ∀ w ∈ l,w.length ≤ s.length := by
 obtain ⟨p,hp,rfl⟩ := zZK.1 (zzah.1 h).1
 have h1 := zFQ hp
 have h2 := zEO 32 p
 have h3 := List.length_filter_le ne (spB 32 p)
 refine ⟨by unfold zEd; omega,fun w hw => ?_⟩
 have h4 := zFQ (zzah.1 hw).1
 omega
def zOW (w : Wd) : Option Int := if w.head? = some 45 then (if zE0 w.tail = true then some (-(zGv 0 w.tail : Int)) else none) else if zE0 w = true then some (zGv 0 w) else none
def zCa : Ln → Option (List Int)
 | [] => some []
 | w :: l => match zOW w with
  | none => none
  | some n => (zCa l).map (n :: ·)
def opsW : Ln := [[112,117,115,104],[108,111,97,100],[115,116,111,114,101],[108,111,97,100,97,116],[115,116,111,114,101,97,116],[97,100,100],[115,117,98],[109,117,108],[100,105,118],[109,111,100],[101,113,117,97,108],[117,110,101,113,117,97,108],[108,101,115,115],[97,116,109,111,115,116],[103,114,101,97,116,101,114],[97,116,108,101,97,115,116],[110,101,103,97,116,101],[110,111,116],[105,102],[108,111,111,112],[99,97,108,108],[114,101,116,117,114,110],[97,115,115,101,114,116]]
def zEe : Wd := [101,110,100]
def zEt : Wd := [101,108,115,101]
def wDo : Wd := [100,111]
def zEs : Wd := [112,114,111,99]
def opF (w : Wd) : Option Nat := opsW.findIdx? fun x => decide (x = w)
def zCE (op : Nat) : Nat := if op = 0 ∨ op = 1 ∨ op = 2 ∨ op = 20 then 1 else if op = 3 ∨ op = 4 then 2 else 0
def zIP (l : Ln) : Option (Nat × Int × Int) := match opF (l.headD []) with
 | none => none
 | some op => match zCa l.tail with
  | none => none
  | some ns => if ns.length = zCE op then some (op,ns.getD 0 0,ns.getD 1 0) else none
def zAL : Nat → Wd → List Ln → Option (List Ins × List Ln)
 | 0,_,_ => none
 | _ + 1,_,[] => none
 | n + 1,u,l :: L =>
  if l.headD [] = u then (if l.length = 1 then some ([],L) else none)
  else match zIP l with
   | none => none
   | some (op,a,b) =>
    if op = 18 then match zAL n zEt L with
     | none => none
     | some (x,L1) => match zAL n zEe L1 with
      | none => none
      | some (y,L2) => (zAL n u L2).map fun r => (.mk op a b x y :: r.1,r.2)
    else if op = 19 then match zAL n wDo L with
     | none => none
     | some (x,L1) => match zAL n zEe L1 with
      | none => none
      | some (y,L2) => (zAL n u L2).map fun r => (.mk op a b y x :: r.1,r.2)
    else (zAL n u L).map fun r => (.mk op a b [] [] :: r.1,r.2)
def zQP (l : Ln) : Option Pr := if l.headD [] = zEs ∧ 5 ≤ l.length then (zCa (l.drop 2)).map fun ns => ⟨l.getD 1 [],ns.getD 0 0,ns.getD 1 0,ns.getD 2 0,ns.drop 3,[]⟩ else none
def zCC : Nat → List Ln → Option (List Pr)
 | _,[] => some []
 | 0,_ :: _ => none
 | n + 1,l :: L => match zQP l with
  | none => none
  | some q => match zAL (L.length + 1) zEe L with
   | none => none
   | some (b,L1) => (zCC n L1).map ({ q with body := b } :: ·)
end Go.Proofs.YtbibhcmcjldhdaaGreatDoor
namespace Go.Ax
open Go Go.RowKit
set_option linter.unusedSimpArgs false
set_option linter.unusedVariables false
section
variable {P : Program} {k : List zEp} {Q : Out → Env → zA → Prop} {e : Env} {H : zA}
end
end Go.Ax
namespace Go.Ax
open Go
set_option linter.unusedSimpArgs false
set_option linter.unusedVariables false
variable {P : Program} {H : zA}
theorem ACall.frz {k : FuncId} {args : List AV} {R : AV → zA → Prop} (h : ACall P k args H R) (hR : ∀ x H',R x H' → (rFrz x H').ok) :
  ACall P k args H fun y H2 => ∃ x H',R x H' ∧ y = (rFrz x H').x ∧ H2 = (rFrz x H').H :=
 ⟨h.1,fun X ρ w vs a b => (h.2 X ρ w vs a b).mono fun _ w' ⟨v,x,H',ρ',e,r,g1,g2,g3⟩ => by
  obtain ⟨ρ2,f1,f2,f3⟩ := zJr g1 g2 (hR _ _ r)
  exact ⟨v,_,_,ρ2,e,⟨x,H',r,rfl,rfl⟩,f1,f2,g3.trans f3⟩⟩
def AV.Le (x y : AV) : Prop := ∀ (w : World) (M : Nat → Prop) (ρ : Nat → Loc) (n : Nat) (v : Value),Rep w M ρ n x v → Rep w M ρ n y v
theorem AV.Le.refl (x : AV) : AV.Le x x := fun _ _ _ _ _ h => h
theorem AV.Le.nil (sz : Nat) : AV.Le (.v (.slice none 0 0)) (.sl sz []) := fun w M ρ n v h => by
 cases h
 exact .slE _ _ _ _
theorem AV.Le.agg {xs ys : List AV} (hl : xs.length = ys.length) (h : ∀ (i : Nat) (x y : AV),xs[i]? = some x → ys[i]? = some y → AV.Le x y) : AV.Le (.agg xs) (.agg ys) := fun w M ρ n v hv => by
 cases hv with
 | agg _ _ us hl' hr =>
  refine .agg _ _ _ (by omega) fun i y u hy hu => ?_
  have hi : i < xs.length := by have := (zYU.1 hy).1; omega
  exact h i xs[i] y (zZe hi) hy _ _ _ _ _ (hr i _ u (zZe hi) hu)
theorem ACall.args {k : FuncId} {xs ys : List AV} {R : AV → zA → Prop} (h : ACall P k ys H R) (hl : xs.length = ys.length) (hle : ∀ (i : Nat) (x y : AV),xs[i]? = some x → ys[i]? = some y → AV.Le x y) : ACall P k xs H R :=
 ⟨h.1,fun X ρ w vs a b => h.2 X ρ w vs a (by
  obtain ⟨b1,b2⟩ := b
  refine ⟨by omega,fun i y u hy hu => ?_⟩
  have hi : i < xs.length := by have := (zYU.1 hy).1; omega
  exact hle i xs[i] y (zZe hi) hy _ _ _ _ _ (b2 i _ u (zZe hi) hu))⟩
theorem ACall.res {k : FuncId} {args : List AV} {R : AV → zA → Prop} (h : ACall P k args H R) : ACall P k args H fun y H' => ∃ x,R x H' ∧ AV.Le x y := by
 refine h.mono fun x H' r => ⟨x,r,AV.Le.refl x⟩
theorem ACall.resTo {k : FuncId} {args : List AV} {R R' : AV → zA → Prop} (h : ACall P k args H R) (hr : ∀ x H',R x H' → ∃ y,AV.Le x y ∧ R' y H') : ACall P k args H R' :=
 ⟨h.1,fun X ρ w vs a b => (h.2 X ρ w vs a b).mono fun _ w' ⟨v,x,H',ρ',e,r,g1,g2,g3⟩ => by
  obtain ⟨y,h1,h2⟩ := hr _ _ r
  exact ⟨v,y,H',ρ',e,h2,g1,h1 _ _ _ _ _ g2,g3⟩⟩
end Go.Ax
namespace Go.Proofs.YtbibhcmcjldhdaaGreatDoor
open Go Go.Ax Go.RowKit Go.Shelf
set_option maxRecDepth 100000
set_option linter.unusedSimpArgs false
set_option linter.unusedVariables false
set_option maxHeartbeats 4000000
def bldRen : Go.Shelf.Ren := ⟨fun | 240 => 61 | 276 => 115 | 169 => 41 | n => n,fun | 70 => 79 | 72 => 82 | 164 => 191 | 37 => 80 | 127 => 124 | n => n,fun | n => n⟩
theorem zVP : Go.Proofs.Lays.n240 Tryz.prog bldRen := {
 mixed := by kernel_rfl
 f240 := Tryz.func61.trans (congrArg some (by kernel_rfl))
 f276 := Tryz.func115.trans (congrArg some (by kernel_rfl))
 t0 := Tryz.underlying0
 a0 := Tryz.isAgg0
 z0 := Tryz.sizeOf0
 v0 := Tryz.zeroValue0
 t4 := Tryz.underlying4
 a4 := Tryz.isAgg4
 z4 := Tryz.sizeOf4
 v4 := Tryz.zeroValue4
 t9 := Tryz.underlying9
 a9 := Tryz.isAgg9
 z9 := Tryz.sizeOf9
 v9 := Tryz.zeroValue9
 t20 := Tryz.underlying20
 a20 := Tryz.isAgg20
 z20 := Tryz.sizeOf20
 v20 := Tryz.zeroValue20
 t70 := Tryz.underlying79
 a70 := Tryz.isAgg79
 z70 := Tryz.sizeOf79
 v70 := Tryz.zeroValue79
 t72 := Tryz.underlying82
 a72 := Tryz.isAgg82
 z72 := Tryz.sizeOf82
 v72 := Tryz.zeroValue82
 t164 := Tryz.underlying191
 a164 := Tryz.isAgg191
 z164 := Tryz.sizeOf191
 v164 := Tryz.zeroValue191 }
theorem cpX : Go.Proofs.Builder.X72 Tryz.prog bldRen := { sizeBuilder := by kernel_rfl,liesBuilder := by kernel_rfl }
theorem zR9 {w : World} {M : Nat → Prop} {ρ : Nat → Ax.Loc} {n : Nat} {x : AV} {vs : Array Value} (h : RepL w M ρ n [x] vs) : ∃ a,vs = #[a] ∧ Rep w M ρ n x a := by
 obtain ⟨h1,h2⟩ := h
 match vs,h1 with
 | ⟨[a]⟩,_ => exact ⟨a,rfl,h2 0 x a rfl rfl⟩
theorem zIq (w : World) (a : Addr) (v : Value) : Same w (w.setCell a v) := ⟨rfl,rfl,rfl,by simp [World.setCell]⟩
abbrev bT : TypeId := 82
theorem zOp (r : Nat) (y : AV) (H : zA) (hr : H[r]? = some (.box [.bnil bT,y])) : ACall Tryz.prog 61 [.ptr r 0 0] H fun x H' => x = .tup [] ∧ H' = H.set r (.box [.ptr r 0 0,y]) := by
 refine ⟨⟨_,Tryz.func61,by kernel_rfl,by kernel_rfl⟩,fun X ρ w vs hrel hargs => ?_⟩
 obtain ⟨a,rfl,ha⟩ := zR9 hargs
 obtain ⟨hrl,b,c,e,fr,hblk,rfl,hh,hl,hfr,hver,hrep⟩ := zCQ hrel ha hr rfl
 obtain ⟨rfl,rfl⟩ := zRn hrel hr hblk hh bT rfl
 obtain ⟨c0,c1,rfl⟩ : ∃ c0 c1,c = #[c0,c1] := by
  match c,hl with
  | ⟨[a,b]⟩,_ => exact ⟨a,b,rfl⟩
 obtain ⟨h0,h0'⟩ := hrep 0 (.bnil bT) c0 rfl rfl
 obtain ⟨h1,h1'⟩ := hrep 1 y c1 rfl rfl
 cases h0
 refine (Go.Proofs.Any.Builder_copyCheck_fresh zVP cpX b w (zAD hh 0) (by simp [World.shape?,hh]; rfl) (by simp [World.frozen?,hh])).mono ?_
 rintro en w' ⟨rfl,rfl⟩
 obtain ⟨ρ',hρ,g1,g2⟩ := hrel.setAt (w' := w.setCell ⟨b,0,none⟩ (.pointer (some ⟨b,0,none⟩))) hrl (ρ r) (.box [.ptr r 0 0,y]) (zIq _ _ _) (.inl rfl) (fun b o hb => .inl ⟨o,hb⟩)
  (fun b' _ hne => Below.heap_setCell _ _ _ _ (fun e => hne 0 (by rw [e]; exact hblk)))
  (fun ρ' hρ' hf => by
   refine ⟨hver,b,#[.pointer (some ⟨b,0,none⟩),c1],bT,(0,0),hblk,by simp [World.setCell,zzaM,hh],rfl,⟨.inl rfl,fun t ht => by cases ht⟩,fun j z u hz hu => ?_⟩
   match j with
   | 0 =>
    cases hz; cases hu
    refine ⟨.ptr _ _ _ _ _ hrl (zZm _) rfl fun _ => ⟨b,0,?_,rfl⟩,rfl⟩
    rw [hρ']
    simpa using hblk
   | 1 => cases hz; cases hu; exact ⟨h1.nextN hf,h1'⟩
   | j + 2 => cases hz)
 exact ⟨_,_,_,ρ',rfl,⟨rfl,rfl⟩,g1,.tup _ _ _ rfl fun i x u hx => by simp at hx,g2⟩
theorem zK2 (r : Nat) (y : AV) (H : zA) (hr : H[r]? = some (.box [.ptr r 0 0,y])) : ACall Tryz.prog 61 [.ptr r 0 0] H fun x H' => x = .tup [] ∧ H' = H := by
 refine ⟨⟨_,Tryz.func61,by kernel_rfl,by kernel_rfl⟩,fun X ρ w vs hrel hargs => ?_⟩
 obtain ⟨a,rfl,ha⟩ := zR9 hargs
 obtain ⟨hrl,b,c,e,fr,hblk,rfl,hh,hl,hfr,hver,hrep⟩ := zCQ hrel ha hr rfl
 obtain ⟨c0,c1,rfl⟩ : ∃ c0 c1,c = #[c0,c1] := by
  match c,hl with
  | ⟨[a,b]⟩,_ => exact ⟨a,b,rfl⟩
 obtain ⟨h0,h0'⟩ := hrep 0 (.ptr r 0 0) c0 rfl rfl
 have hc0 : c0 = .pointer (some ⟨b,0,none⟩) := by
  cases h0 with
  | ptr _ _ _ _ _ _ _ _ hp =>
   obtain ⟨b',o',e1,rfl⟩ := hp (by rw [hver])
   rw [hblk] at e1
   cases e1
   rfl
 subst hc0
 refine (Go.Proofs.Any.Builder_copyCheck_used zVP cpX b w (zAD hh 0)).mono ?_
 rintro en w' ⟨rfl,rfl⟩
 exact ⟨_,_,_,ρ,rfl,⟨rfl,rfl⟩,hrel,.tup _ _ _ rfl fun i x u hx => by simp at hx,Fut.refl _ _ _⟩
end Go.Proofs.YtbibhcmcjldhdaaGreatDoor
namespace Go.Proofs.YtbibhcmcjldhdaaGreatDoor
open Go Go.Ax Go.RowKit
set_option maxRecDepth 100000
set_option linter.unusedSimpArgs false
set_option linter.unusedVariables false
set_option maxHeartbeats 4000000
abbrev u8T : TypeId := 5
def BSt (n0 r : Nat) (l : List UInt8) (H : zA) : Prop := n0 ≤ r ∧ ((H[r]? = some (.box [.bnil bT,zAI]) ∧ l = []) ∨ (H[r]? = some (.box [.ptr r 0 0,zAI]) ∧ l = []) ∨ ∃ k v,n0 ≤ k ∧ l ≠ [] ∧ H[r]? = some (.box [.ptr r 0 0,.os k v 0 l.length]) ∧ H[k]? = some (.barr u8T v l))
def Kp (n0 r : Nat) (H H' : zA) : Prop := H.length ≤ H'.length ∧ (∀ i,i < n0 → H'[i]? = H[i]?) ∧ ∀ i cs,i ≠ r → H[i]? = some (.box cs) → H'[i]? = some (.box cs)
theorem Kp.refl (n0 r : Nat) (H : zA) : Kp n0 r H H := ⟨zZa _,fun _ _ => rfl,fun _ _ _ h => h⟩
theorem Kp.trans {n0 r : Nat} {A B C : zA} (h : Kp n0 r A B) (k : Kp n0 r B C) : Kp n0 r A C := ⟨zZ3 h.1 k.1,fun i hi => (k.2.1 i hi).trans (h.2.1 i hi),fun i cs hi hc => k.2.2 i cs hi (h.2.2 i cs hi hc)⟩
theorem zT4 (n0 r : Nat) (l s : List UInt8) (H : zA) (hb : BSt n0 r l H) (hn : n0 ≤ H.length) (hl : l.length + s.length ≤ 140737488355328) :
  ACall Tryz.prog 34 [.ptr r 0 0,str s] H fun x H' => x = .tup [int s.length,.v .nilIface] ∧ BSt n0 r (l ++ s) H' ∧ Kp n0 r H H' := by
 obtain ⟨hr0,⟨hr,rfl⟩ | ⟨hr,rfl⟩ | ⟨k,v,hk0,hl0,hr,hk⟩⟩ := hb
 ·have hlt : r < H.length := (zYU.1 hr).1
  refine enter Tryz.func34 L34_ok (zY0 rfl) ?_
  simp -implicitDefEqProofs (disch := omega) only [L34,zS,zAQ,zAj,zAK,zAz,zAx,push_cast,↓reduceIte,Nat.reduceEqDiff,reduceCtorEq,Nat.reduceAdd,Nat.reduceSub,Nat.reduceMul,Nat.reduceLeDiff,Nat.reduceLT,Nat.reduceMod,Nat.reduceDiv,Int.reduceToNat,Int.reduceLT,Int.reduceLE,Int.reduceEq,Int.reduceAdd,Int.reduceSub,Int.reduceNeg,Int.reduceMul,zYW]
  refine zAm (zOp r zAI H hr) ?_
  rintro x H' ⟨rfl,rfl⟩
  have h1 : (H.set r (.box [.ptr r 0 0,zAI]))[r]? = some (.box [.ptr r 0 0,zAI]) := by rw [zZs hlt]
  have h2 : ∀ (A B : HO) l,(H.set r A ++ l).set r B = H.set r B ++ l := fun A B l => by rw [zzat _ _ (by simpa using hlt),List.set_set]
  have h3 : ∀ (A : HO) l,(H.set r A ++ l)[r]? = some A := fun A l => by rw [zY2 (by simpa using hlt),zZs hlt]
  have h4 : ∀ (A : HO),(H.set r A).length = H.length := fun A => zZc ..
  have h5 : ∀ (A B : HO),(H.set r A).set r B = H.set r B := fun A B => List.set_set ..
  simp only [zY4,zZw] at hl
  by_cases hs : s = []
  ·subst hs
   repeat' (simp -implicitDefEqProofs (disch := omega) only [h1,h5,splice,zY4,push_cast,↓reduceIte,Nat.reduceEqDiff,reduceCtorEq,Nat.reduceAdd,Nat.reduceLeDiff,zYW])
   refine ⟨⟨hr0,.inr (.inl ⟨h1,rfl⟩)⟩,by simp,fun i hi => ?_,fun i cs hi hc => ?_⟩
   ·rw [zZj (by omega)]
   ·rw [zZj (fun e => hi e.symm)]; exact hc
  ·repeat' (first | refine zY1 (by omega) ?_ | simp -implicitDefEqProofs (disch := omega) only [h1,h2,h3,h4,splice,zFb u8T hs,push_cast,↓reduceIte,Nat.reduceEqDiff,reduceCtorEq,Nat.reduceAdd,Nat.reduceLeDiff,zYW])
   refine ⟨⟨hr0,.inr (.inr ⟨H.length,0,hn,by simpa using hs,?_,?_⟩)⟩,?_,?_,?_⟩
   ·rw [zY2 (by simpa using hlt),zZs hlt]
   ·rw [zYY (by simp)]; simp
   ·simp
   ·intro i hi
    rw [zY2 (by simp; omega),zZj (by omega)]
   ·intro i cs hi hc
    have := (zYU.1 hc).1
    rw [zY2 (by simpa using this),zZj (fun e => hi e.symm)]
    exact hc
 ·have hlt : r < H.length := (zYU.1 hr).1
  refine enter Tryz.func34 L34_ok (zY0 rfl) ?_
  simp -implicitDefEqProofs (disch := omega) only [L34,zS,zAQ,zAj,zAK,zAz,zAx,push_cast,↓reduceIte,Nat.reduceEqDiff,reduceCtorEq,Nat.reduceAdd,Nat.reduceSub,Nat.reduceMul,Nat.reduceLeDiff,Nat.reduceLT,Nat.reduceMod,Nat.reduceDiv,Int.reduceToNat,Int.reduceLT,Int.reduceLE,Int.reduceEq,Int.reduceAdd,Int.reduceSub,Int.reduceNeg,Int.reduceMul,zYW]
  refine zAm (zK2 r zAI H hr) ?_
  rintro x H' ⟨rfl,hH⟩
  rw [hH]
  clear hH H'
  have h3 : ∀ l,(H ++ l)[r]? = some (HO.box [.ptr r 0 0,zAI]) := fun l => by rw [zY2 hlt]; exact hr
  have h2 : ∀ (B : HO) l,(H ++ l).set r B = H.set r B ++ l := fun B l => by rw [zzat _ _ hlt]
  simp only [zY4,zZw] at hl
  by_cases hs : s = []
  ·subst hs
   repeat' (simp -implicitDefEqProofs (disch := omega) only [hr,splice,zY4,push_cast,↓reduceIte,Nat.reduceEqDiff,reduceCtorEq,Nat.reduceAdd,Nat.reduceLeDiff,zYW])
   refine ⟨⟨hr0,.inr (.inl ⟨by rw [zZs hlt],rfl⟩)⟩,by simp,fun i hi => ?_,fun i cs hi hc => ?_⟩
   ·rw [zZj (by omega)]
   ·rw [zZj (fun e => hi e.symm)]; exact hc
  ·repeat' (first | refine zY1 (by omega) ?_ | simp -implicitDefEqProofs (disch := omega) only [hr,h2,h3,splice,zFb u8T hs,push_cast,↓reduceIte,Nat.reduceEqDiff,reduceCtorEq,Nat.reduceAdd,Nat.reduceLeDiff,zYW])
   refine ⟨⟨hr0,.inr (.inr ⟨H.length,0,hn,by simpa using hs,?_,?_⟩)⟩,?_,?_,?_⟩
   ·rw [zY2 (by simpa using hlt),zZs hlt]
   ·rw [zYY (by simp)]; simp
   ·simp
   ·intro i hi
    rw [zY2 (by simp; omega),zZj (by omega)]
   ·intro i cs hi hc
    have := (zYU.1 hc).1
    rw [zY2 (by simpa using this),zZj (fun e => hi e.symm)]
    exact hc
 ·have hlt : r < H.length := (zYU.1 hr).1
  have hkl : k < H.length := (zYU.1 hk).1
  have hne : r ≠ k := fun e => by subst e; rw [hr] at hk; cases hk
  refine enter Tryz.func34 L34_ok (zY0 rfl) ?_
  simp -implicitDefEqProofs (disch := omega) only [L34,zS,zAQ,zAj,zAK,zAz,zAx,push_cast,↓reduceIte,Nat.reduceEqDiff,reduceCtorEq,Nat.reduceAdd,Nat.reduceSub,Nat.reduceMul,Nat.reduceLeDiff,Nat.reduceLT,Nat.reduceMod,Nat.reduceDiv,Int.reduceToNat,Int.reduceLT,Int.reduceLE,Int.reduceEq,Int.reduceAdd,Int.reduceSub,Int.reduceNeg,Int.reduceMul,zYW]
  refine zAm (zK2 r _ H hr) ?_
  rintro x H' ⟨rfl,hH⟩
  rw [hH]
  clear hH H'
  have h2 : ∀ A : HO,(H.set k A)[r]? = some (.box [.ptr r 0 0,.os k v 0 l.length]) := fun A => by rw [zZj (fun e => hne e.symm)]; exact hr
  repeat' (first | refine zY1 (by omega) ?_ | simp -implicitDefEqProofs (disch := omega) only [hr,hk,h2,splice,push_cast,↓reduceIte,Nat.reduceEqDiff,reduceCtorEq,Nat.reduceAdd,Nat.reduceLeDiff,zYW])
  refine ⟨⟨hr0,.inr (.inr ⟨k,v + 1,hk0,by simp [hl0],?_,?_⟩)⟩,?_,?_,?_⟩
  ·rw [zZs (by simpa using hlt),zY3]
  ·rw [zZj hne,zZs hkl]
  ·simp
  ·intro i hi
   rw [zZj (by omega),zZj (by omega)]
  ·intro i cs hi hc
   have hik : k ≠ i := fun e => by subst e; rw [hk] at hc; cases hc
   rw [zZj (fun e => hi e.symm),zZj hik]
   exact hc
theorem zUf : Go.Proofs.Lays.n169 Tryz.prog bldRen := {
 mixed := by kernel_rfl
 f169 := Tryz.func41.trans (congrArg some (by kernel_rfl))
 t0 := Tryz.underlying0
 a0 := Tryz.isAgg0
 z0 := Tryz.sizeOf0
 v0 := Tryz.zeroValue0
 t3 := Tryz.underlying3
 a3 := Tryz.isAgg3
 z3 := Tryz.sizeOf3
 v3 := Tryz.zeroValue3
 t9 := Tryz.underlying9
 a9 := Tryz.isAgg9
 z9 := Tryz.sizeOf9
 v9 := Tryz.zeroValue9
 t37 := Tryz.underlying80
 a37 := Tryz.isAgg80
 z37 := Tryz.sizeOf80
 v37 := Tryz.zeroValue80
 t70 := Tryz.underlying79
 a70 := Tryz.isAgg79
 z70 := Tryz.sizeOf79
 v70 := Tryz.zeroValue79
 t72 := Tryz.underlying82
 a72 := Tryz.isAgg82
 z72 := Tryz.sizeOf82
 v72 := Tryz.zeroValue82
 t127 := Tryz.underlying124
 a127 := Tryz.isAgg124
 z127 := Tryz.sizeOf124
 v127 := Tryz.zeroValue124 }
theorem zEi {P : Program} (w : World) (pt it ty e : TypeId) (hp : P.underlying pt = some (.pointer e)) (g o cells : Nat) (hsh : w.shape? g = some (e,cells)) (hc : P.cellsOf e = 1) (l : List UInt8) (h0 : l ≠ []) (hn : o + l.length ≤ cells) (h63 : l.length ≤ 9223372036854775807)
  (hlies : liesAt P P.depth e (cells / P.cellsOf e) o e l.length = true)
  (hcell : ∀ j x,l[j]? = some x → w.cell? ((⟨g,o,none⟩ : Addr).add j) = some (.int .u8 x.toNat)) :
  (Builtin.unsafeString_ #[pt,it] ty #[.pointer (some ⟨g,o,none⟩),.int .i64 l.length]).run P w = .ok (.string ⟨l.toArray⟩) (w.freeze ⟨g,o,none⟩ l.length) := by
 have hl : l.length ≠ 0 := by simpa using h0
 have hlb := Go.Lib.run_loadBytes (P := P) w l ⟨g,o,none⟩ .empty hcell
 have h63' : ¬ (9223372036854775807 : Int) < (l.length : Int) := by omega
 have hdef : Builtin.unsafeString_ #[pt,it] ty #[.pointer (some ⟨g,o,none⟩),.int .i64 l.length] =
   (do
    let n ← asInt (.int .i64 l.length)
    if n < 0 then runtimePanic (.error "unsafe.String: len out of range")
    if n > IntKind.i64.max then unsupported (.unsafePointer "String: a length above the largest int")
    if n = 0 then pure (.string .empty)
    else if ← variablesAt ⟨g,o,none⟩ (← elemOf pt) n.toNat then do
     let s ← loadBytes ⟨g,o,none⟩ .empty n.toNat
     freeze ⟨g,o,none⟩ n.toNat
     pure (.string s)
    else unsupported (.unsafePointer "String: not so many bytes at ptr")) := rfl
 rw [hdef]
 have hmax : IntKind.i64.max = 9223372036854775807 := rfl
 have hneg : ¬ (l.length : Int) < 0 := by omega
 simp [asInt,asIntOf,hmax,h63',hneg,hl,variablesAt,hsh,elemOf,run_underlying hp,hlies,hlb]
theorem zLJ {P : Program} {e : TypeId} (hc : P.cellsOf e = 1) (count o n : Nat) (hn : o + n ≤ count) : liesAt P P.depth e count o e n = true := by
 have hd : P.depth = (2 * (P.types.size + Made.depth) + 1) + 1 := rfl
 rw [hd]
 simp only [liesAt,zZM]
 left
 rw [hd]
 simp [rowAt,hc,sameLayout]
 try omega
theorem zFO (b : Nat) (p v : Value) (l : List UInt8) (w : World) {T : TypeId} {fr0 : Nat × Nat} (hbk : w.heap[b]? = some (.cells #[p,v] T fr0))
    (hv : (v = .slice none 0 0 ∧ l = []) ∨ (l ≠ [] ∧ ∃ g o cap cur fr,v = .slice (some ⟨g,o,none⟩) l.length cap ∧ l.length ≤ cap ∧ w.heap[g]? = some (.cells cur u8T fr) ∧ o + l.length ≤ cur.size ∧ l.length ≤ 140737488355328 ∧ ∀ (i : Nat) (x : UInt8),l[i]? = some x → cur[o + i]? = some (.int .u8 x.toNat))) :
    Calls Tryz.prog 41 #[.pointer (some ⟨b,0,none⟩)] w fun e w' => e = .returned (.string (mkS l)) ∧ Same w w' ∧ ∀ k,k < w.heap.size → (∀ a n c,v = .slice (some a) n c → k ≠ a.block) → w'.heap[k]? = w.heap[k]? := by
  have L := zUf
  have mixed := L.mixed
  have t72 := L.t72; have a72 := L.a72; have z72 := L.z72; have v72 := L.v72; have u72 := run_underlying L.t72
  have t70 := L.t70; have a70 := L.a70; have z70 := L.z70; have v70 := L.v70; have u70 := run_underlying L.t70
  have t37 := L.t37; have a37 := L.a37; have z37 := L.z37; have v37 := L.v37; have u37 := run_underlying L.t37
  have t127 := L.t127; have a127 := L.a127; have z127 := L.z127; have v127 := L.v127; have u127 := run_underlying L.t127
  have t3 := L.t3; have a3 := L.a3; have z3 := L.z3; have v3 := L.v3; have u3 := run_underlying L.t3
  have t9 := L.t9; have a9 := L.a9; have z9 := L.z9; have v9 := L.v9; have u9 := run_underlying L.t9
  rcases hv with ⟨rfl,rfl⟩ | ⟨h0,g,o,cap,cur,fr,rfl,hlc,hg,hfit,hle,hcells⟩
  · have hUS : ∀ (W : World) (q : Option Addr),(Builtin.unsafeString_ #[(bldRen.t 127),(bldRen.t 3)] (bldRen.t 9) #[.pointer q,.int .i64 0]).run Tryz.prog W = .ok (.string .empty) W := fun W q => Go.Lib.run_unsafeString_none W _ _ _ q
    have c1 : w.drew.cell? ⟨b,1,none⟩ = some (.slice none 0 0) := by
      have : w.drew.heap[b]? = some (.cells #[p,.slice none 0 0] T fr0) := hbk
      rw [Go.Lib.cell_of_heap this]; rfl
    have hSD : (Builtin.unsafeSliceData_ #[(bldRen.t 37)] (bldRen.t 127) #[.slice none 0 0]).run Tryz.prog w.drew = .ok (.pointer none) w.drew := rfl
    go_enter L.f169,Go.Proofs.Body.n169_ntmps bldRen
    go_wp2
    go_region_o
    all_goals (go_wp2; go_ret; exact ⟨rfl,Same.drew _,fun _ _ _ => rfl⟩)
  · have hcl : Tryz.prog.cellsOf u8T = 1 := by kernel_rfl
    have hl0 : l.length ≠ 0 := by simpa using h0
    have c1 : w.drew.cell? ⟨b,1,none⟩ = some (.slice (some ⟨g,o,none⟩) l.length cap) := by
      have : w.drew.heap[b]? = some (.cells #[p,.slice (some ⟨g,o,none⟩) l.length cap] T fr0) := hbk
      rw [Go.Lib.cell_of_heap this]; rfl
    have hSD : (Builtin.unsafeSliceData_ #[(bldRen.t 37)] (bldRen.t 127) #[.slice (some ⟨g,o,none⟩) l.length cap]).run Tryz.prog w.drew = .ok (.pointer (some ⟨g,o,none⟩)) w.drew :=
      Go.Lib.run_unsafeSliceData_row _ _ _ _ _ _ (by omega)
    have hUS : (Builtin.unsafeString_ #[(bldRen.t 127),(bldRen.t 3)] (bldRen.t 9) #[.pointer (some ⟨g,o,none⟩),.int .i64 l.length]).run Tryz.prog w.drew = .ok (.string ⟨l.toArray⟩) (w.drew.freeze ⟨g,o,none⟩ l.length) := by
      have hg' : w.drew.heap[g]? = some (.cells cur u8T fr) := hg
      refine zEi w.drew _ _ _ u8T L.t127 g o cur.size (by simp [World.shape?,hg']) hcl l h0 hfit (by omega) (zLJ hcl _ _ _ (by rw [hcl]; simpa using hfit)) ?_
      intro j x hx
      rw [Addr.add_lit,zAD hg']
      exact hcells j x hx
    go_enter L.f169,Go.Proofs.Body.n169_ntmps bldRen
    go_wp2
    go_region_o
    all_goals (go_wp2; go_ret; refine ⟨rfl,?_,fun k _ hk => ?_⟩)
    all_goals first
      | (unfold World.freeze; rw [if_neg hl0]; exact ⟨rfl,rfl,rfl,by simp⟩)
      | (unfold World.freeze
         rw [if_neg hl0]
         simp only [zzaM]
         rw [if_neg (fun e => hk _ _ _ rfl e.symm)]
         rfl)
theorem zRH (n0 r : Nat) (l : List UInt8) (H : zA) (hb : BSt n0 r l H) (hl : l.length ≤ 140737488355328) : ACall Tryz.prog 41 [.ptr r 0 0] H fun x H' => x = str l ∧ Kp n0 r H H' := by
 refine ⟨⟨_,Tryz.func41,by kernel_rfl,by kernel_rfl⟩,fun X ρ w vs hrel hargs => ?_⟩
 obtain ⟨a,rfl,ha⟩ := zR9 hargs
 have nilcase : ∀ x0,H[r]? = some (.box [x0,zAI]) → l = [] → Calls Tryz.prog 41 #[a] w fun e w' => ∃ v x H' ρ',e = .returned v ∧ (x = str l ∧ Kp n0 r H H') ∧ HRel w' X ρ' H' ∧ Rep w' (Mut X ρ' H'.length) ρ' H'.length x v ∧ Fut w ρ H.length w' ρ' H'.length := by
  intro x0 hr hl0
  obtain ⟨hrl,b,c,e,fr,hblk,rfl,hh,hcl,hfr,hver,hrep⟩ := zCQ hrel ha hr rfl
  obtain ⟨c0,c1,rfl⟩ : ∃ c0 c1,c = #[c0,c1] := by
   match c,hcl with
   | ⟨[a,b]⟩,_ => exact ⟨a,b,rfl⟩
  have h1 := zMN (hrep 1 zAI c1 rfl rfl).1
  subst h1
  refine (zFO b c0 _ l w hh (.inl ⟨rfl,hl0⟩)).mono ?_
  rintro en w' ⟨rfl,hs,hk⟩
  obtain ⟨g1,g2⟩ := hrel.more hs fun k hk' => hk k hk' fun a n c hc => by cases hc
  exact ⟨_,_,H,ρ,rfl,⟨rfl,Kp.refl _ _ _⟩,g1,.v _ _,g2⟩
 obtain ⟨hr0,⟨hr,hl0⟩ | ⟨hr,hl0⟩ | ⟨k,v,hk0,hl0,hr,hk⟩⟩ := hb
 ·exact nilcase _ hr hl0
 ·exact nilcase _ hr hl0
 ·obtain ⟨hrl,b,c,e,fr,hblk,rfl,hh,hcl,hfr,hver,hrep⟩ := zCQ hrel ha hr rfl
  obtain ⟨c0,c1,rfl⟩ : ∃ c0 c1,c = #[c0,c1] := by
   match c,hcl with
   | ⟨[a,b]⟩,_ => exact ⟨a,b,rfl⟩
  have h1 := (hrep 1 (.os k v 0 l.length) c1 rfl rfl).1
  obtain ⟨hkl,hver',hsz',hext,⟨a,cap,rfl,hlc,hcap⟩,hbk⟩ := zNg hrel h1 hk rfl
  have hll : l.length ≠ 0 := by simpa using hl0
  rcases hcap with hc0 | ⟨g,o,hg,rfl,he⟩
  ·omega
  rw [hg] at hbk
  obtain ⟨cur,fr2,hh2,hsize,hfr2,hcells⟩ := hbk
  rw [hsz'] at he
  simp only [zzbs,zZJ,zZw,zzbx] at he hh
  refine (zFO b c0 _ l w hh (.inr ⟨hl0,g,o,cap,cur,fr2,rfl,hlc,hh2,by omega,hl,hcells⟩)).mono ?_
  rintro en w' ⟨rfl,hs,hkp⟩
  obtain ⟨ρ',hρ,g1,g2⟩ := hrel.setAt (w' := w') hkl (ρ k) .dead hs (.inl rfl) (fun b o hb => .inl ⟨o,hb⟩)
   (fun b' hb' hne => hkp b' hb' fun a n c hc => by
    cases hc
    exact fun e => hne o (by rw [e]; exact hg))
   (fun ρ' hρ' hf => trivial)
  refine ⟨_,_,H.set k .dead,ρ',rfl,⟨rfl,by simp,fun i hi => ?_,fun i cs hi hc => ?_⟩,g1,.v _ _,g2⟩
  ·rw [zZj (by omega)]
  ·rw [zZj (fun e => by subst e; rw [hk] at hc; cases hc)]
   exact hc
end Go.Proofs.YtbibhcmcjldhdaaGreatDoor
namespace Go.Proofs.YtbibhcmcjldhdaaGreatDoor
open Go Go.Ax
set_option maxRecDepth 100000
set_option linter.unusedSimpArgs false
set_option maxHeartbeats 4000000
def L13f : LFn := ⟨59,[(.tmp 2)],(.seq (.ops [oX 1 (.box false (.t 0)),oX 2 (.mv (.c (.v (.string (mkS [])))))]) (.seq (.seq (.ops [oA 11 1 1,oX 12 (cF 14 [(.t 11)]),oX 13 (.not (.t 12))]) (.cond (.t 13) (.seq (.ops [oX 2 (.mv (.c (.v (.string (mkS [])))))]) .ret) .skip)) (.seq (.ops [oX 3 (.allocb 82 [(.v (.pointer none)),zAI])]) (.seq (.ops [oX 14 (.mkfn (.func 33) [] [(.t 3)]),oX 4 (.alloc [(.v .nilFunc)]),oS 1 4 14]) (.seq (.ops [oX 5 (.alloc [(.v .nilFunc)])]) (.seq (.ops [oX 15 (.mkfn (.func 37) [] [(.t 4),(.t 5)]),oS 1 5 15]) (.seq (.seq (.ops [oD 16 0 1,oL 17 16,oX 18 (.len .slc (.t 17)),oX 19 (.mv (kI 0))]) (.block 0 (.loop (.seq (.ops [oX 20 (bI .lss (.t 19) (.t 18))]) (.seq (.cond (.t 20) .skip (.exit 0)) (.seq (.block 1 (.seq (.ops [oI 21 6 17 19,oA 22 6 21,oX 7 (.alloc [(.v (.string (mkS []))),(int 0),(int 0),(int 0),zAI,zAI]),oS 6 7 22]) (.seq (.ops [oD 23 0 7,oL 24 23,oX 25 (.bsl false 1 2 [(.v (.string (mkS [])))] [(0,(.c (.v (.string (mkS [112,114,111,99]))))),(1,(.t 24))]),oM 8 25]) (.seq (.seq (.ops [oD 26 1 7,oL 27 26,oD 28 2 7,oL 29 28,oD 30 3 7,oL 31 30,oX 32 (.bsl false 1 3 [(int 0)] [(0,(.t 27)),(1,(.t 29)),(2,(.t 31))]),oD 33 4 7,oL 34 33,oX 35 (.append 1 8 (.t 32) (.t 34)),oX 36 (.len .slc (.t 35)),oX 37 (.mv (kI 0))]) (.block 2 (.loop (.seq (.ops [oX 38 (bI .lss (.t 37) (.t 36))]) (.seq (.cond (.t 38) .skip (.exit 2)) (.seq (.block 3 (.seq (.ops [oI 39 1 35 37,oL 40 39,oM 10 40]) (.ops [oM 41 8,oM 42 10,oX 43 (cF 40 [(.t 42)]),oX 44 (.bsl true 1 1 [(.v (.string (mkS [])))] [(0,(.t 43))]),oX 45 (.append 1 16 (.t 41) (.t 44)),oM 8 45]))) (.ops [oX 46 (bI .add (.t 37) (kI 1)),oM 37 46]))))))) (.seq (.ops [oL 47 4,oM 48 8,oX 48 (.frz (.t 48)),oX 49 (.call (.t 47) [(kI 0),(.t 48)])]) (.seq (.ops [oL 50 5,oD 51 5 7,oL 52 51,oX 53 (.call (.t 50) [(kI 1),(.t 52)])]) (.ops [oL 54 4,oX 55 (.bsl true 1 1 [(.v (.string (mkS [])))] [(0,(.c (.v (.string (mkS [101,110,100])))))]),oX 56 (.call (.t 54) [(kI 0),(.t 55)])]))))))) (.ops [oX 57 (bI .add (.t 19) (kI 1)),oM 19 57]))))))) (.seq (.ops [oX 58 (cF 41 [(.t 3)]),oM 2 58]) .ret))))))))⟩
theorem L13f_ok : zAv Tryz.prog Tryz.f13 [⟨16,2,(.pre 48 (.frz (.t 48)))⟩,⟨3,0,.imm⟩,⟨14,3,.imm⟩,⟨18,1,.imm⟩] = some L13f := by kernel_rfl
def L33f : LFn := ⟨12,[],(.ops [oM 5 0,oX 6 (cF 35 [(.c (.v (.string (mkS [32,32])))),(.t 5)]),oM 7 1,oX 8 (cF 36 [(.t 7),(.c (.v (.string (mkS [32]))))]),oX 9 (.bin .str .add (.t 6) (.t 8)),oX 10 (.bin .str .add (.t 9) (.c (.v (.string (mkS [10]))))),oX 11 (cF 34 [(.t 2),(.t 10)])])⟩
theorem L33f_ok : zAv Tryz.prog Tryz.f33 [] = some L33f := by kernel_rfl
def L37f : LFn := ⟨89,[],(.seq (.ops [oM 14 1,oX 15 (.len .slc (.t 14)),oX 16 (.mv (kI 0))]) (.block 0 (.loop (.seq (.ops [oX 17 (bI .lss (.t 16) (.t 15))]) (.seq (.cond (.t 17) .skip (.exit 0)) (.seq (.block 1 (.seq (.ops [oI 18 5 14 16,oA 19 5 18,oX 7 (.alloc [(int 0),(int 0),(int 0),zAI,zAI]),oS 5 7 19]) (.seq (.draw [oD 20 3 7,oL 21 20,oD 22 4 7,oL 23 22,oM 8 21,oM 9 23,oX 10 (.mv (.c (.v (.string (mkS [101,108,115,101])))))] []) (.seq (.seq (.ops [oD 24 0 7,oL 25 24,oX 26 (bI .eql (.t 25) (kI 19))]) (.cond (.t 26) (.draw [oD 27 4 7,oL 28 27,oD 29 3 7,oL 30 29,oM 8 28,oM 9 30,oX 10 (.mv (.c (.v (.string (mkS [100,111])))))] []) .skip)) (.seq (.draw [oX 31 (cF 38 []),oD 32 0 7,oL 33 32,oI 34 1 31 33,oL 35 34] [oX 36 (.bsl false 1 1 [(.v (.string (mkS [])))] [(0,(.t 35))]),oM 11 36]) (.seq (.seq (.drawA [oD 37 1 7,oL 38 37,oD 39 2 7,oL 40 39,oX 41 (.bsl true 1 2 [(int 0)] [(0,(.t 38)),(1,(.t 40))]),oD 42 0 7,oL 43 42,oX 44 (cF 39 [(.t 43)]),oX 45 (.slicev .slc 1 (.t 41) none (some (.t 44))),oX 46 (.len .slc (.t 45)),oX 47 (.mv (kI 0))] [] []) (.block 2 (.loop (.seq (.ops [oX 48 (bI .lss (.t 47) (.t 46))]) (.seq (.cond (.t 48) .skip (.exit 2)) (.seq (.block 3 (.seq (.ops [oI 49 1 45 47,oL 50 49,oM 13 50]) (.ops [oM 51 11,oM 52 13,oX 53 (cF 40 [(.t 52)]),oX 54 (.bsl true 1 1 [(.v (.string (mkS [])))] [(0,(.t 53))]),oX 55 (.append 1 16 (.t 51) (.t 54)),oM 11 55]))) (.ops [oX 56 (bI .add (.t 47) (kI 1)),oM 47 56]))))))) (.seq (.ops [oL 57 2,oM 58 0,oM 59 11,oX 59 (.frz (.t 59)),oX 60 (.call (.t 57) [(.t 58),(.t 59)])]) (.seq (.ops [oD 61 0 7,oL 62 61,oX 63 (bI .eql (.t 62) (kI 18)),oM 64 63,oF 65 64 (.faddr 0 (.t 7)),oF 66 64 (.load false 1 (.t 65)),oF 67 64 (bI .eql (.t 66) (kI 19)),oP 68 64 (kB true) (.t 67)]) (.cond (.t 68) (.seq (.ops [oL 69 3,oM 70 0,oX 71 (bI .add (.t 70) (kI 1)),oM 72 8,oX 73 (.call (.t 69) [(.t 71),(.t 72)])]) (.seq (.ops [oL 74 2,oM 75 0,oM 76 10,oX 77 (.bsl true 1 1 [(.v (.string (mkS [])))] [(0,(.t 76))]),oX 78 (.call (.t 74) [(.t 75),(.t 77)])]) (.seq (.ops [oL 79 3,oM 80 0,oX 81 (bI .add (.t 80) (kI 1)),oM 82 9,oX 83 (.call (.t 79) [(.t 81),(.t 82)])]) (.ops [oL 84 2,oM 85 0,oX 86 (.bsl true 1 1 [(.v (.string (mkS [])))] [(0,(.c (.v (.string (mkS [101,110,100])))))]),oX 87 (.call (.t 84) [(.t 85),(.t 86)])])))) .skip))))))))) (.ops [oX 88 (bI .add (.t 16) (kI 1)),oM 16 88])))))))⟩
theorem L37f_ok : zAv Tryz.prog Tryz.f37 [⟨12,3,(.pre 59 (.frz (.t 59)))⟩,⟨7,4,.imm⟩,⟨7,8,.imm⟩,⟨10,3,.imm⟩,⟨15,3,.imm⟩,⟨17,2,.imm⟩,⟨6,5,.tail⟩,⟨7,0,(.drw [])⟩] = some L37f := by kernel_rfl
end Go.Proofs.YtbibhcmcjldhdaaGreatDoor
namespace Go.Ax
open Go
set_option linter.unusedSimpArgs false
set_option linter.unusedVariables false
theorem zB {α : Type} {G l : List α} {i : Nat} (h : i < G.length) : (G ++ l)[i]? = G[i]? := zY2 h
theorem zK {α : Type} {G l : List α} {i : Nat} {x : α} (h : i < G.length) : (G ++ l).set i x = G.set i x ++ l := zzat i x h
theorem zG {α : Type} {G : List α} {i j : Nat} {x : α} (h : ¬ i = j) : (G.set i x)[j]? = G[j]? := zZj h
theorem zH {α : Type} {G : List α} {i : Nat} {x : α} (h : i < G.length) : (G.set i x)[i]? = some x := zZs h
theorem zCd {α : Type} {G l : List α} {i j : Nat} {x : α} (h : i < G.length) : (G.set j x ++ l)[i]? = (G.set j x)[i]? := zY2 (by rw [zZc]; exact h)
theorem zT {α : Type} {G l : List α} {i j : Nat} {x y : α} (h : i < G.length) : (G.set j x ++ l).set i y = (G.set j x).set i y ++ l := zzat i y (by rw [zZc]; exact h)
theorem zBG {α : Type} {G : List α} {i j : Nat} {x y : α} (h : i < G.length) : ((G.set j x).set i y)[i]? = some y := zZs (by rw [zZc]; exact h)
theorem zBH {α : Type} {G l : List α} {i j k : Nat} {x y : α} (h : i < G.length) : ((G.set j x).set k y ++ l)[i]? = ((G.set j x).set k y)[i]? := zY2 (by rw [zZc,zZc]; exact h)
theorem zBF {α : Type} {G l : List α} {i j k : Nat} {x y z : α} (h : i < G.length) : ((G.set j x).set k y ++ l).set i z = ((G.set j x).set k y).set i z ++ l := zzat i z (by rw [zZc,zZc]; exact h)
theorem zBk {α : Type} {G : List α} {i j k : Nat} {x y z : α} (h : i < G.length) : (((G.set j x).set k y).set i z)[i]? = some z := zZs (by rw [zZc,zZc]; exact h)
theorem zF6 {H G : zA} (hl : H.length ≤ G.length) (h : ∀ i,i < H.length → G[i]? = H[i]?) : ∃ rest,G = H ++ rest := by
 refine ⟨G.drop H.length,?_⟩
 apply zzaB
 intro i
 by_cases hi : i < H.length
 ·rw [zY2 hi]; exact h i hi
 ·rw [zYY (by omega),zZQ]
  congr 1
  omega
end Go.Ax
namespace Go.Proofs.YtbibhcmcjldhdaaGreatDoor
open Go Go.Ax
set_option maxRecDepth 100000
set_option linter.unusedSimpArgs false
set_option maxHeartbeats 4000000
def L5 : LFn := ⟨41,[(.tmp 2)],(.seq (.ops [oX 1 (.box false (.t 0)),oX 2 (.mv (kB false))]) (.seq (.seq (.ops [oA 6 1 1,oX 7 (cF 6 [(.t 6)]),oX 8 (.not (.t 7))]) (.cond (.t 8) (.seq (.ops [oX 9 (cF 8 []),oM 2 9]) .ret) .skip)) (.seq (.ops [oA 10 1 1,oX 11 (cF 13 [(.t 10)]),oM 3 11]) (.seq (.seq (.ops [oA 12 1 1,oX 13 (cF 14 [(.t 12)]),oX 14 (.not (.t 13))]) (.cond (.t 14) (.seq (.ops [oM 15 3,oX 16 (.bin .str .eql (.t 15) (.c (.v (.string (mkS []))))),oM 17 16,oT 18 17 (cF 8 []),oP 19 17 (.t 18) (kB false),oM 2 19]) .ret) .skip)) (.seq (.ops [oM 21 3,oX 22 (cF 10 [(.t 21)]),oM 20 22,oE 23 20 0,oE 24 20 1,oX 4 (.alloc [zAI]),oS 1 4 23,oM 5 24]) (.seq (.ops [oM 25 5,oX 26 (bI .eql (.t 25) (kI 0)),oM 27 26,oT 28 27 (.load true 1 (.t 1)),oT 29 27 (.load true 1 (.t 4)),oT 30 27 (cF 12 [(.t 28),(.t 29)]),oP 31 27 (.t 30) (kB false),oM 32 31,oT 33 32 (.load true 1 (.t 4)),oT 34 32 (cF 13 [(.t 33)]),oT 35 32 (.mv (.t 3)),oT 36 32 (.bin .str .eql (.t 34) (.t 35)),oP 37 32 (.t 36) (kB false),oM 38 37,oT 39 38 (cF 8 []),oP 40 38 (.t 39) (kB false),oM 2 40]) .ret))))))⟩
theorem L5_ok : zAv Tryz.prog Tryz.f5 [] = some L5 := by kernel_rfl
def L6 : LFn := ⟨47,[(.tmp 2)],(.seq (.ops [oX 1 (.box false (.t 0)),oX 2 (.mv (kB false))]) (.seq (.ops [oX 3 (.mv (kI 0))]) (.seq (.seq (.ops [oX 4 (.mv (kI 0))]) (.block 0 (.loop (.seq (.seq (.ops [oM 5 4,oD 6 0 1,oL 7 6,oX 8 (.len .slc (.t 7)),oX 9 (bI .lss (.t 5) (.t 8))]) (.cond (.t 9) .skip (.exit 0))) (.seq (.block 1 (.seq (.ops [oM 12 3,oD 13 0 1,oL 14 13,oM 15 4,oI 16 6 14 15,oD 17 5 16,oL 18 17,oX 19 (cF 15 [(.t 18)]),oX 20 (bI .add (.t 12) (.t 19)),oM 3 20]) (.seq (.ops [oD 21 0 1,oL 22 21,oM 23 4,oI 24 6 22 23,oD 25 0 24,oL 26 25,oX 27 (.len .str (.t 26)),oX 28 (bI .gtr (.t 27) (kI 60)),oM 29 28,oF 30 29 (.faddr 0 (.t 1)),oF 31 29 (.load false 1 (.t 30)),oF 32 29 (.mv (.t 4)),oF 33 29 (.iaddr 6 (.t 31) (.t 32)),oF 34 29 (.faddr 4 (.t 33)),oF 35 29 (.load false 1 (.t 34)),oF 36 29 (.len .slc (.t 35)),oF 37 29 (bI .gtr (.t 36) (kI 200)),oP 38 29 (kB true) (.t 37)]) (.cond (.t 38) (.seq (.ops [oX 2 (.mv (kB false))]) .ret) .skip)))) (.ops [oM 10 4,oX 11 (bI .add (.t 10) (kI 1)),oM 4 11])))))) (.seq (.ops [oD 39 0 1,oL 40 39,oX 41 (.len .slc (.t 40)),oX 42 (bI .leq (.t 41) (kI 20)),oM 43 42,oT 44 43 (.mv (.t 3)),oT 45 43 (bI .leq (.t 44) (kI 500)),oP 46 43 (.t 45) (kB false),oM 2 46]) .ret))))⟩
theorem L6_ok : zAv Tryz.prog Tryz.f6 [] = some L6 := by kernel_rfl
def L12 : LFn := ⟨74,[(.tmp 4)],(.seq (.ops [oX 2 (.box false (.t 0)),oX 3 (.box false (.t 1)),oX 4 (.mv (kB false))]) (.seq (.seq (.ops [oD 8 0 2,oL 9 8,oX 10 (.len .slc (.t 9)),oD 11 0 3,oL 12 11,oX 13 (.len .slc (.t 12)),oX 14 (bI .neq (.t 10) (.t 13))]) (.cond (.t 14) (.seq (.ops [oX 4 (.mv (kB false))]) .ret) .skip)) (.seq (.seq (.ops [oX 5 (.mv (kI 0))]) (.block 0 (.loop (.seq (.seq (.ops [oM 15 5,oD 16 0 2,oL 17 16,oX 18 (.len .slc (.t 17)),oX 19 (bI .lss (.t 15) (.t 18))]) (.cond (.t 19) .skip (.exit 0))) (.seq (.block 1 (.seq (.drawA [oD 22 0 2,oL 23 22,oM 24 5,oI 25 6 23 24,oA 26 6 25,oD 27 0 3,oL 28 27,oM 29 5,oI 30 6 28 29,oA 31 6 30,oN (.mv (.c .any)),oN (.mv (.c .any)),oX 74 (.build [(.v (.bool false)),(.v (.bool false)),(.v (.bool false)),(.v (.bool false)),(.v (.bool false)),(.v (.bool false))] [(0,(6,(.t 26)))]),oN (.mv (.c .any))] [(oX 7 (.alloc [(.v (.string (mkS []))),(int 0),(int 0),(int 0),zAI,zAI]),[0,1,3,4,5,6,8,9]),(oS 6 7 31,[])] [oX 6 (.box false (.t 26))]) (.seq (.ops [oD 32 0 6,oL 33 32,oD 34 0 7,oL 35 34,oX 36 (.bin .str .neq (.t 33) (.t 35)),oM 37 36,oF 38 37 (.faddr 1 (.t 6)),oF 39 37 (.load false 1 (.t 38)),oF 40 37 (.faddr 1 (.t 7)),oF 41 37 (.load false 1 (.t 40)),oF 42 37 (bI .neq (.t 39) (.t 41)),oP 43 37 (kB true) (.t 42),oM 44 43,oF 45 44 (.faddr 2 (.t 6)),oF 46 44 (.load false 1 (.t 45)),oF 47 44 (.faddr 2 (.t 7)),oF 48 44 (.load false 1 (.t 47)),oF 49 44 (bI .neq (.t 46) (.t 48)),oP 50 44 (kB true) (.t 49),oM 51 50,oF 52 51 (.faddr 3 (.t 6)),oF 53 51 (.load false 1 (.t 52)),oF 54 51 (.faddr 3 (.t 7)),oF 55 51 (.load false 1 (.t 54)),oF 56 51 (bI .neq (.t 53) (.t 55)),oP 57 51 (kB true) (.t 56),oM 58 57,oF 59 58 (.faddr 4 (.t 6)),oF 60 58 (.load false 1 (.t 59)),oF 61 58 (.faddr 4 (.t 7)),oF 62 58 (.load false 1 (.t 61)),oF 63 58 (cF 31 [(.t 60),(.t 62)]),oF 64 58 (.not (.t 63)),oP 65 58 (kB true) (.t 64),oM 66 65,oF 67 66 (.faddr 5 (.t 6)),oF 68 66 (.load false 1 (.t 67)),oF 69 66 (.faddr 5 (.t 7)),oF 70 66 (.load false 1 (.t 69)),oF 71 66 (cF 32 [(.t 68),(.t 70)]),oF 72 66 (.not (.t 71)),oP 73 66 (kB true) (.t 72)]) (.cond (.t 73) (.seq (.ops [oX 4 (.mv (kB false))]) .ret) .skip)))) (.ops [oM 20 5,oX 21 (bI .add (.t 20) (kI 1)),oM 5 21])))))) (.seq (.ops [oX 4 (.mv (kB true))]) .ret))))⟩
theorem L12_ok : zAv Tryz.prog Tryz.f12 [⟨6,10,(.var 12)⟩,⟨6,0,(.drw [11,13])⟩] = some L12 := by kernel_rfl
def L14 : zT3 := ⟨108,[(.cell 2 false 1)],(.seq (.ops [oX 1 (.box false (.t 0)),oX 2 (.alloc [(.v (.bool false))])]) (.cut [oX 8 (.mkfn (.func 42) [] [(.t 2)])] (.t 8) [] (.seq (.seq (.ops [oD 9 0 1]) (.seq (.ops [oL 10 9]) (.seq (.ops [oX 11 (.len .slc (.t 10))]) (.seq (.ops [oX 12 (bI .leq (.t 11) (kI 8))]) (.seq (.ops []) (.seq (.callp (some 13) (.c (.fn (.func 25) [] [])) [(.t 12)]) (.ops []))))))) (.seq (.ops [oA 14 1 1,oX 15 (.build [zAI,(int 0),(int 0)] [(0,(1,(.t 14)))]),oX 16 (.box false (.t 15)),oM 3 16]) (.seq (.seq (.ops [oD 17 0 1,oL 18 17,oX 19 (.len .slc (.t 18)),oX 20 (.mv (kI 0))]) (.block 0 (.loop (.seq (.ops [oX 21 (bI .lss (.t 20) (.t 19))]) (.seq (.cond (.t 21) .skip (.exit 0)) (.seq (.block 1 (.seq (.ops [oM 22 20,oI 23 6 18 20,oA 24 6 23,oX 5 (.alloc [(.v (.string (mkS []))),(int 0),(int 0),(int 0),zAI,zAI]),oM 4 22,oS 6 5 24]) (.seq (.ops [oM 25 3,oM 26 4,oK 27 25,oD 28 1 27,oS 1 28 26]) (.seq (.seq (.ops [oD 29 0 5]) (.seq (.ops [oL 30 29]) (.seq (.ops [oX 31 (cF 43 [(.t 30)])]) (.seq (.ops [oM 32 31]) (.seq (.ops [oT 33 32 (.faddr 0 (.t 1))]) (.seq (.ops [oT 34 32 (.load false 1 (.t 33))]) (.seq (.ops [oT 35 32 (.mv (.t 4))]) (.seq (.ops [oT 36 32 (.slice .slc 6 (.t 34) none (some (.t 35)))]) (.seq (.ops [oT 37 32 (.mkfn (.func 45) [] [(.t 5)])]) (.seq (.ops [oT 38 32 (cF 44 [(.t 36),(.t 37)])]) (.seq (.ops [oT 39 32 (.not (.t 38))]) (.seq (.ops [oP 40 32 (.t 39) (kB false)]) (.seq (.ops []) (.seq (.callp (some 41) (.c (.fn (.func 25) [] [])) [(.t 40)]) (.ops []))))))))))))))) (.seq (.seq (.ops [oD 42 1 5]) (.seq (.ops [oL 43 42]) (.seq (.ops [oX 44 (bI .geq (.t 43) (kI 0))]) (.seq (.ops [oM 45 44]) (.seq (.ops [oT 46 45 (.faddr 1 (.t 5))]) (.seq (.ops [oT 47 45 (.load false 1 (.t 46))]) (.seq (.ops [oT 48 45 (.faddr 2 (.t 5))]) (.seq (.ops [oT 49 45 (.load false 1 (.t 48))]) (.seq (.ops [oT 50 45 (bI .leq (.t 47) (.t 49))]) (.seq (.ops [oP 51 45 (.t 50) (kB false)]) (.seq (.ops [oM 52 51]) (.seq (.ops [oT 53 52 (.faddr 2 (.t 5))]) (.seq (.ops [oT 54 52 (.load false 1 (.t 53))]) (.seq (.ops [oT 55 52 (bI .leq (.t 54) (kI 1024))]) (.seq (.ops [oP 56 52 (.t 55) (kB false)]) (.seq (.ops [oM 57 56]) (.seq (.ops [oT 58 57 (.faddr 3 (.t 5))]) (.seq (.ops [oT 59 57 (.load false 1 (.t 58))]) (.seq (.ops [oT 60 57 (bI .geq (.t 59) (kI (-1)))]) (.seq (.ops [oP 61 57 (.t 60) (kB false)]) (.seq (.ops [oM 62 61]) (.seq (.ops [oT 63 62 (.faddr 3 (.t 5))]) (.seq (.ops [oT 64 62 (.load false 1 (.t 63))]) (.seq (.ops [oT 65 62 (bI .leq (.t 64) (kI 128))]) (.seq (.ops [oP 66 62 (.t 65) (kB false)]) (.seq (.ops []) (.seq (.callp (some 67) (.c (.fn (.func 25) [] [])) [(.t 66)]) (.ops [])))))))))))))))))))))))))))) (.seq (.seq (.ops [oD 68 4 5]) (.seq (.ops [oL 69 68]) (.seq (.ops [oX 70 (.len .slc (.t 69))]) (.seq (.ops [oX 71 (bI .leq (.t 70) (kI 128))]) (.seq (.ops [oM 72 71]) (.seq (.ops [oT 73 72 (.faddr 3 (.t 5))]) (.seq (.ops [oT 74 72 (.load false 1 (.t 73))]) (.seq (.ops [oT 75 72 (bI .eql (.t 74) (kI (-1)))]) (.seq (.ops [oT 76 72 (.mv (.t 75))]) (.seq (.ops [oF 77 76 (.faddr 4 (.t 5))]) (.seq (.ops [oF 78 76 (.load false 1 (.t 77))]) (.seq (.ops [oF 79 76 (.len .slc (.t 78))]) (.seq (.ops [oF 80 76 (bI .eql (.t 79) (kI 0))]) (.seq (.ops [oT 81 72 (.pick (.t 76) (kB true) (.t 80))]) (.seq (.ops [oP 82 72 (.t 81) (kB false)]) (.seq (.ops []) (.seq (.callp (some 83) (.c (.fn (.func 25) [] [])) [(.t 82)]) (.ops [])))))))))))))))))) (.seq (.seq (.ops [oD 84 4 5,oL 85 84,oX 86 (.len .slc (.t 85)),oX 87 (.mv (kI 0))]) (.block 2 (.loop (.seq (.ops [oX 88 (bI .lss (.t 87) (.t 86))]) (.seq (.cond (.t 88) .skip (.exit 2)) (.seq (.block 3 (.seq (.ops [oI 89 1 85 87,oL 90 89,oM 7 90]) (.seq (.ops [oM 91 7]) (.seq (.ops [oX 92 (bI .geq (.t 91) (kI 0))]) (.seq (.ops [oM 93 92]) (.seq (.ops [oT 94 93 (.mv (.t 7))]) (.seq (.ops [oT 95 93 (.faddr 2 (.t 5))]) (.seq (.ops [oT 96 93 (.load false 1 (.t 95))]) (.seq (.ops [oT 97 93 (bI .lss (.t 94) (.t 96))]) (.seq (.ops [oP 98 93 (.t 97) (kB false)]) (.seq (.ops []) (.seq (.callp (some 99) (.c (.fn (.func 25) [] [])) [(.t 98)]) (.ops []))))))))))))) (.ops [oX 100 (bI .add (.t 87) (kI 1)),oM 87 100]))))))) (.seq (.ops [oM 101 3]) (.seq (.ops [oD 102 5 5]) (.seq (.ops [oL 103 102]) (.seq (.ops []) (.seq (.callp (some 104) (.c (.fn (.func 46) [] [])) [(.t 101),(.t 103),(kB true),(kI 1)]) (.seq (.ops [oX 105 (bI .eql (.t 104) (kI 0))]) (.seq (.ops []) (.seq (.callp (some 106) (.c (.fn (.func 25) [] [])) [(.t 105)]) (.ops [])))))))))))))))) (.ops [oX 107 (bI .add (.t 20) (kI 1)),oM 20 107]))))))) (.seq (.ops [oN (.store 1 (.t 2) (kB true))]) .ret))))))⟩
theorem L14_ok : zNF Tryz.prog Tryz.f14 [⟨2,4,.cut⟩,⟨8,12,.cut⟩,⟨9,25,.cut⟩,⟨10,15,.cut⟩,⟨14,8,.cut⟩,⟨16,3,.cut⟩,⟨16,5,.cut⟩] = some L14 := by kernel_rfl
def L15 : LFn := ⟨28,[(.tmp 2)],(.seq (.ops [oX 2 (.mv (kI 0))]) (.seq (.ops [oX 3 (.mv (kI 0))]) (.seq (.seq (.ops [oX 4 (.mv (kI 0))]) (.block 0 (.loop (.seq (.seq (.ops [oM 5 4,oM 6 0,oX 7 (.len .slc (.t 6)),oX 8 (bI .lss (.t 5) (.t 7))]) (.cond (.t 8) .skip (.exit 0))) (.seq (.block 1 (.draw [oM 11 3,oX 12 (bI .add (.t 11) (kI 1)),oM 13 0,oM 14 4,oI 15 5 13 14,oD 16 3 15,oL 17 16,oX 18 (cF 15 [(.t 17)]),oX 19 (bI .add (.t 12) (.t 18)),oM 20 0,oM 21 4,oI 22 5 20 21,oD 23 4 22,oL 24 23,oX 25 (cF 15 [(.t 24)]),oX 26 (bI .add (.t 19) (.t 25)),oM 3 26] [])) (.ops [oM 9 4,oX 10 (bI .add (.t 9) (kI 1)),oM 4 10])))))) (.seq (.ops [oM 27 3,oM 2 27]) .ret))))⟩
theorem L15_ok : zAv Tryz.prog Tryz.f15 [] = some L15 := by kernel_rfl
def L22 : zXf := ⟨12,[5],(.block 0 (.seq (.ops [oX 7 (.nili false (.t 5))]) (.cond (.t 7) (.ops [oM 2 5]) (.seq (.ops [oX 8 (.asrt 56 (.agg []) (.t 5)),oE 9 8 1,oE 10 8 0]) (.cond (.t 9) (.seq (.ops [oX 3 (.alloc []),oS 0 3 10]) (.ops [oX 11 (.build [zAI] []),oS 1 0 11,oN (.store 1 (.t 1) (kI 3))])) (.seq (.ops [oM 4 5]) (.ops [oM 6 4,oN (.panicv (.t 6))])))))))⟩
theorem L22_ok : zKE Tryz.prog Tryz.f22 [] = some L22 := by kernel_rfl
def L24 : LFn := ⟨25,[(.tmp 2)],(.seq (.ops [oX 2 (.mv (.c zAI))]) (.seq (.seq (.ops [oM 4 0,oK 5 4,oD 6 0 5,oL 7 6,oX 8 (.len .slc (.t 7)),oX 9 (bI .eql (.t 8) (kI 0))]) (.cond (.t 9) (.seq (.ops [oX 2 (.mv (.c zAI))]) .ret) .skip)) (.seq (.ops [oM 10 0,oK 11 10,oD 12 0 11,oL 13 12,oX 14 (.iaddr 1 (.t 13) (kI 0)),oL 15 14,oM 3 15]) (.seq (.ops [oM 16 0,oM 17 0,oK 18 17,oD 19 0 18,oL 20 19,oX 21 (.slice .slc 1 (.t 20) (some (kI 1)) none),oK 22 16,oD 23 0 22,oS 1 23 21]) (.seq (.ops [oM 24 3,oM 2 24,oX 2 (.frz (.t 2))]) .ret)))))⟩
theorem L24_ok : zAv Tryz.prog Tryz.f24 [⟨5,2,(.pre 2 (.frz (.t 2)))⟩] = some L24 := by kernel_rfl
def L25 : LFn := ⟨6,[],(.seq (.ops [oM 2 0,oX 3 (.not (.t 2))]) (.cond (.t 3) (.seq (.ops [oX 4 (.build [] [])]) (.seq (.ops []) (.pan 5 56 (.t 4)))) .skip))⟩
theorem L25_ok : zAv Tryz.prog Tryz.f25 [⟨1,1,.cut⟩] = some L25 := by kernel_rfl
def L32 : LFn := ⟨82,[(.tmp 4)],(.seq (.ops [oX 4 (.mv (kB false))]) (.seq (.seq (.ops [oM 6 0,oX 7 (.len .slc (.t 6)),oM 8 1,oX 9 (.len .slc (.t 8)),oX 10 (bI .neq (.t 7) (.t 9))]) (.cond (.t 10) (.seq (.ops [oX 4 (.mv (kB false))]) .ret) .skip)) (.seq (.seq (.ops [oX 5 (.mv (kI 0))]) (.block 0 (.loop (.seq (.seq (.ops [oM 11 5,oM 12 0,oX 13 (.len .slc (.t 12)),oX 14 (bI .lss (.t 11) (.t 13))]) (.cond (.t 14) .skip (.exit 0))) (.seq (.block 1 (.seq (.draw [oM 17 0,oM 18 5,oI 19 5 17 18,oD 20 0 19,oL 21 20,oM 22 1,oM 23 5,oI 24 5 22 23,oD 25 0 24,oL 26 25,oX 27 (bI .neq (.t 21) (.t 26)),oM 28 27,oF 29 28 (.mv (.t 0)),oF 30 28 (.mv (.t 5)),oF 31 28 (.iaddr 5 (.t 29) (.t 30)),oF 32 28 (.faddr 1 (.t 31)),oF 33 28 (.load false 1 (.t 32)),oF 34 28 (.mv (.t 1)),oF 35 28 (.mv (.t 5)),oF 36 28 (.iaddr 5 (.t 34) (.t 35)),oF 37 28 (.faddr 1 (.t 36)),oF 38 28 (.load false 1 (.t 37)),oF 39 28 (bI .neq (.t 33) (.t 38)),oP 40 28 (kB true) (.t 39),oM 41 40,oF 42 41 (.mv (.t 0)),oF 43 41 (.mv (.t 5)),oF 44 41 (.iaddr 5 (.t 42) (.t 43)),oF 45 41 (.faddr 2 (.t 44)),oF 46 41 (.load false 1 (.t 45)),oF 47 41 (.mv (.t 1)),oF 48 41 (.mv (.t 5)),oF 49 41 (.iaddr 5 (.t 47) (.t 48)),oF 50 41 (.faddr 2 (.t 49)),oF 51 41 (.load false 1 (.t 50)),oF 52 41 (bI .neq (.t 46) (.t 51)),oP 53 41 (kB true) (.t 52),oM 54 53,oF 55 54 (.mv (.t 0)),oF 56 54 (.mv (.t 5)),oF 57 54 (.iaddr 5 (.t 55) (.t 56)),oF 58 54 (.faddr 3 (.t 57)),oF 59 54 (.load false 1 (.t 58)),oF 60 54 (.mv (.t 1)),oF 61 54 (.mv (.t 5)),oF 62 54 (.iaddr 5 (.t 60) (.t 61)),oF 63 54 (.faddr 3 (.t 62)),oF 64 54 (.load false 1 (.t 63)),oF 65 54 (cF 32 [(.t 59),(.t 64)]),oF 66 54 (.not (.t 65)),oP 67 54 (kB true) (.t 66),oM 68 67,oF 69 68 (.mv (.t 0)),oF 70 68 (.mv (.t 5)),oF 71 68 (.iaddr 5 (.t 69) (.t 70)),oF 72 68 (.faddr 4 (.t 71)),oF 73 68 (.load false 1 (.t 72)),oF 74 68 (.mv (.t 1)),oF 75 68 (.mv (.t 5)),oF 76 68 (.iaddr 5 (.t 74) (.t 75)),oF 77 68 (.faddr 4 (.t 76)),oF 78 68 (.load false 1 (.t 77)),oF 79 68 (cF 32 [(.t 73),(.t 78)]),oF 80 68 (.not (.t 79)),oP 81 68 (kB true) (.t 80)] []) (.cond (.t 81) (.seq (.ops [oX 4 (.mv (kB false))]) .ret) .skip))) (.ops [oM 15 5,oX 16 (bI .add (.t 15) (kI 1)),oM 5 16])))))) (.seq (.ops [oX 4 (.mv (kB true))]) .ret))))⟩
theorem L32_ok : zAv Tryz.prog Tryz.f32 [] = some L32 := by kernel_rfl
def L38 : LFn := ⟨2,[(.tmp 0)],(.seq (.ops [oX 0 (.mv (.c zAI))]) (.seq (.ops [oX 1 (.bsl false 1 23 [(.v (.string (mkS [])))] [(0,(.c (.v (.string (mkS [112,117,115,104]))))),(1,(.c (.v (.string (mkS [108,111,97,100]))))),(2,(.c (.v (.string (mkS [115,116,111,114,101]))))),(3,(.c (.v (.string (mkS [108,111,97,100,97,116]))))),(4,(.c (.v (.string (mkS [115,116,111,114,101,97,116]))))),(5,(.c (.v (.string (mkS [97,100,100]))))),(6,(.c (.v (.string (mkS [115,117,98]))))),(7,(.c (.v (.string (mkS [109,117,108]))))),(8,(.c (.v (.string (mkS [100,105,118]))))),(9,(.c (.v (.string (mkS [109,111,100]))))),(10,(.c (.v (.string (mkS [101,113,117,97,108]))))),(11,(.c (.v (.string (mkS [117,110,101,113,117,97,108]))))),(12,(.c (.v (.string (mkS [108,101,115,115]))))),(13,(.c (.v (.string (mkS [97,116,109,111,115,116]))))),(14,(.c (.v (.string (mkS [103,114,101,97,116,101,114]))))),(15,(.c (.v (.string (mkS [97,116,108,101,97,115,116]))))),(16,(.c (.v (.string (mkS [110,101,103,97,116,101]))))),(17,(.c (.v (.string (mkS [110,111,116]))))),(18,(.c (.v (.string (mkS [105,102]))))),(19,(.c (.v (.string (mkS [108,111,111,112]))))),(20,(.c (.v (.string (mkS [99,97,108,108]))))),(21,(.c (.v (.string (mkS [114,101,116,117,114,110]))))),(22,(.c (.v (.string (mkS [97,115,115,101,114,116])))))]),oM 0 1,oX 0 (.frz (.t 0))]) .ret))⟩
theorem L38_ok : zAv Tryz.prog Tryz.f38 [⟨1,2,(.pre 0 (.frz (.t 0)))⟩] = some L38 := by kernel_rfl
def L39 : LFn := ⟨12,[(.tmp 2)],(.seq (.ops [oX 2 (.mv (kI 0))]) (.seq (.seq (.ops [oM 3 0]) (.block 0 (.seq (.seq (.ops [oX 5 (bI .eql (.t 3) (kI 0)),oM 4 5]) (.cond (.t 4) .skip (.seq (.ops [oX 6 (bI .eql (.t 3) (kI 1)),oM 4 6]) (.cond (.t 4) .skip (.seq (.ops [oX 7 (bI .eql (.t 3) (kI 2)),oM 4 7]) (.cond (.t 4) .skip (.ops [oX 8 (bI .eql (.t 3) (kI 20)),oM 4 8]))))))) (.cond (.t 4) (.seq (.ops [oX 2 (.mv (kI 1))]) .ret) (.seq (.seq (.ops [oX 10 (bI .eql (.t 3) (kI 3)),oM 9 10]) (.cond (.t 9) .skip (.ops [oX 11 (bI .eql (.t 3) (kI 4)),oM 9 11]))) (.cond (.t 9) (.seq (.ops [oX 2 (.mv (kI 2))]) .ret) .skip)))))) (.seq (.ops [oX 2 (.mv (kI 0))]) .ret)))⟩
theorem L39_ok : zAv Tryz.prog Tryz.f39 [] = some L39 := by kernel_rfl
def L42 : zXf := ⟨10,[4],(.block 0 (.seq (.ops [oX 6 (.nili false (.t 4))]) (.cond (.t 6) (.ops [oM 1 4]) (.seq (.ops [oX 7 (.asrt 56 (.agg []) (.t 4)),oE 8 7 1,oE 9 7 0]) (.cond (.t 8) (.seq (.ops [oX 2 (.alloc []),oS 0 2 9]) (.ops [oN (.store 1 (.t 0) (kB false))])) (.seq (.ops [oM 3 4]) (.ops [oM 5 3,oN (.panicv (.t 5))])))))))⟩
theorem L42_ok : zKE Tryz.prog Tryz.f42 [] = some L42 := by kernel_rfl
def L45 : LFn := ⟨9,[(.tmp 3)],(.seq (.ops [oX 2 (.box false (.t 0)),oX 3 (.mv (kB false))]) (.seq (.ops [oD 4 0 2,oL 5 4,oD 6 0 1,oL 7 6,oX 8 (.bin .str .eql (.t 5) (.t 7)),oM 3 8]) .ret))⟩
theorem L45_ok : zAv Tryz.prog Tryz.f45 [] = some L45 := by kernel_rfl
def L46 : LFn := ⟨282,[(.tmp 8)],(.seq (.ops [oX 8 (.mv (kI 0))]) (.seq (.seq (.ops [oM 21 3]) (.seq (.ops [oX 22 (bI .leq (.t 21) (kI 256))]) (.seq (.ops [oM 23 22]) (.seq (.ops [oF 24 23 (.mv (.t 1))]) (.seq (.ops [oF 25 23 (.len .slc (.t 24))]) (.seq (.ops [oF 26 23 (bI .eql (.t 25) (kI 0))]) (.seq (.ops [oP 27 23 (kB true) (.t 26)]) (.seq (.ops []) (.seq (.callp (some 28) (.c (.fn (.func 25) [] [])) [(.t 27)]) (.ops [])))))))))) (.seq (.draw [oM 29 0,oK 30 29,oD 31 0 30,oD 32 0 31,oL 33 32,oM 34 0,oK 35 34,oD 36 1 35,oL 37 36,oI 38 6 33 37,oA 39 6 38] [oX 9 (.alloc [(.v (.string (mkS []))),(int 0),(int 0),(int 0),zAI,zAI]),oS 6 9 39]) (.seq (.ops [oX 10 (.alloc [(int 0)]),oN (.store 1 (.t 10) (kI 0))]) (.seq (.ops [oX 40 (.mkfn (.func 73) [] [(.t 10)]),oM 11 40]) (.seq (.ops [oX 41 (.mkfn (.func 74) [] [(.t 9)]),oM 12 41]) (.seq (.seq (.ops [oM 42 1,oX 43 (.len .slc (.t 42)),oX 44 (.mv (kI 0))]) (.block 0 (.loop (.seq (.ops [oX 45 (bI .lss (.t 44) (.t 43))]) (.seq (.cond (.t 45) .skip (.exit 0)) (.seq (.block 1 (.seq (.ops [oI 46 5 42 44,oA 47 5 46,oX 14 (.alloc [(int 0),(int 0),(int 0),zAI,zAI]),oS 5 14 47]) (.seq (.ops [oM 48 0,oK 49 48,oD 50 2 49,oL 51 50,oX 52 (bI .add (.t 51) (kI 1)),oK 53 48,oD 54 2 53,oS 1 54 52]) (.seq (.seq (.ops [oM 55 0]) (.seq (.ops [oK 56 55]) (.seq (.ops [oD 57 2 56]) (.seq (.ops [oL 58 57]) (.seq (.ops [oX 59 (bI .leq (.t 58) (kI 32768))]) (.seq (.ops []) (.seq (.callp (some 60) (.c (.fn (.func 25) [] [])) [(.t 59)]) (.ops [])))))))) (.seq (.ops [oX 15 (.mv (kB false)),oX 16 (.mv (kB false)),oX 17 (.mv (kB false))]) (.seq (.seq (.ops [oD 61 0 14,oL 62 61]) (.block 2 (.seq (.ops [oX 75 (bI .eql (.t 62) (kI 0)),oM 74 75]) (.cond (.t 74) (.seq (.ops [oX 15 (.mv (kB true))]) (.seq (.seq (.ops [oD 76 1 14]) (.seq (.ops [oL 77 76]) (.seq (.ops [oX 78 (bI .geq (.t 77) (kI 0))]) (.seq (.ops [oM 79 78]) (.seq (.ops [oT 80 79 (.faddr 1 (.t 14))]) (.seq (.ops [oT 81 79 (.load false 1 (.t 80))]) (.seq (.ops [oT 82 79 (bI .leq (.t 81) (kI 999999999))]) (.seq (.ops [oP 83 79 (.t 82) (kB false)]) (.seq (.ops []) (.seq (.callp (some 84) (.c (.fn (.func 25) [] [])) [(.t 83)]) (.ops []))))))))))) (.seq (.ops [oM 85 11]) (.seq (.ops []) (.seq (.callp (some 86) (.t 85) [(kI 0),(kI 1)]) (.ops [])))))) (.seq (.ops [oX 88 (bI .eql (.t 62) (kI 1)),oM 87 88]) (.cond (.t 87) (.seq (.ops [oX 15 (.mv (kB true))]) (.seq (.seq (.ops [oM 89 12]) (.seq (.ops [oD 90 1 14]) (.seq (.ops [oL 91 90]) (.seq (.ops []) (.seq (.callp (some 92) (.t 89) [(.t 91)]) (.seq (.ops []) (.seq (.callp (some 93) (.c (.fn (.func 25) [] [])) [(.t 92)]) (.ops [])))))))) (.seq (.ops [oM 94 11]) (.seq (.ops []) (.seq (.callp (some 95) (.t 94) [(kI 0),(kI 1)]) (.ops [])))))) (.seq (.ops [oX 97 (bI .eql (.t 62) (kI 2)),oM 96 97]) (.cond (.t 96) (.seq (.ops [oX 15 (.mv (kB true))]) (.seq (.seq (.ops [oM 98 12]) (.seq (.ops [oD 99 1 14]) (.seq (.ops [oL 100 99]) (.seq (.ops []) (.seq (.callp (some 101) (.t 98) [(.t 100)]) (.seq (.ops []) (.seq (.callp (some 102) (.c (.fn (.func 25) [] [])) [(.t 101)]) (.ops [])))))))) (.seq (.ops [oM 103 11]) (.seq (.ops []) (.seq (.callp (some 104) (.t 103) [(kI 1),(kI (-1))]) (.ops [])))))) (.seq (.seq (.ops [oX 106 (bI .eql (.t 62) (kI 3)),oM 105 106]) (.cond (.t 105) .skip (.ops [oX 107 (bI .eql (.t 62) (kI 4)),oM 105 107]))) (.cond (.t 105) (.seq (.ops [oX 15 (.mv (kB true)),oX 16 (.mv (kB true))]) (.seq (.seq (.ops [oM 108 12]) (.seq (.ops [oD 109 1 14]) (.seq (.ops [oL 110 109]) (.seq (.ops []) (.seq (.callp (some 111) (.t 108) [(.t 110)]) (.seq (.ops [oM 112 111]) (.seq (.ops [oT 113 112 (.faddr 2 (.t 14))]) (.seq (.ops [oT 114 112 (.load false 1 (.t 113))]) (.seq (.ops [oT 115 112 (bI .geq (.t 114) (kI 1))]) (.seq (.ops [oP 116 112 (.t 115) (kB false)]) (.seq (.ops [oM 117 116]) (.seq (.ops [oT 118 117 (.faddr 2 (.t 14))]) (.seq (.ops [oT 119 117 (.load false 1 (.t 118))]) (.seq (.ops [oT 120 117 (.faddr 2 (.t 9))]) (.seq (.ops [oT 121 117 (.load false 1 (.t 120))]) (.seq (.ops [oT 122 117 (bI .leq (.t 119) (.t 121))]) (.seq (.ops [oP 123 117 (.t 122) (kB false)]) (.seq (.ops [oM 124 123]) (.seq (.ops [oT 125 124 (.mv (.t 12))]) (.seq (.ops [oT 126 124 (.faddr 1 (.t 14))]) (.seq (.ops [oT 127 124 (.load false 1 (.t 126))]) (.seq (.ops [oT 128 124 (.faddr 2 (.t 14))]) (.seq (.ops [oT 129 124 (.load false 1 (.t 128))]) (.seq (.ops [oT 130 124 (bI .add (.t 127) (.t 129))]) (.seq (.ops [oT 131 124 (bI .sub (.t 130) (kI 1))]) (.seq (.ops []) (.seq (.ti ⟨(some 132),(some (124,true)),(.call (.t 125) [(.t 131)])⟩) (.seq (.ops [oP 133 124 (.t 132) (kB false)]) (.seq (.ops []) (.seq (.callp (some 134) (.c (.fn (.func 25) [] [])) [(.t 133)]) (.ops []))))))))))))))))))))))))))))))) (.seq (.ops [oD 135 0 14,oL 136 135,oX 137 (bI .eql (.t 136) (kI 3))]) (.cond (.t 137) (.seq (.ops [oM 138 11]) (.seq (.ops []) (.seq (.callp (some 139) (.t 138) [(kI 1),(kI 0)]) (.ops [])))) (.seq (.ops [oM 140 11]) (.seq (.ops []) (.seq (.callp (some 141) (.t 140) [(kI 2),(kI (-2))]) (.ops [])))))))) (.seq (.seq (.ops [oX 143 (bI .eql (.t 62) (kI 16)),oM 142 143]) (.cond (.t 142) .skip (.ops [oX 144 (bI .eql (.t 62) (kI 17)),oM 142 144]))) (.cond (.t 142) (.seq (.ops [oM 145 11]) (.seq (.ops []) (.seq (.callp (some 146) (.t 145) [(kI 1),(kI 0)]) (.ops [])))) (.seq (.ops [oX 148 (bI .eql (.t 62) (kI 22)),oM 147 148]) (.cond (.t 147) (.seq (.ops [oM 149 11]) (.seq (.ops []) (.seq (.callp (some 150) (.t 149) [(kI 1),(kI (-1))]) (.ops [])))) (.seq (.ops [oX 152 (bI .eql (.t 62) (kI 18)),oM 151 152]) (.cond (.t 151) (.seq (.ops [oX 17 (.mv (kB true))]) (.seq (.seq (.ops [oM 153 11]) (.seq (.ops []) (.seq (.callp (some 154) (.t 153) [(kI 1),(kI (-1))]) (.ops [])))) (.seq (.ops [oM 155 2,oM 156 155,oT 157 156 (.load false 1 (.t 10)),oT 158 156 (bI .eql (.t 157) (kI 0)),oP 159 156 (.t 158) (kB false),oM 18 159]) (.seq (.seq (.ops [oM 160 0]) (.seq (.ops [oD 161 3 14]) (.seq (.ops [oL 162 161]) (.seq (.ops [oM 163 18]) (.seq (.ops [oM 164 3]) (.seq (.ops [oX 165 (bI .add (.t 164) (kI 1))]) (.seq (.ops []) (.seq (.callp (some 166) (.c (.fn (.func 46) [] [])) [(.t 160),(.t 162),(.t 163),(.t 165)]) (.seq (.ops [oM 19 166]) (.ops [])))))))))) (.seq (.seq (.ops [oM 167 0]) (.seq (.ops [oD 168 4 14]) (.seq (.ops [oL 169 168]) (.seq (.ops [oM 170 18]) (.seq (.ops [oM 171 3]) (.seq (.ops [oX 172 (bI .add (.t 171) (kI 1))]) (.seq (.ops []) (.seq (.callp (some 173) (.c (.fn (.func 46) [] [])) [(.t 167),(.t 169),(.t 170),(.t 172)]) (.seq (.ops [oM 174 19]) (.seq (.ops [oX 175 (bI .eql (.t 173) (.t 174))]) (.seq (.ops []) (.seq (.callp (some 176) (.c (.fn (.func 25) [] [])) [(.t 175)]) (.ops []))))))))))))) (.seq (.ops [oM 177 11]) (.seq (.ops [oM 178 19]) (.seq (.ops []) (.seq (.callp (some 179) (.t 177) [(kI 0),(.t 178)]) (.ops [])))))))))) (.seq (.ops [oX 181 (bI .eql (.t 62) (kI 19)),oM 180 181]) (.cond (.t 180) (.seq (.ops [oX 17 (.mv (kB true))]) (.seq (.ops [oL 182 10]) (.seq (.ops [oX 183 (bI .eql (.t 182) (kI 0))]) (.seq (.ops [oM 184 183]) (.seq (.ops [oT 185 184 (.mv (.t 2))]) (.seq (.ops [oP 186 184 (.t 185) (kB false)]) (.seq (.ops [oM 187 186]) (.seq (.ops [oT 188 187 (.mv (.t 0))]) (.seq (.ops [oT 189 187 (.faddr 3 (.t 14))]) (.seq (.ops [oT 190 187 (.load false 1 (.t 189))]) (.seq (.ops [oT 191 187 (.mv (.t 3))]) (.seq (.ops [oT 192 187 (bI .add (.t 191) (kI 1))]) (.seq (.ops []) (.seq (.ti ⟨(some 193),(some (187,true)),(cF 46 [(.t 188),(.t 190),(kB true),(.t 192)])⟩) (.seq (.ops [oT 194 187 (bI .eql (.t 193) (kI 0))]) (.seq (.ops [oP 195 187 (.t 194) (kB false)]) (.seq (.ops [oM 196 195]) (.seq (.ops [oT 197 196 (.mv (.t 0))]) (.seq (.ops [oT 198 196 (.faddr 4 (.t 14))]) (.seq (.ops [oT 199 196 (.load false 1 (.t 198))]) (.seq (.ops [oT 200 196 (.mv (.t 3))]) (.seq (.ops [oT 201 196 (bI .add (.t 200) (kI 1))]) (.seq (.ops []) (.seq (.ti ⟨(some 202),(some (196,true)),(cF 46 [(.t 197),(.t 199),(kB false),(.t 201)])⟩) (.seq (.ops [oT 203 196 (bI .eql (.t 202) (kI 1))]) (.seq (.ops [oP 204 196 (.t 203) (kB false)]) (.seq (.ops []) (.seq (.callp (some 205) (.c (.fn (.func 25) [] [])) [(.t 204)]) (.ops []))))))))))))))))))))))))))))) (.seq (.ops [oX 207 (bI .eql (.t 62) (kI 20)),oM 206 207]) (.cond (.t 206) (.seq (.ops [oX 15 (.mv (kB true))]) (.seq (.drawX [oD 208 1 14,oL 209 208,oX 210 (bI .geq (.t 209) (kI 0)),oM 211 210,oT 212 211 (.faddr 1 (.t 14)),oT 213 211 (.load false 1 (.t 212)),oT 214 211 (.mv (.t 0)),oT 215 211 (.nilchk (.t 214)),oT 216 211 (.faddr 1 (.t 215)),oT 217 211 (.load false 1 (.t 216)),oT 218 211 (bI .lss (.t 213) (.t 217)),oP 219 211 (.t 218) (kB false),oN (.mv (.c .any))] [(oX 220 (cF 25 [(.t 219)]),(true,[]))] []) (.seq (.draw [oM 221 0,oK 222 221,oD 223 0 222,oD 224 0 223,oL 225 224,oD 226 1 14,oL 227 226,oI 228 6 225 227,oA 229 6 228] [oX 20 (.alloc [(.v (.string (mkS []))),(int 0),(int 0),(int 0),zAI,zAI]),oS 6 20 229]) (.drawX [oM 230 11,oD 231 1 20,oL 232 231,oA 233 6 20,oN (.mv (.c .any)),oD 235 1 20,oL 236 235,oN (.mv (.c .any)),oN (.mv (.c .any))] [(oX 234 (cF 75 [(.t 233)]),(false,[1,2,5,6])),(oX 237 (bI .sub (.t 234) (.t 236)),(false,[1,2])),(oX 238 (.call (.t 230) [(.t 232),(.t 237)]),(true,[]))] [])))) (.seq (.ops [oX 240 (bI .eql (.t 62) (kI 21)),oM 239 240]) (.cond (.t 239) (.seq (.seq (.ops [oM 241 2]) (.seq (.ops [oM 242 241]) (.seq (.ops [oT 243 242 (.load false 1 (.t 10))]) (.seq (.ops [oT 244 242 (.faddr 3 (.t 9))]) (.seq (.ops [oT 245 242 (.load false 1 (.t 244))]) (.seq (.ops [oT 246 242 (.max2 (.t 245) (kI 0))]) (.seq (.ops [oT 247 242 (bI .eql (.t 243) (.t 246))]) (.seq (.ops [oP 248 242 (.t 247) (kB false)]) (.seq (.ops []) (.seq (.callp (some 249) (.c (.fn (.func 25) [] [])) [(.t 248)]) (.ops []))))))))))) (.ops [oN (.store 1 (.t 10) (kI 0))])) (.seq (.seq (.ops [oD 63 0 14]) (.seq (.ops [oL 64 63]) (.seq (.ops [oX 65 (bI .geq (.t 64) (kI 5))]) (.seq (.ops [oM 66 65]) (.seq (.ops [oT 67 66 (.faddr 0 (.t 14))]) (.seq (.ops [oT 68 66 (.load false 1 (.t 67))]) (.seq (.ops [oT 69 66 (bI .leq (.t 68) (kI 15))]) (.seq (.ops [oP 70 66 (.t 69) (kB false)]) (.seq (.ops []) (.seq (.callp (some 71) (.c (.fn (.func 25) [] [])) [(.t 70)]) (.ops []))))))))))) (.seq (.ops [oM 72 11]) (.seq (.ops []) (.seq (.callp (some 73) (.t 72) [(kI 2),(kI (-1))]) (.ops []))))))))))))))))))))))))))) (.seq (.ops [oM 250 15]) (.seq (.ops [oM 251 250]) (.seq (.ops [oF 252 251 (.faddr 1 (.t 14))]) (.seq (.ops [oF 253 251 (.load false 1 (.t 252))]) (.seq (.ops [oF 254 251 (bI .eql (.t 253) (kI 0))]) (.seq (.ops [oP 255 251 (kB true) (.t 254)]) (.seq (.ops [oM 256 255]) (.seq (.ops [oT 257 256 (.mv (.t 16))]) (.seq (.ops [oT 258 256 (.mv (.t 257))]) (.seq (.ops [oF 259 258 (.faddr 2 (.t 14))]) (.seq (.ops [oF 260 258 (.load false 1 (.t 259))]) (.seq (.ops [oF 261 258 (bI .eql (.t 260) (kI 0))]) (.seq (.ops [oT 262 256 (.pick (.t 258) (kB true) (.t 261))]) (.seq (.ops [oP 263 256 (.t 262) (kB false)]) (.seq (.ops [oM 264 263]) (.seq (.ops [oT 265 264 (.mv (.t 17))]) (.seq (.ops [oT 266 264 (.mv (.t 265))]) (.seq (.ops [oF 267 266 (.faddr 3 (.t 14))]) (.seq (.ops [oF 268 266 (.load false 1 (.t 267))]) (.seq (.ops [oF 269 266 (.len .slc (.t 268))]) (.seq (.ops [oF 270 266 (bI .eql (.t 269) (kI 0))]) (.seq (.ops [oF 271 266 (.mv (.t 270))]) (.seq (.ops [oT 272 271 (.faddr 4 (.t 14))]) (.seq (.ops [oT 273 271 (.load false 1 (.t 272))]) (.seq (.ops [oT 274 271 (.len .slc (.t 273))]) (.seq (.ops [oT 275 271 (bI .eql (.t 274) (kI 0))]) (.seq (.ops [oF 276 266 (.pick (.t 271) (.t 275) (kB false))]) (.seq (.ops [oT 277 264 (.pick (.t 266) (kB true) (.t 276))]) (.seq (.ops [oP 278 264 (.t 277) (kB false)]) (.seq (.ops []) (.seq (.callp (some 279) (.c (.fn (.func 25) [] [])) [(.t 278)]) (.ops [])))))))))))))))))))))))))))))))))))))) (.ops [oX 280 (bI .add (.t 44) (kI 1)),oM 44 280]))))))) (.seq (.ops [oL 281 10,oM 8 281]) .ret))))))))⟩
theorem L46_ok : zAv Tryz.prog Tryz.f46 [⟨1,7,.cut⟩,⟨10,5,.cut⟩,⟨17,8,.cut⟩,⟨18,1,.cut⟩,⟨21,3,.cut⟩,⟨21,4,.cut⟩,⟨22,1,.cut⟩,⟨25,3,.cut⟩,⟨25,4,.cut⟩,⟨26,1,.cut⟩,⟨30,3,.cut⟩,⟨30,24,.cut⟩,⟨30,26,.cut⟩,⟨32,1,.cut⟩,⟨33,1,.cut⟩,⟨36,1,.cut⟩,⟨38,1,.cut⟩,⟨41,1,.cut⟩,⟨43,6,.cut⟩,⟨44,6,.cut⟩,⟨44,9,.cut⟩,⟨45,2,.cut⟩,⟨48,11,.cut⟩,⟨48,20,.cut⟩,⟨48,23,.cut⟩,⟨51,12,.cut⟩,⟨53,8,.cut⟩,⟨55,8,.cut⟩,⟨13,8,.cut⟩,⟨14,1,.cut⟩,⟨57,29,.cut⟩,⟨2,11,.tail⟩,⟨51,0,(.drw [12])⟩,⟨52,9,.tail⟩,⟨53,0,(.drw [4,7,8])⟩] = some L46 := by kernel_rfl
def L73 : LFn := ⟨15,[],(.seq (.seq (.ops [oL 5 2]) (.seq (.ops [oM 6 0]) (.seq (.ops [oX 7 (bI .geq (.t 5) (.t 6))]) (.seq (.ops []) (.seq (.callp (some 8) (.c (.fn (.func 25) [] [])) [(.t 7)]) (.ops [])))))) (.seq (.ops [oL 9 2,oM 10 1,oX 11 (bI .add (.t 9) (.t 10)),oS 1 2 11]) (.seq (.ops [oL 12 2]) (.seq (.ops [oX 13 (bI .leq (.t 12) (kI 1024))]) (.seq (.ops []) (.seq (.callp (some 14) (.c (.fn (.func 25) [] [])) [(.t 13)]) (.ops [])))))))⟩
theorem L73_ok : zAv Tryz.prog Tryz.f73 [⟨0,3,.cut⟩,⟨2,2,.cut⟩] = some L73 := by kernel_rfl
def L74 : LFn := ⟨12,[(.tmp 3)],(.seq (.ops [oX 3 (.mv (kB false))]) (.seq (.ops [oM 4 0,oX 5 (bI .geq (.t 4) (kI 0)),oM 6 5,oT 7 6 (.mv (.t 0)),oT 8 6 (.faddr 2 (.t 1)),oT 9 6 (.load false 1 (.t 8)),oT 10 6 (bI .lss (.t 7) (.t 9)),oP 11 6 (.t 10) (kB false),oM 3 11]) .ret))⟩
theorem L74_ok : zAv Tryz.prog Tryz.f74 [] = some L74 := by kernel_rfl
def L75 : LFn := ⟨11,[(.tmp 2)],(.seq (.ops [oX 1 (.box false (.t 0)),oX 2 (.mv (kI 0))]) (.seq (.seq (.ops [oD 3 3 1,oL 4 3,oX 5 (bI .geq (.t 4) (kI 0))]) (.cond (.t 5) (.seq (.ops [oD 6 3 1,oL 7 6,oM 2 7]) .ret) .skip)) (.seq (.ops [oD 8 4 1,oL 9 8,oX 10 (.len .slc (.t 9)),oM 2 10]) .ret)))⟩
theorem L75_ok : zAv Tryz.prog Tryz.f75 [] = some L75 := by kernel_rfl
end Go.Proofs.YtbibhcmcjldhdaaGreatDoor
namespace Go.Proofs.YtbibhcmcjldhdaaGreatDoor
open Go Go.Ax Go.RowKit
set_option maxRecDepth 100000
set_option linter.unusedSimpArgs false
set_option linter.unusedVariables false
set_option maxHeartbeats 4000000
def zCD (d : Nat) (ws : Ln) : Wd := Lib.repeatL [32,32] d ++ (Lib.join ws [32] ++ [10])
theorem zRI (s : List UInt8) (c : Nat) (hc : c ≤ 9223372036854775807) (hl : s.length * c ≤ 140737488355328) (H : zA) :
  ACall Tryz.prog 35 [str s,int c] H fun x H' => x = str (Lib.repeatL s c) ∧ H' = H := by
 refine ⟨⟨_,Tryz.func35,by kernel_rfl,by kernel_rfl⟩,fun X ρ w vs hrel hargs => ?_⟩
 obtain ⟨a,b,rfl,ha,hb⟩ := zFs hargs
 have ha := zDz ha
 have hb := zDz hb
 subst ha
 subst hb
 refine (Tryz.strings_Repeat (mkS s) c w hc (by rw [zPt]; exact hl)).mono ?_
 rintro e w' ⟨rfl,hbel⟩
 obtain ⟨f1,f2⟩ := hrel.more ⟨hbel.os,hbel.tape,hbel.output,hbel.size⟩ hbel.block
 exact ⟨_,_,H,ρ,rfl,⟨rfl,rfl⟩,f1,.v _ _,f2⟩
def zBQ : Ln → Nat
 | [] => 0
 | w :: l => w.length + 1 + zBQ l
theorem zF8 : ∀ l : Ln,(Lib.join l [32]).length ≤ zBQ l
 | [] => by simp [Lib.join,zBQ]
 | [w] => by rw [Lib.join_one]; simp [zBQ]
 | w :: x :: l => by
  have := zF8 (x :: l)
  have e : Lib.join (w :: x :: l) [32] = w ++ 32 :: Lib.join (x :: l) [32] := by simp [Lib.join,List.intercalate,List.intersperse]
  rw [e]
  simp only [zY3,zYZ,zBQ] at this ⊢
  omega
theorem zCw (d : Nat) (ws : Ln) : (zCD d ws).length ≤ 2 * d + zBQ ws + 1 := by
 have := zF8 ws
 unfold zCD
 simp only [zY3,Lib.repeatL_length,zYZ,zY4]
 omega
theorem zIK (n0 r : Nat) (l : List UInt8) (d : Nat) (ws : Ln) (H : zA) (hb : BSt n0 r l H) (hn : n0 ≤ H.length) (hd : d ≤ 1000000) (hw : ws.length ≤ 1000000) (hl : l.length + (zBQ ws + 2 * d + 1) ≤ 140737488355328) :
  ACall Tryz.prog 33 [int d,.sl 1 (ws.map fun x => [str x]),.ptr r 0 0] H fun x H' => x = .tup [] ∧ BSt n0 r (l ++ zCD d ws) H' ∧ Kp n0 r H H' := by
 have hj := zF8 ws
 have hlt := zCw d ws
 refine enter Tryz.func33 L33f_ok (zY0 rfl) ?_
 have cR := fun H => zRI [32,32] d (by omega) (by simp only [zYZ,zY4]; omega) H
 have cJ := fun H => zYr ws [32] (by omega) (by omega) H
 repeat' (first | refine zC (cR _) ?_ | refine zC (cJ _) ?_ | simp -implicitDefEqProofs (disch := omega) only [L33f,push_cast,↓reduceIte,Nat.reduceEqDiff,reduceCtorEq,Nat.reduceAdd])
 have hr := Lib.repeatL_length [32,32] d
 simp only [zYZ,zY4] at hr
 refine ⟨by omega,by omega,?_⟩
 refine zAm (zT4 n0 r l (zCD d ws) H hb hn (by omega)) ?_
 rintro x G ⟨rfl,h1,h2⟩
 repeat' (simp -implicitDefEqProofs (disch := omega) only [push_cast])
 exact ⟨by simp [zAA],rfl,h1,h2⟩
theorem zMl (H : zA) : ACall Tryz.prog 38 [] H fun x H' => x = .sl 1 (opsW.map fun w => [str w]) ∧ H' = H := by
 refine ACall.drop (R := fun x => x = .sl 1 (opsW.map fun w => [str w])) ?_
 refine enter Tryz.func38 L38_ok (zY0 rfl) ?_
 simp -implicitDefEqProofs (disch := omega) only [L38,zB,zK,zG,zH,zCd,zT,zBG,zBH,zBF,zBk,opsW,zS,zAQ,zAj,zAK,zAz,zAx,push_cast,↓reduceIte,Nat.reduceEqDiff,reduceCtorEq,Nat.reduceAdd,Nat.reduceSub,Nat.reduceMul,Nat.reduceLeDiff,Nat.reduceLT,Nat.reduceMod,Nat.reduceDiv,Int.reduceToNat,Int.reduceLT,Int.reduceLE,Int.reduceEq,Int.reduceAdd,Int.reduceSub,Int.reduceNeg,Int.reduceMul,zYW]
 all_goals exact ⟨_,rfl⟩
theorem zGN (o : Nat) (H : zA) : ACall Tryz.prog 39 [int o] H fun x H' => x = int (zCE o) ∧ H' = H := by
 refine ACall.drop (R := fun x => x = int (zCE o)) ?_
 refine enter Tryz.func39 L39_ok (zY0 rfl) ?_
 unfold zCE
 by_cases h0 : o = 0
 ·repeat' (first | refine zY1 (by omega) ?_ | simp -implicitDefEqProofs (disch := omega) only [L39,zAz,push_cast,↓reduceIte,reduceCtorEq,Nat.reduceAdd,Int.reduceAdd] | split)
  all_goals exact ⟨[],(zZA _).symm⟩
 by_cases h1 : o = 1
 ·repeat' (first | refine zY1 (by omega) ?_ | simp -implicitDefEqProofs (disch := omega) only [L39,zAz,zAx,push_cast,↓reduceIte,Nat.reduceEqDiff,reduceCtorEq,Nat.reduceAdd,Int.reduceAdd] | split)
  all_goals exact ⟨[],(zZA _).symm⟩
 by_cases h2 : o = 2
 ·repeat' (first | refine zY1 (by omega) ?_ | simp -implicitDefEqProofs (disch := omega) only [L39,zAz,zAx,push_cast,↓reduceIte,Nat.reduceEqDiff,reduceCtorEq,Nat.reduceAdd,Int.reduceAdd] | split)
  all_goals exact ⟨[],(zZA _).symm⟩
 by_cases h3 : o = 20
 ·repeat' (first | refine zY1 (by omega) ?_ | simp -implicitDefEqProofs (disch := omega) only [L39,zAz,zAx,push_cast,↓reduceIte,Nat.reduceEqDiff,reduceCtorEq,Nat.reduceAdd,Int.reduceAdd] | split)
  all_goals exact ⟨[],(zZA _).symm⟩
 by_cases h4 : o = 3
 ·repeat' (first | refine zY1 (by omega) ?_ | simp -implicitDefEqProofs (disch := omega) only [L39,zAz,zAx,push_cast,↓reduceIte,Nat.reduceEqDiff,reduceCtorEq,Nat.reduceAdd,Int.reduceAdd] | split)
  all_goals exact ⟨[],(zZA _).symm⟩
 by_cases h5 : o = 4
 ·repeat' (first | refine zY1 (by omega) ?_ | simp -implicitDefEqProofs (disch := omega) only [L39,zAz,zAx,push_cast,↓reduceIte,Nat.reduceEqDiff,reduceCtorEq,Nat.reduceAdd,Int.reduceAdd] | split)
  all_goals exact ⟨[],(zZA _).symm⟩
 repeat' (first | refine zY1 (by omega) ?_ | simp -implicitDefEqProofs (disch := omega) only [L39,zAx,push_cast,↓reduceIte,Nat.reduceEqDiff,reduceCtorEq,Nat.reduceAdd] | split)
 all_goals exact ⟨[],(zZA _).symm⟩
end Go.Proofs.YtbibhcmcjldhdaaGreatDoor
namespace Go.Ax
open Go Go.RowKit
set_option linter.unusedSimpArgs false
set_option linter.unusedVariables false
section
variable {P : Program} {w w0 w1 : World} {X : Nat → Prop} {ρ ρ0 ρ1 : Nat → Loc} {H H1 : zA} {e e1 : Env} {a a1 : Act} {n n0 : Nat}
def zQ3 : Option Value → FrameMode
 | none => .returning
 | some z => .panicking [{ v := z,recovered := false }]
def zCi : Option Value → FrameMode
 | none => .returning
 | some z => .panicking [{ v := z,recovered := true }]
theorem zFa (m : Option Value) : settle (zCi m) = .returning := by cases m <;> rfl
def zQx (P : Program) (k : FuncId) (args : List AV) (m : Option Value) (H : zA) (K : zA → Prop) : Prop :=
 ∀ X ρ w vs,HRel w X ρ H → RepL w (Mut X ρ H.length) ρ H.length args vs →
  CallsDIn Fence.wide 0 P k vs (zQ3 m) w fun en u' w' => ∃ v H' ρ',en = .returned v ∧ u' = zCi m ∧ K H' ∧ HRel w' X ρ' H' ∧ Fut w ρ H.length w' ρ' H'.length
def zEw (P : Program) (res : List RV) (R : AV → zA → Prop) (k : FuncId) (args : List AV) : Out → Env → zA → Prop
 | .exit _,_,_ => False
 | .pan v,e,H => zQx P k args (some v) H fun H' => (zAA e H' res).ok ∧ R (zAA e H' res).x H'
 | _,e,H => zQx P k args none H fun H' => (zAA e H' res).ok ∧ R (zAA e H' res).x H'
def wpD (P : Program) (res : List RV) (R : AV → zA → Prop) : LD → Env → zA → Prop
 | .seq a b,e,H => zU P [.code a] (fun o e' H' => o = .normal ∧ wpD P res R b e' H') .normal e H
 | .cut los f args body,e,H => zU P [.ops los] (fun o e1 H1 => o = .normal ∧ ∃ k first caps,ev e1 f = .fn (.func k) first caps ∧ zFl P k ∧ zU P [.code body] (zEw P res R k (first ++ args.map (ev e1) ++ caps)) .normal e1 H1) .normal e H
theorem RepL.nextN {w' : World} {ρ' : Nat → Loc} {n n' : Nat} {xs : List AV} {us : Array Value} (hf : Fut w ρ n w' ρ' n') (h : RepL w (Mut X ρ n) ρ n xs us) : RepL w' (Mut X ρ' n') ρ' n' xs us :=
 ⟨h.1,fun i x u hx hu => (h.2 i x u hx hu).nextN hf⟩
theorem zEV {B : DB} {ops : Array Oper} {Q : Exit → Act → World → Prop} {K : FuncId → List AV → Env → zA → Prop}
  (hQ : ∀ k dargs e1 H1 a1 w1 ρ1 d vs,K k dargs e1 H1 → a1.tmps.size = n → HRel w1 X ρ1 H1 → ER w1 X ρ1 H1 n e1 a1 → Fut w0 ρ0 n0 w1 ρ1 H1.length → Mk B w0 w1 ρ1 H1.length a1.defers → RepL w1 (Mut X ρ1 H1.length) ρ1 H1.length dargs vs →
   (∃ fv cap,d.target = .fn fv cap) → (∀ w',(invoke d.target d.args).run P w' = .ok (.enter k vs) w') → Q .normal { a1 with defers := d :: a1.defers } w1) :
  ∀ (l : List Oper) (los : List LO) (f : LX) (args : List LX) (e : Env) (H : zA) (a : Act) (w : World),zHE P n ops l = some (los,f,args) →
   (zAi P los e H fun e1 H1 => ∃ k first caps,ev e1 f = .fn (.func k) first caps ∧ zFl P k ∧ K k (first ++ args.map (ev e1) ++ caps) e1 H1) → St B X w0 ρ0 n0 n e H a w → wpListIn (WR none) 0 P ops Q l a w
 | [],los,f,args,e,H,a,w,hl,h,hst => by cases hl
 | [o],los,f,args,e,H,a,w,hl,h,hst => by
  have hl0 : (zNG n o).map (fun p => (([] : List LO),p.1,p.2)) = some (los,f,args) := hl
  clear hl
  obtain ⟨⟨f',args'⟩,hl,hp⟩ := zAe hl0
  clear hl0
  simp only [zZi] at hp
  obtain ⟨rfl,rfl,rfl⟩ := hp
  unfold zNG at hl
  split at hl
  ·rename_i fo ao ts ho hg hd
   split at hl
   ·rename_i g m hf hm
    simp only [zYT,zZi] at hl
    obtain ⟨rfl,rfl⟩ := hl
    obtain ⟨k,first,caps,hfv,⟨fn,hfn,hbody,hname⟩,hK⟩ := h
    obtain ⟨h2,ρ,hrel,he,hfu,hmk⟩ := hst
    have rf := zV he hf
    obtain ⟨hlen,hrep⟩ := zCj he _ _ hm
    rw [hfv] at rf
    generalize hfe : a.eval fo = fv at rf
    cases rf with
    | fn _ _ _ _ fs us h1 h2' h3 h4 =>
     have hrl : RepL w (Mut X ρ H.length) ρ H.length (first ++ m.map (ev e) ++ caps) (fs ++ ao.map a.eval ++ us) := by
      refine ⟨by simp [h1,h2',hlen],fun i x u hx hu => ?_⟩
      rw [zZx,zZC] at hx
      rw [zzaH,zZD] at hu
      by_cases hi : i < first.length
      ·rw [if_pos hi] at hx
       rw [if_pos (by omega)] at hu
       exact h3 i x u hx hu
      ·rw [if_neg hi,zZC] at hx
       rw [if_neg (by omega),zZD] at hu
       simp only [zYV,zzby] at hx hu
       have hl2 : m.length = ao.size := by simpa using hlen
       by_cases hj : i - first.length < m.length
       ·rw [if_pos hj] at hx
        rw [if_pos (by omega)] at hu
        exact hrep (i - first.length) x u hx (by rw [← h1] at hu; simpa using hu)
       ·rw [if_neg hj] at hx
        rw [if_neg (by omega)] at hu
        exact h4 (i - first.length - m.length) x u hx (by rw [← h1,← hl2] at hu; exact hu)
     obtain ⟨d,hrun,htar,hinv⟩ : ∃ d,(execOp a.eval o).run P w = .ok (.defer d) w ∧ (∃ fv cap,d.target = .fn fv cap) ∧ ∀ w',(invoke d.target d.args).run P w' = .ok (.enter k (fs ++ ao.map a.eval ++ us)) w' := by
      refine ⟨{ target := .fn (.func k) us,args := fs ++ ao.map a.eval },?_,⟨_,_,rfl⟩,fun w' => ?_⟩
      ·unfold execOp
       rw [ho]
       simp only [resolve,hfe,Deferred.ofValue,Sem.run_bind,Sem.run_pure,Result.andThen_ok]
      ·simp only [invoke,callFunc,Sem.run_bind,Sem.run_pure,Result.andThen_ok,run_program,hfn,hname,zZn,if_false,hbody]
     unfold wpListIn
     rw [zBS hg,if_pos rfl]
     refine ⟨fun _ _ => trivial,?_⟩
     show o.uponIn _ _ _ _ _ _ ((Oper.semAt none a.eval o).run P w)
     rw [Oper.semAt_none,hrun,Oper.uponIn_defer,hd]
     exact hQ k _ e H a w ρ d _ hK h2 hrel he hfu hmk hrl htar hinv
   ·cases hl
  ·cases hl
 | o :: o2 :: l,los,f,args,e,H,a,w,hl,h,hst => by
  unfold zHE at hl
  simp only at hl
  split at hl
  ·rename_i lo p h1 h2
   obtain ⟨m,f',args'⟩ := p
   simp only [zYT,zZi] at hl
   obtain ⟨rfl,rfl,rfl⟩ := hl
   have := zA4 (r := none) (m0 := 0) h1 h hst (next := wpListIn (WR none) 0 P ops Q (o2 :: l)) (Q := Q) fun e'' H'' a'' w'' hK hs'' => zEV hQ (o2 :: l) m f' args' e'' H'' a'' w'' h2 hK hs''
   unfold wpListIn
   exact this
  ·cases hl
theorem zLE {fn : Func} {hs : List Hn} {rs : List RV} {R : AV → zA → Prop} (hr : zEj P n fn.results.toList = some rs) : ∀ (c : Code) (ld : LD) (e : Env) (H : zA) (a : Act) (w : World),zWX P n hs c = some ld → wpD P rs R ld e H → St ⟨[],True⟩ X w0 ρ0 n0 n e H a w →
  c.wpIn (WR none) 0 P (bodyPostM Fence.wide 0 P fn fun en w' => ∃ v x H' ρ',en = .returned v ∧ R x H' ∧ HRel w' X ρ' H' ∧ Rep w' (Mut X ρ' H'.length) ρ' H'.length x v ∧ Fut w0 ρ0 n0 w' ρ' H'.length) a w := by
 intro c
 induction c with
 | seq x y ihx ihy =>
  intro ld e H a w hl h hst
  unfold zWX at hl
  split at hl
  ·rename_i p hp
   obtain ⟨los,f,args⟩ := p
   cases hb : zEq P n hs y with
   | none => rw [hb] at hl; cases hl
   | some body =>
    rw [hb,zZt,zYT] at hl
    subst hl
    unfold zQm at hp
    split at hp
    ·rename_i id ops
     have h : zAi P los e H fun e1 H1 => (Out.normal = .normal ∧ ∃ k first caps,ev e1 f = .fn (.func k) first caps ∧ zFl P k ∧ zU P [.code body] (zEw P rs R k (first ++ args.map (ev e1) ++ caps)) .normal e1 H1) := h
     have h : zAi P los e H fun e1 H1 => ∃ k first caps,ev e1 f = .fn (.func k) first caps ∧ zFl P k ∧ (fun k dargs e1 H1 => zU P [.code body] (zEw P rs R k dargs) .normal e1 H1) k (first ++ args.map (ev e1) ++ caps) e1 H1 := zBl h fun _ _ hh => hh.2
     refine wpIn_seq (wpIn_region_list (zEV (K := fun k dargs e1 H1 => zU P [.code body] (zEw P rs R k dargs) .normal e1 H1) (fun k dargs e1 H1 a1 w1 ρ1 d vs hK hn1 hrel1 he1 hf1 hmk1 hrl1 htar hinv => ?_) ops.toList los f args e H a w hp h hst))
     refine zBY (B := ⟨d :: a1.defers,True⟩) (X := X) (w0 := w1) (ρ0 := ρ1) (n0 := H1.length) (rd := none) (m0 := 0) (H := H1) (e := e1) y hb (.inl ⟨rfl,trivial⟩) hK ⟨hn1,ρ1,hrel1,he1,Fut.refl _ _ _,Mk.nil⟩ ?_
     intro o e' H' a' w' hk hst'
     obtain ⟨hn,ρ',g1,g2,g3,ds,d1,_,d2,d3⟩ := hst'
     obtain ⟨f1,f2,f3⟩ := zDW ds d2 (fun D hD => ⟨(d3 D hD).1,(d3 D hD).2.2.2⟩) g1 g2 g3
     obtain ⟨fv,cap,htar⟩ := htar
     have go : ∀ m : Option Value,(zQx P k dargs m H' fun H'' => (zAA e' H'' rs).ok ∧ R (zAA e' H'' rs).x H'') → LeavesInM Fence.wide 0 P fn a'.tmps (fun en w' => ∃ v x H' ρ',en = .returned v ∧ R x H' ∧ HRel w' X ρ' H' ∧ Rep w' (Mut X ρ' H'.length) ρ' H'.length x v ∧ Fut w0 ρ0 n0 w' ρ' H'.length) a'.defers (zQ3 m) w' := by
      intro m hd
      rw [d1]
      refine zBj (by cases m <;> simp [zQ3]) ds w' d2 (fun D hD => (d3 D hD).2.2.2) ⟨by cases m <;> simp [zQ3],.inr ⟨fun hh => (by cases hh),fv,cap,k,vs,htar,hinv _,fun _ _ => trivial,?_⟩⟩
      refine (hd X ρ' _ vs f1 (hrl1.nextN f3)).mono ?_
      rintro en u' w'' ⟨v,H'',ρ'',rfl,rfl,⟨hok,hR⟩,q1,q2⟩
      have hm1 : Mk ⟨[],True⟩ w0 w'' ρ'' H''.length a1.defers := (hmk1.fut f3).fut q2
      obtain ⟨ds1,c1,_,c2,c3⟩ := hm1
      have he2 : ER w'' X ρ'' H'' n e' a' := fun t ht => (f2 t ht).nextN q2
      obtain ⟨p1,p2,p3⟩ := zDW (w0 := w0) ds1 c2 (fun D hD => ⟨(c3 D hD).1,(c3 D hD).2.2.2⟩) q1 he2 ((hf1.trans f3).trans q2)
      show LeavesInM Fence.wide 0 P fn a'.tmps _ a1.defers (settle (zCi m)) w''
      rw [zFa,c1]
      obtain ⟨_,v2,k3,k4⟩ := zDU hr p1 p2 hok
      exact zBj (by simp) ds1 w'' c2 (fun D hD => (c3 D hD).2.2.2) ⟨v2,k3,v2,_,H'',ρ'',rfl,hR,p1,k4,p3⟩
     cases o with
     | normal => exact go none hk
     | exit id => exact hk.elim
     | ret => exact go none hk
     | pan z => exact go (some z) hk
    ·cases hp
  ·split at hl
   ·rename_i la lb h1 h2
    simp only [zYT] at hl
    subst hl
    refine wpIn_seq (zBY x h1 (.inl ⟨rfl,trivial⟩) (h : awp P la e H _) hst fun o e' H' a' w' hk hs' => ?_)
    obtain ⟨rfl,hk⟩ := hk
    exact ihy lb e' H' a' w' h2 hk hs'
   ·cases hl
 | _ => intro ld e H a w hl; cases hl
theorem zVJ {k : FuncId} {fn : Func} {hs : List Hn} {L : zT3} {args : List AV} {R : AV → zA → Prop} (hf : P.funcs[k]? = some fn) (hl : zNF P fn hs = some L) (ha : args.length ≤ L.n)
  (h : wpD P L.res R L.body (zC6 args 0) H) : ACall P k args H R := by
 unfold zNF at hl
 cases hb : fn.body with
 | none => simp [hb] at hl
 | some c =>
  cases hr : zEj P fn.ntmps fn.results.toList with
  | none => simp [hb,hr] at hl
  | some rs =>
   simp only [hb,hr] at hl
   split at hl
   ·rename_i b hc
    split at hl
    ·rename_i hcond
     simp only [zYT] at hl
     subst hl
     refine ⟨⟨fn,hf,by simp [hb],hcond.2⟩,fun X ρ w vs hrel hargs => (callsIn_wide (n := 0)).1 (callsIn_of_wp_marks hf hb trivial ?_)⟩
     have hvs : vs.size ≤ fn.ntmps := by rw [← hargs.1]; exact ha
     refine zLE (X := X) (w0 := w) (ρ0 := ρ) (n0 := H.length) hr c b (zC6 args 0) H _ w hc h ⟨by simp; omega,ρ,hrel,fun t ht => ?_,Fut.refl _ _ _,Mk.nil⟩
     rw [zDN,if_pos (zZm _),zzaK]
     by_cases htl : t < vs.size
     ·have hx : args[t]? = some (args[t]'(by rw [hargs.1]; exact htl)) := by simp
      rw [hx,zZR]
      refine hargs.2 t _ _ hx ?_
      simp [zZq,zZD,htl]
     ·rw [zZZ (by rw [hargs.1]; omega)]
      exact .any _ _
    ·cases hl
   ·cases hl
end
section
variable {P : Program} {w w0 w1 : World} {X : Nat → Prop} {ρ ρ0 ρ1 : Nat → Loc} {H H1 : zA} {e e1 : Env} {a a1 : Act} {n n0 : Nat}
def recV : Option Value → Value
 | none => .nilIface
 | some z => z
def zWy (m : Option Value) (sl : List Nat) (e : Env) : Env := sl.foldl (fun e d => up e d (.v (recV m))) e
theorem zIu {o : Oper} {d : Nat} (h : zMQ o = some d) (w : World) : o.guard = none ∧ o.dst = some d ∧ (execOp a.eval o).run P w = .ok .recover w := by
 unfold zMQ at h
 split at h
 ·rename_i x y ho hg hd
  cases h
  refine ⟨hg,hd,?_⟩
  unfold execOp
  rw [ho]
  rfl
 ·cases h
theorem zNz {o : Oper} {d d2 : Nat} (h : zSt d o = some d2) (w : World) : o.guard = none ∧ o.dst = some d2 ∧ (execOp a.eval o).run P w = .ok (.value (a.eval (.tmp d))) w := by
 unfold zSt at h
 split at h
 ·rename_i d' d2' ho hg hd
  split at h
  ·rename_i hdd
   cases h
   subst hdd
   refine ⟨hg,hd,?_⟩
   unfold execOp
   rw [ho]
   rfl
  ·cases h
 ·rename_i d' d2' ho hg hd
  split at h
  ·rename_i hdd
   cases h
   subst hdd
   refine ⟨hg,hd,?_⟩
   unfold execOp
   rw [ho]
   rfl
  ·cases h
 ·cases h
theorem zJt {c₀ : Frame} {cs : List Frame} {m : Option Value} (h : c₀.mode = zQ3 m) :
  (m = none ∧ recoverD (c₀ :: cs) = none ∧ c₀ :: cs = { c₀ with mode := zCi m } :: cs) ∨ (∃ z,m = some z ∧ recoverD (c₀ :: cs) = some (z,{ c₀ with mode := zCi m } :: cs)) := by
 obtain ⟨f1,f2,f3,f4,md,f6,f7⟩ := c₀
 simp only at h
 subst h
 cases m with
 | none => exact .inl ⟨rfl,rfl,rfl⟩
 | some z => exact .inr ⟨z,rfl,rfl⟩
theorem zFB {k : FuncId} {fn : Func} {hs : List Hn} {L : zXf} {args : List AV} {m : Option Value} {K : zA → Prop} (hf : P.funcs[k]? = some fn) (hl : zKE P fn hs = some L) (ha : args.length ≤ L.n)
  (h : zU P [.code L.body] (fun o _ H' => (o = .normal ∨ o = .ret) ∧ K H') .normal (zWy m L.sl (zC6 args 0)) H) : zQx P k args m H K := by
 unfold zKE at hl
 split at hl
 ·rename_i id ops rest hb
  split at hl
  ·rename_i sl b hsl hc
   split at hl
   ·rename_i hcond
    obtain ⟨hnr,hres,hpar⟩ := hcond
    simp only [zYT] at hl
    subst hl
    intro X ρ w vs hrel hargs
    have hvs : vs.size ≤ fn.ntmps := by rw [← hargs.1]; exact ha
    refine callsDIn_of_wpSIn hf hb trivial fun c₀ cs hm => ?_
    refine wpSIn_seq (wpSIn_region ?_)
    have hst0 : St ⟨[],False⟩ X w ρ H.length fn.ntmps (zC6 args 0) H { tmps := vs ++ Array.replicate (fn.ntmps - vs.size) undef,defers := [] } w := by
     refine ⟨by simp; omega,ρ,hrel,fun t ht => ?_,Fut.refl _ _ _,Mk.nil⟩
     rw [zDN,if_pos (zZm _),zzaK]
     by_cases htl : t < vs.size
     ·have hx : args[t]? = some (args[t]'(by rw [hargs.1]; exact htl)) := by simp
      rw [hx,zZR]
      refine hargs.2 t _ _ hx ?_
      simp [zZq,zZD,htl]
     ·rw [zZZ (by rw [hargs.1]; omega)]
      exact .any _ _
    generalize ({ tmps := vs ++ Array.replicate (fn.ntmps - vs.size) undef,defers := [] } : Act) = a0 at hst0 ⊢
    generalize zC6 args 0 = e0 at hst0 h
    have fin : ∀ (a' : Act),St ⟨[],False⟩ X w ρ H.length fn.ntmps (zWy m sl e0) H a' w → rest.wpSIn Fence.wide 0 P (bodyPostS P fn c₀ cs fun en u' w' => ∃ v H' ρ',en = .returned v ∧ u' = zCi m ∧ K H' ∧ HRel w' X ρ' H' ∧ Fut w ρ H.length w' ρ' H'.length) a' ({ c₀ with mode := zCi m } :: cs) w := by
     intro a' hst
     refine wpSIn_of_wpIn rfl ?_
     refine zBY (B := ⟨[],False⟩) (rd := none) (m0 := 0) rest hc (.inr hnr) h hst fun o e' H' a2 w' hk hs' => ?_
     obtain ⟨ho,hK⟩ := hk
     obtain ⟨hn,ρ',g1,g2,g3,ds,d1,d0,d2,d3⟩ := hs'
     have hds : ds = [] := d0.resolve_left (fun hh => hh)
     subst hds
     obtain ⟨_,v,k3,_⟩ := zDU (rs := []) (by rw [hres]; rfl) g1 g2 (show (zAA e' H' []).ok from fun r hr => by simp at hr)
     have hpost : a2.defers = [] ∧ ∃ u',({ c₀ with mode := zCi m } :: cs : List Frame) = { c₀ with mode := u' } :: cs ∧ ∃ v,(results fn a2.tmps).run P w' = .ok v w' ∧ ∃ v' H' ρ',(Ending.returned v) = .returned v' ∧ u' = zCi m ∧ K H' ∧ HRel w' X ρ' H' ∧ Fut w ρ H.length w' ρ' H'.length :=
      ⟨by rw [d1]; rfl,zCi m,rfl,v,k3,v,H',ρ',rfl,rfl,hK,g1,g3⟩
     rcases ho with rfl | rfl <;> exact hpost
    have one : ∀ (o : Oper) (d : Nat),zMQ o = some d → o.guard = none ∧ ∀ (Q : Exit → Act → List Frame → World → Prop) (ops : Array Oper) (l : List Nat) (i : Nat),ops[i]? = some o →
      (∀ a',St ⟨[],False⟩ X w ρ H.length fn.ntmps (up e0 d (.v (recV m))) H a' w → wpOpsSIn Fence.wide 0 P ops Q l a' ({ c₀ with mode := zCi m } :: cs) w) → wpOpsSIn Fence.wide 0 P ops Q (i :: l) a0 (c₀ :: cs) w := by
     intro o d hod
     refine ⟨(zIu (P := P) (a := a0) hod w).1,fun Q ops l i hi hk => ?_⟩
     obtain ⟨hg,hdst,hrun⟩ := zIu (P := P) (a := a0) hod w
     obtain ⟨hs1,ρ1,hrel1,he1,hfu1,hmk1⟩ := hst0
     have hput : St ⟨[],False⟩ X w ρ H.length fn.ntmps (up e0 d (.v (recV m))) H (a0.put (some d) (recV m)) w := St.put (d := some d) hmk1 hs1 he1 hfu1 hrel1 (.v _ _) (Fut.refl _ _ _)
     have hk := hk _ hput
     unfold wpOpsSIn
     rw [hi]
     refine ⟨fun _ _ => trivial,?_⟩
     rw [if_pos (zBS hg _),hrun]
     rcases zJt (cs := cs) hm with ⟨rfl,hr,he⟩ | ⟨z,rfl,hr⟩
     ·simp only [hr,hdst]
      rw [he]
      exact hk
     ·simp only [hr,hdst]
      exact hk
    unfold zQM at hsl
    split at hsl
    ·rename_i o ho
     obtain ⟨d,hd,rfl⟩ := zAe hsl
     obtain rfl : ops = #[o] := by apply zZ4; simpa using ho
     exact (one o d hd).2 _ _ [] 0 rfl fun a' hs' => fin a' hs'
    ·rename_i o o1 ho
     split at hsl
     ·rename_i d hd
      obtain ⟨d2,hd2,rfl⟩ := zAe hsl
      obtain rfl : ops = #[o,o1] := by apply zZ4; simpa using ho
      refine (one o d hd).2 _ _ [1] 0 rfl fun a' hs' => ?_
      obtain ⟨hg,hdst,hrun⟩ := zNz (P := P) (a := a') hd2 w
      obtain ⟨hs1,ρ1,hrel1,he1,hfu1,hmk1⟩ := hs'
      have hdn : d < fn.ntmps := by simp at hpar; exact hpar.1
      have hrep := he1 d hdn
      rw [zRG] at hrep
      have hput := St.put (d := some d2) hmk1 hs1 he1 hfu1 hrel1 hrep (Fut.refl _ _ _)
      unfold wpOpsSIn
      rw [show (#[o,o1] : Array Oper)[1]? = some o1 from rfl]
      refine ⟨fun _ _ => trivial,?_⟩
      rw [if_pos (zBS hg _),hrun]
      simp only [hdst]
      exact fin _ hput
     ·cases hsl
    ·cases hsl
   ·cases hl
  ·cases hl
 ·cases hl
end
end Go.Ax
namespace Go.Ax
open Go
set_option linter.unusedSimpArgs false
set_option linter.unusedVariables false
section
variable {P : Program} {k : List zEp} {Q : Out → Env → zA → Prop} {e : Env} {H : zA}
theorem zHf {hd : List LO} {e1 : Env} : ∀ {tl : List (LO × List Nat)} {e : Env} {H : zA} {K : Env → zA → Prop} {Z : Value → zA → Prop},zEI P hd e1 (tl.map fun p => (p.1,false,p.2)) e H K Z = zDa P hd e1 tl e H K
 | [],_,_,_,_ => rfl
 | (o,js) :: tl,e,H,K,Z => by
  show aTI P false o e H (fun e' H' => zC2 P hd e1 H' js ∧ zEI P hd e1 (tl.map fun p => (p.1,false,p.2)) e' H' K Z) Z = zAi P [o] e H fun e' H' => zC2 P hd e1 H' js ∧ zDa P hd e1 tl e' H' K
  have : (fun e' H' => zC2 P hd e1 H' js ∧ zEI P hd e1 (tl.map fun p => (p.1,false,p.2)) e' H' K Z) = fun e' H' => zC2 P hd e1 H' js ∧ zDa P hd e1 tl e' H' K := by
   funext e' H'
   rw [zHf]
  rw [this]
  rfl
@[push_cast] theorem zWr (hd : List LO) (tl : List (LO × List Nat)) (gs : List LO) : zU P (.code (.drawA hd tl gs) :: k) Q .normal e H = zU P (.opq hd [] :: .opx hd (tl.map fun p => (p.1,false,p.2)) gs e :: k) Q .normal e H := by
 show zAF P hd e H (fun e1 => zDa P hd e1 tl e1 H fun e' H' => zAi P gs e' H' (zU P k Q .normal)) = zAF P hd e H fun e' => zAi P [] e' H fun e1 H1 => zEI P hd e1 (tl.map fun p => (p.1,false,p.2)) e1 H1 (fun e' H' => zAi P gs e' H' (zU P k Q .normal)) fun v H' => zU P k Q (.pan v) e H'
 simp only [zHf]
 rfl
attribute [push_cast] List.map_cons List.map_nil
@[push_cast] theorem zXj (res : List RV) (R : AV → zA → Prop) (a : LCode) (b : LD) : wpD P res R (.seq a b) e H = zU P [.code a] (fun o e' H' => o = .normal ∧ wpD P res R b e' H') .normal e H := rfl
@[push_cast] theorem zXk (res : List RV) (R : AV → zA → Prop) (los : List LO) (f : LX) (args : List LX) (body : LCode) : wpD P res R (.cut los f args body) e H = zU P [.ops los] (fun o e1 H1 => o = .normal ∧ ∃ k first caps,ev e1 f = .fn (.func k) first caps ∧ zFl P k ∧ zU P [.code body] (zEw P res R k (first ++ args.map (ev e1) ++ caps)) .normal e1 H1) .normal e H := rfl
theorem zI {d : Option Nat} {f : FuncId} {args : List AV} {v : Value} (h : ACallX P f args H (fun _ _ => False) fun z H' => z = v ∧ H' = H) (hk : zU P k Q (.pan v) e H) : zK3 P f args H e d k Q :=
 zF h (fun _ _ hh => hh.elim) fun z H' ⟨h1,h2⟩ => by subst h1; subst h2; exact hk
@[push_cast] theorem zWA : (Out.normal = .normal) = True := by simp
end
end Go.Ax
namespace Go.Proofs.YtbibhcmcjldhdaaGreatDoor
open Go Go.Ax Go.RowKit
set_option maxRecDepth 100000
set_option linter.unusedSimpArgs false
set_option linter.unusedVariables false
set_option maxHeartbeats 4000000
structure zHh (N : Int → Prop) : Prop where
 call : ∀ n,N n → ∀ H,ACall Tryz.prog 40 [int n] H fun x H' => x = str (Lib.itoa n) ∧ H' = H
 len : ∀ n,N n → (Lib.itoa n).length ≤ 20
def zBh (o a b : Int) : List Int := [a,b].take (zCE o.toNat)
theorem zFG (n : Nat) : zCE n ≤ 2 := by
 unfold zCE
 split
 ·omega
 ·split <;> omega
theorem zDY (o a b : Int) : (zBh o a b).length = zCE o.toNat := by
 have := zFG o.toNat
 unfold zBh; simp only [zzap,zYZ,zY4]; omega
def zCe (o a b : Int) : Ln := opsW.getD o.toNat [] :: (zBh o a b).map Lib.itoa
mutual
def zMh (d : Nat) : Ins → Wd
 | .mk o a b l m => zCD d (zCe o a b) ++ (if o = 18 then lsT (d + 1) l ++ (zCD d [zEt] ++ (lsT (d + 1) m ++ zCD d [zEe])) else if o = 19 then lsT (d + 1) m ++ (zCD d [wDo] ++ (lsT (d + 1) l ++ zCD d [zEe])) else [])
def lsT (d : Nat) : List Ins → Wd
 | [] => []
 | x :: l => zMh d x ++ lsT d l
end
mutual
def FOk (N : Int → Prop) : Ins → Prop
 | .mk o a b l m => (0 ≤ o ∧ o ≤ 22 ∧ ∀ n ∈ zBh o a b,N n) ∧ zOQ N l ∧ zOQ N m
def zOQ (N : Int → Prop) : List Ins → Prop
 | [] => True
 | x :: l => FOk N x ∧ zOQ N l
end
theorem zJI (d : Nat) : ∀ l m : List Ins,lsT d (l ++ m) = lsT d l ++ lsT d m
 | [],m => by simp [lsT]
 | x :: l,m => by simp [lsT,zJI d l m]
theorem zK8 {N : Int → Prop} : ∀ {l : List Ins},zOQ N l → ∀ x ∈ l,FOk N x
 | y :: l,h,x,hx => by
  simp only [zOQ] at h
  rcases zZr.1 hx with rfl | hx
  ·exact h.1
  ·exact zK8 h.2 x hx
theorem zPM : ∀ o : Nat,(opsW.getD o []).length ≤ 8 := by
 intro o
 by_cases h : o < 23
 ·have : ∀ o : Fin 23,(opsW.getD o.1 []).length ≤ 8 := by decide
  exact this ⟨o,h⟩
 ·have : opsW[o]? = none := zZZ (by simp only [opsW,zYZ,zY4]; omega)
  simp [List.getD,this]
theorem zKH {ws : Ln} {k : Nat} : (∀ w ∈ ws,w.length ≤ k) → zBQ ws ≤ ws.length * (k + 1) := by
 induction ws with
 | nil => simp [zBQ]
 | cons w l ih =>
  intro h
  have h1 := h w (by simp)
  have h2 := ih fun w hw => h w (by simp [hw])
  simp only [zBQ,zYZ,zZO]
  omega
theorem zN1 {N : Int → Prop} (hN : zHh N) {o a b : Int} (h : ∀ n ∈ zBh o a b,N n) : zBQ (zCe o a b) ≤ 63 ∧ (zCe o a b).length ≤ 3 := by
 have hl : (zCe o a b).length ≤ 3 := by
  have := zDY o a b
  have := zFG o.toNat
  simp only [zCe,zYZ,zYV]; omega
 refine ⟨?_,hl⟩
 have := zKH (ws := zCe o a b) (k := 20) fun w hw => by
  simp only [zCe,zZr,zZK] at hw
  rcases hw with rfl | ⟨n,hn,rfl⟩
  ·have := zPM o.toNat; omega
  ·exact hN.len n (h n hn)
 omega
theorem BSt.app {n0 r : Nat} {l : List UInt8} {H : zA} (h : BSt n0 r l H) (X : zA) : BSt n0 r l (H ++ X) := by
 have hg : ∀ (i : Nat) (o : HO),H[i]? = some o → (H ++ X)[i]? = some o := fun i o ho => by
  rw [zY2 (zYU.1 ho).1]; exact ho
 obtain ⟨h0,⟨h1,h2⟩ | ⟨h1,h2⟩ | ⟨k,v,h1,h2,h3,h4⟩⟩ := h
 ·exact ⟨h0,.inl ⟨hg _ _ h1,h2⟩⟩
 ·exact ⟨h0,.inr (.inl ⟨hg _ _ h1,h2⟩)⟩
 ·exact ⟨h0,.inr (.inr ⟨k,v,h1,h2,hg _ _ h3,hg _ _ h4⟩)⟩
theorem BSt.lt {n0 r : Nat} {l : List UInt8} {H : zA} (h : BSt n0 r l H) : r < H.length := by
 obtain ⟨h0,⟨h1,h2⟩ | ⟨h1,h2⟩ | ⟨k,v,h1,h2,h3,h4⟩⟩ := h
 ·exact (zYU.1 h1).1
 ·exact (zYU.1 h1).1
 ·exact (zYU.1 h3).1
theorem Kp.app (n0 r : Nat) (H X : zA) (hn : n0 ≤ H.length) : Kp n0 r H (H ++ X) :=
 ⟨by simp,fun i hi => zY2 (by omega),fun i cs _ hc => by rw [zY2 (zYU.1 hc).1]; exact hc⟩
abbrev zNM (r : Nat) : HO := .box [.fn (.func 33) [] [.ptr r 0 0]]
abbrev zNK (rl rs : Nat) : HO := .box [.fn (.func 37) [] [.ptr rl 0 0,.ptr rs 0 0]]
theorem zKD {d : Nat} {xs : List Ins} {j : Nat} (h : j < xs.length) : lsT d (xs.take (j + 1)) = lsT d (xs.take j) ++ zMh d (xs.getD j default) := by
 rw [zBf h,zJI]
 simp [lsT]
theorem zNC {d : Nat} {xs : List Ins} {j : Nat} (h : j < xs.length) : (lsT d (xs.take j)).length + (zMh d (xs.getD j default)).length ≤ (lsT d xs).length := by
 have e : xs = xs.take (j + 1) ++ xs.drop (j + 1) := (zZ7 _ _).symm
 have := congrArg (fun l => (lsT d l).length) e
 simp only [zJI,zKD h,zY3] at this
 omega
theorem zIO {x : Ins} : ∀ {l : List Ins},x ∈ l → zBa x ≤ zL l
 | y :: l,h => by
  simp only [zL]
  rcases zZr.1 h with rfl | h
  ·omega
  ·have := zIO h; omega
set_option maxHeartbeats 8000000 in
theorem zVr {N : Int → Prop} (hN : zHh N) (n0 r rl rs : Nat) (hrl : rl ≠ r) (hrs : rs ≠ r) : ∀ (m : Nat) (xs : List Ins) (d : Nat) (l : Wd) (H : zA),zL xs < m → zOQ N xs → d + zL xs ≤ 1000000 → BSt n0 r l H → n0 ≤ H.length →
  H[rl]? = some (zNM r) → H[rs]? = some (zNK rl rs) → l.length + (lsT d xs).length ≤ 100000000000000 →
  ACall Tryz.prog 37 [int d,.sl 5 (xs.map zAp),.ptr rl 0 0,.ptr rs 0 0] H fun x H' => x = .tup [] ∧ BSt n0 r (l ++ lsT d xs) H' ∧ Kp n0 r H H' := by
 intro m
 induction m with
 | zero => intro xs d l H h; omega
 | succ m ih =>
 intro xs d l H hm hx hd hb hn h1 h2 hl
 have hxl := zM xs
 refine enter Tryz.func37 L37f_ok (zY0 rfl) ?_
 repeat' (simp -implicitDefEqProofs (disch := omega) only [L37f,push_cast,↓reduceIte,reduceCtorEq,Nat.reduceAdd])
 refine zAd (fun (j : Nat) e' G => e' 0 = int d ∧ e' 2 = .ptr rl 0 0 ∧ e' 3 = .ptr rs 0 0 ∧ e' 14 = .sl 5 (xs.map zAp) ∧ e' 15 = int xs.length ∧ e' 16 = int j ∧ j ≤ xs.length ∧ BSt n0 r (l ++ lsT d (xs.take j)) G ∧ Kp n0 r H G) (fun j => xs.length - j) 0 ?_ ?_
 ·exact ⟨rfl,rfl,rfl,rfl,rfl,rfl,zZm _,by simpa [lsT] using hb,Kp.refl _ _ _⟩
 rintro j e' G ⟨g0,g2,g3,g14,g15,g16,hj,hB,hK⟩
 by_cases hlt : j < xs.length
 rotate_left
 ·have e : j = xs.length := by omega
  subst e
  rw [zzaF] at hB
  repeat' (simp -implicitDefEqProofs (disch := omega) only [g15,g16,zAQ,push_cast,↓reduceIte])
  exact ⟨by simp [zAA],rfl,hB,hK⟩
 have hmem := zAt hlt
 have hic := zIO hmem
 have hxx := zK8 hx _ hmem
 have hst := zKD (d := d) hlt
 have hsp := zNC (d := d) hlt
 have hrG := hB.lt
 have hk1 := hK.2.2 rl _ hrl h1
 have hk2 := hK.2.2 rs _ hrs h2
 have hGl := hK.1
 generalize hxe : xs.getD j default = x at *
 obtain ⟨o,a,b,l1,l2⟩ := x
 simp only [FOk] at hxx
 obtain ⟨⟨o1,o2,hns⟩,f1,f2⟩ := hxx
 simp only [zBa] at hic
 obtain ⟨q,rfl⟩ : ∃ q : Nat,o = q := ⟨o.toNat,by omega⟩
 have hhl := zN1 hN hns
 have hwn : (opsW.map fun w => [str w]).length = 23 := rfl
 have hwg : (opsW.map fun w => [str w]).getD q [] = [str (opsW.getD q [])] := by
  have hq : q < opsW.length := by simp only [opsW,zYZ,zY4]; omega
  simp [List.getD,zZy,zZe hq]
 have hW := fun H => zMl H
 have hO := fun H => zGN q H
 have hnl : (zBh q a b).length = zCE q := by
  have := zDY q a b
  rwa [zZ2] at this
 have hne : zBh q a b = [a,b].take (zCE q) := by simp [zBh]
 have hal := zFG q
 generalize zCE q = na at *
 generalize hwd : opsW.getD q [] = wd at *
 generalize hnsd : zBh q a b = ns at *
 by_cases hq19 : q = 19
 ·subst hq19
  repeat' (first | refine zY1 (by omega) ?_ | refine zQ (hW _) rfl ?_ | refine zQ (hO _) rfl ?_ | simp -implicitDefEqProofs (disch := omega) only [g14,g15,g16,zN,hxe,zAp,hwg,hwn,zS,push_cast,↓reduceIte,Nat.reduceEqDiff,reduceCtorEq,Nat.reduceAdd,Nat.reduceLeDiff,Nat.reduceLT,Int.reduceToNat,Int.reduceLT,Int.reduceLE,Int.reduceAdd,zYW])
  refine zAd (fun (k : Nat) e2 G2 => e2 0 = int d ∧ e2 2 = .ptr rl 0 0 ∧ e2 3 = .ptr rs 0 0 ∧ e2 14 = .sl 5 (xs.map zAp) ∧ e2 15 = int xs.length ∧ e2 16 = int j ∧ e2 7 = .ptr G.length 0 0 ∧ e2 8 = .sl 5 (zBu l2) ∧ e2 9 = .sl 5 (zBu l1) ∧ e2 10 = str wDo ∧ e2 11 = .os (G.length + 1) k 0 (k + 1) ∧ e2 45 = .sl 1 (ns.map iR) ∧ e2 46 = int na ∧ e2 47 = int k ∧ k ≤ na ∧ G2 = G ++ .box [int (19 : Nat),int a,int b,.sl 5 (zBu l1),.sl 5 (zBu l2)] :: .arr k 1 ((wd :: (ns.take k).map Lib.itoa).map sR) :: []) (fun k => na - k) 0 ?_ ?_
  ·refine ⟨g0,g2,g3,g14,g15,g16,rfl,rfl,rfl,rfl,rfl,?_,?_,rfl,zZm _,rfl⟩
   ·rw [hne,List.map_take]; rfl
   ·show int _ = int _
    congr 1
    simp only [zzap,zYZ,zY4]
    omega
  rintro k e2 G2 ⟨g0,g2,g3,g14,g15,g16,g7,g8,g9,g10,g11,g45,g46,g47,hk,rfl⟩
  by_cases hkl : k < na
  ·have hnk := hns _ (zAt (l := ns) (j := k) (by omega))
   have hts := zBf (l := ns) (j := k) (by omega)
   have hfin : List.take (k + 1) ((wd :: (ns.take k).map Lib.itoa).map sR) ++ [sR (Lib.itoa (ns.getD k default))] = (wd :: (ns.take (k + 1)).map Lib.itoa).map sR := by
    rw [hts,zZu (by simp; omega)]
    simp
   have hrl2 : ((wd :: (ns.take k).map Lib.itoa).map sR).length = k + 1 := by simp; omega
   generalize hRk : (wd :: (ns.take k).map Lib.itoa).map sR = Rk at *
   repeat' (first | refine zY1 (by omega) ?_ | refine zC (hN.call _ hnk _) ?_ | simp -implicitDefEqProofs (disch := omega) only [g11,g45,g46,g47,zN,iR,hrl2,zS,push_cast,↓reduceIte,Nat.reduceEqDiff,reduceCtorEq,Nat.reduceAdd,Nat.reduceLeDiff,Nat.reduceLT,Int.reduceAdd,zYW])
   exact .mk (k + 1) ⟨g0,g2,g3,g14,g15,g16,g7,g8,g9,g10,rfl,g45,g46,rfl,hkl,congrArg (fun z => G ++ HO.box [int (19 : Nat),int a,int b,.sl 5 (zBu l1),.sl 5 (zBu l2)] :: HO.arr (k + 1) 1 z :: []) hfin⟩ (by omega)
  have hkn : k = na := by omega
  subst hkn
  have hall : List.take (k + 1) ((wd :: (ns.take k).map Lib.itoa).map sR) = (zCe (19 : Nat) a b).map sR := by
   rw [zZu (by simp; omega),zZu (by omega),← hwd]
   simp only [zCe,zZ2,hnsd]
  have hrl2 : ((wd :: (ns.take k).map Lib.itoa).map sR).length = k + 1 := by simp; omega
  have hcl : zHa ((wd :: (ns.take k).map Lib.itoa).map sR) = true := zBA (fun _ => rfl) _
  generalize hRk : (wd :: (ns.take k).map Lib.itoa).map sR = Rk at *
  have hGs : ∀ X,(G ++ X)[rs]? = some (zNK rl rs) := fun X => by rw [zY2 (zYU.1 hk2).1]; exact hk2
  have hGr : ∀ X,(G ++ X)[rl]? = some (zNM r) := fun X => by rw [zY2 (zYU.1 hk1).1]; exact hk1
  repeat' (simp -implicitDefEqProofs (disch := omega) only [g0,g2,g11,g46,g47,hGr,hall,zAQ,push_cast,↓reduceIte,Nat.reduceEqDiff,reduceCtorEq,Nat.reduceAdd,Nat.reduceLeDiff,Int.reduceAdd])
  refine ⟨⟨by omega,hcl⟩,?_⟩
  refine zAm (zIK n0 r _ d (zCe (19 : Nat) a b) _ (hB.app _) (by simp; omega) (by omega) (by omega) (by simp only [zY3]; omega)) ?_
  rintro x G1 ⟨rfl,hb1,hk3⟩
  have m1 := hk3.2.2 G.length [int (19 : Nat),int a,int b,.sl 5 (zBu l1),.sl 5 (zBu l2)] (by omega) (by simp)
  have hkl3 := hk3.2.2 rl [.fn (.func 33) [] [.ptr r 0 0]] hrl (hGr _)
  have hks3 := hk3.2.2 rs _ hrs (hGs _)
  have hI : zMh d (.mk (19 : Nat) a b l1 l2) = zCD d (zCe (19 : Nat) a b) ++ (lsT (d + 1) l2 ++ (zCD d [wDo] ++ (lsT (d + 1) l1 ++ zCD d [zEe]))) := by
   unfold zMh
   rw [if_neg (show ¬ ((19 : Nat) : Int) = 18 by decide),if_pos (show ((19 : Nat) : Int) = 19 from rfl)]
  rw [hI] at hst hsp
  simp only [zY3] at hsp
  have ca := ih l2 (d + 1) _ G1 (by omega) f2 (by omega) hb1 (by have := hk3.1; simp only [zY3] at this; omega) hkl3 hks3 (by simp only [zY3]; omega)
  rw [← zAc,show ((d + 1 : Nat) : Int) = (d : Int) + 1 from rfl] at ca
  repeat' (simp -implicitDefEqProofs (disch := omega) only [g0,g3,g7,g8,m1,hks3,push_cast,↓reduceIte,Nat.reduceEqDiff,reduceCtorEq,Nat.reduceAdd,Nat.reduceLeDiff,Int.reduceEq,Int.reduceAdd])
  refine zAm ca ?_
  rintro x G2 ⟨rfl,hb2,hk4⟩
  have m2 := hk4.2.2 G.length [int (19 : Nat),int a,int b,.sl 5 (zBu l1),.sl 5 (zBu l2)] (by omega) m1
  have hkl4 := hk4.2.2 rl _ hrl hkl3
  have hks4 := hk4.2.2 rs _ hrs hks3
  have hn2 : n0 ≤ G2.length := by have := hk3.1; have := hk4.1; simp only [zY3] at *; omega
  repeat' (simp -implicitDefEqProofs (disch := omega) only [g0,g2,g10,hkl4,push_cast,↓reduceIte,Nat.reduceEqDiff,reduceCtorEq,Nat.reduceAdd,Nat.reduceLeDiff,Nat.reduceLT,zYW])
  refine zAm (zIK n0 r _ d [wDo] G2 hb2 hn2 (by omega) (by simp) (by simp only [zY3,zBQ,wDo,zYZ,zY4] at hsp ⊢; omega)) ?_
  rintro x G3 ⟨rfl,hb3,hk5⟩
  have m3 := hk5.2.2 G.length [int (19 : Nat),int a,int b,.sl 5 (zBu l1),.sl 5 (zBu l2)] (by omega) m2
  have hkl5 := hk5.2.2 rl _ hrl hkl4
  have hks5 := hk5.2.2 rs _ hrs hks4
  have hn3 : n0 ≤ G3.length := by have := hk5.1; omega
  have cb := ih l1 (d + 1) _ G3 (by omega) f1 (by omega) hb3 hn3 hkl5 hks5 (by simp only [zY3]; omega)
  rw [← zAc,show ((d + 1 : Nat) : Int) = (d : Int) + 1 from rfl] at cb
  repeat' (simp -implicitDefEqProofs (disch := omega) only [g0,g3,g9,hks5,push_cast,↓reduceIte,Nat.reduceEqDiff,reduceCtorEq,Nat.reduceAdd,Nat.reduceLeDiff])
  refine zAm cb ?_
  rintro x G4 ⟨rfl,hb4,hk6⟩
  have m4 := hk6.2.2 G.length [int (19 : Nat),int a,int b,.sl 5 (zBu l1),.sl 5 (zBu l2)] (by omega) m3
  have hkl6 := hk6.2.2 rl _ hrl hkl5
  have hks6 := hk6.2.2 rs _ hrs hks5
  have hn4 : n0 ≤ G4.length := by have := hk6.1; omega
  repeat' (simp -implicitDefEqProofs (disch := omega) only [g0,g2,hkl6,push_cast,↓reduceIte,Nat.reduceEqDiff,reduceCtorEq,Nat.reduceAdd,Nat.reduceLeDiff,Nat.reduceLT,zYW])
  refine zAm (zIK n0 r _ d [zEe] G4 hb4 hn4 (by omega) (by simp) (by simp only [zY3,zBQ,zEe,zYZ,zY4] at hsp ⊢; omega)) ?_
  rintro x G5 ⟨rfl,hb5,hk7⟩
  repeat' (simp -implicitDefEqProofs (disch := omega) only [g16,push_cast,↓reduceIte,Nat.reduceEqDiff])
  refine .mk (j + 1) ⟨g0,g2,g3,g14,g15,rfl,hlt,?_,hK.trans ((Kp.app n0 r _ _ (by omega)).trans (hk3.trans (hk4.trans (hk5.trans (hk6.trans hk7)))))⟩ (by omega)
  rw [hst]
  simpa only [zZx] using hb5
 repeat' (first | refine zY1 (by omega) ?_ | refine zQ (hW _) rfl ?_ | refine zQ (hO _) rfl ?_ | simp -implicitDefEqProofs (disch := omega) only [g14,g15,g16,zN,hxe,zAp,hwg,hwn,zS,zAx,push_cast,↓reduceIte,Nat.reduceEqDiff,reduceCtorEq,Nat.reduceAdd,Nat.reduceLeDiff,Nat.reduceLT,Int.reduceToNat,Int.reduceLE,Int.reduceAdd,zYW])
 refine zAd (fun (k : Nat) e2 G2 => e2 0 = int d ∧ e2 2 = .ptr rl 0 0 ∧ e2 3 = .ptr rs 0 0 ∧ e2 14 = .sl 5 (xs.map zAp) ∧ e2 15 = int xs.length ∧ e2 16 = int j ∧ e2 7 = .ptr G.length 0 0 ∧ e2 8 = .sl 5 (zBu l1) ∧ e2 9 = .sl 5 (zBu l2) ∧ e2 10 = str zEt ∧ e2 11 = .os (G.length + 1) k 0 (k + 1) ∧ e2 45 = .sl 1 (ns.map iR) ∧ e2 46 = int na ∧ e2 47 = int k ∧ k ≤ na ∧ G2 = G ++ .box [int q,int a,int b,.sl 5 (zBu l1),.sl 5 (zBu l2)] :: .arr k 1 ((wd :: (ns.take k).map Lib.itoa).map sR) :: []) (fun k => na - k) 0 ?_ ?_
 ·refine ⟨g0,g2,g3,g14,g15,g16,rfl,rfl,rfl,rfl,rfl,?_,?_,rfl,zZm _,rfl⟩
  ·rw [hne,List.map_take]; rfl
  ·show int _ = int _
   congr 1
   simp only [zzap,zYZ,zY4]
   omega
 rintro k e2 G2 ⟨g0,g2,g3,g14,g15,g16,g7,g8,g9,g10,g11,g45,g46,g47,hk,rfl⟩
 by_cases hkl : k < na
 ·have hnk := hns _ (zAt (l := ns) (j := k) (by omega))
  have hts := zBf (l := ns) (j := k) (by omega)
  have hfin : List.take (k + 1) ((wd :: (ns.take k).map Lib.itoa).map sR) ++ [sR (Lib.itoa (ns.getD k default))] = (wd :: (ns.take (k + 1)).map Lib.itoa).map sR := by
   rw [hts,zZu (by simp; omega)]
   simp
  have hrl2 : ((wd :: (ns.take k).map Lib.itoa).map sR).length = k + 1 := by simp; omega
  generalize hRk : (wd :: (ns.take k).map Lib.itoa).map sR = Rk at *
  repeat' (first | refine zY1 (by omega) ?_ | refine zC (hN.call _ hnk _) ?_ | simp -implicitDefEqProofs (disch := omega) only [g11,g45,g46,g47,zN,iR,hrl2,zS,push_cast,↓reduceIte,Nat.reduceEqDiff,reduceCtorEq,Nat.reduceAdd,Nat.reduceLeDiff,Nat.reduceLT,zYW])
  exact .mk (k + 1) ⟨g0,g2,g3,g14,g15,g16,g7,g8,g9,g10,rfl,g45,g46,rfl,hkl,congrArg (fun z => G ++ HO.box [int q,int a,int b,.sl 5 (zBu l1),.sl 5 (zBu l2)] :: HO.arr (k + 1) 1 z :: []) hfin⟩ (by omega)
 have hkn : k = na := by omega
 subst hkn
 have hall : List.take (k + 1) ((wd :: (ns.take k).map Lib.itoa).map sR) = (zCe q a b).map sR := by
  rw [zZu (by simp; omega),zZu (by omega),← hwd]
  simp only [zCe,zZ2,hnsd]
 have hrl2 : ((wd :: (ns.take k).map Lib.itoa).map sR).length = k + 1 := by simp; omega
 have hcl : zHa ((wd :: (ns.take k).map Lib.itoa).map sR) = true := zBA (fun _ => rfl) _
 generalize hRk : (wd :: (ns.take k).map Lib.itoa).map sR = Rk at *
 have hGs : ∀ X,(G ++ X)[rs]? = some (zNK rl rs) := fun X => by rw [zY2 (zYU.1 hk2).1]; exact hk2
 have hGr : ∀ X,(G ++ X)[rl]? = some (zNM r) := fun X => by rw [zY2 (zYU.1 hk1).1]; exact hk1
 repeat' (simp -implicitDefEqProofs (disch := omega) only [g0,g2,g11,g46,g47,hGr,hall,zAQ,push_cast,↓reduceIte,Nat.reduceEqDiff,reduceCtorEq,Nat.reduceAdd,Nat.reduceLeDiff])
 refine ⟨⟨by omega,hcl⟩,?_⟩
 refine zAm (zIK n0 r _ d (zCe q a b) _ (hB.app _) (by simp; omega) (by omega) (by omega) (by simp only [zY3]; omega)) ?_
 rintro x G1 ⟨rfl,hb1,hk3⟩
 have m1 := hk3.2.2 G.length [int q,int a,int b,.sl 5 (zBu l1),.sl 5 (zBu l2)] (by omega) (by simp)
 have hkl3 := hk3.2.2 rl [.fn (.func 33) [] [.ptr r 0 0]] hrl (hGr _)
 have hks3 := hk3.2.2 rs _ hrs (hGs _)
 by_cases hq18 : q = 18
 ·subst hq18
  have hI : zMh d (.mk (18 : Nat) a b l1 l2) = zCD d (zCe (18 : Nat) a b) ++ (lsT (d + 1) l1 ++ (zCD d [zEt] ++ (lsT (d + 1) l2 ++ zCD d [zEe]))) := by
   unfold zMh
   rw [if_pos (show ((18 : Nat) : Int) = 18 from rfl)]
  rw [hI] at hst hsp
  simp only [zY3] at hsp
  have ca := ih l1 (d + 1) _ G1 (by omega) f1 (by omega) hb1 (by have := hk3.1; simp only [zY3] at this; omega) hkl3 hks3 (by simp only [zY3]; omega)
  rw [← zAc,show ((d + 1 : Nat) : Int) = (d : Int) + 1 from rfl] at ca
  repeat' (simp -implicitDefEqProofs (disch := omega) only [g0,g3,g7,g8,m1,hks3,push_cast,↓reduceIte,Nat.reduceEqDiff,reduceCtorEq,Nat.reduceAdd,Nat.reduceLeDiff,Int.reduceAdd])
  refine zAm ca ?_
  rintro x G2 ⟨rfl,hb2,hk4⟩
  have m2 := hk4.2.2 G.length [int (18 : Nat),int a,int b,.sl 5 (zBu l1),.sl 5 (zBu l2)] (by omega) m1
  have hkl4 := hk4.2.2 rl _ hrl hkl3
  have hks4 := hk4.2.2 rs _ hrs hks3
  have hn2 : n0 ≤ G2.length := by have := hk3.1; have := hk4.1; simp only [zY3] at *; omega
  repeat' (simp -implicitDefEqProofs (disch := omega) only [g0,g2,g10,hkl4,push_cast,↓reduceIte,Nat.reduceEqDiff,reduceCtorEq,Nat.reduceAdd,Nat.reduceLeDiff,Nat.reduceLT,zYW])
  refine zAm (zIK n0 r _ d [zEt] G2 hb2 hn2 (by omega) (by simp) (by simp only [zY3,zBQ,zEt,zYZ,zY4] at hsp ⊢; omega)) ?_
  rintro x G3 ⟨rfl,hb3,hk5⟩
  have m3 := hk5.2.2 G.length [int (18 : Nat),int a,int b,.sl 5 (zBu l1),.sl 5 (zBu l2)] (by omega) m2
  have hkl5 := hk5.2.2 rl _ hrl hkl4
  have hks5 := hk5.2.2 rs _ hrs hks4
  have hn3 : n0 ≤ G3.length := by have := hk5.1; omega
  have cb := ih l2 (d + 1) _ G3 (by omega) f2 (by omega) hb3 hn3 hkl5 hks5 (by simp only [zY3]; omega)
  rw [← zAc,show ((d + 1 : Nat) : Int) = (d : Int) + 1 from rfl] at cb
  repeat' (simp -implicitDefEqProofs (disch := omega) only [g0,g3,g9,hks5,push_cast,↓reduceIte,Nat.reduceEqDiff,reduceCtorEq,Nat.reduceAdd,Nat.reduceLeDiff])
  refine zAm cb ?_
  rintro x G4 ⟨rfl,hb4,hk6⟩
  have m4 := hk6.2.2 G.length [int (18 : Nat),int a,int b,.sl 5 (zBu l1),.sl 5 (zBu l2)] (by omega) m3
  have hkl6 := hk6.2.2 rl _ hrl hkl5
  have hks6 := hk6.2.2 rs _ hrs hks5
  have hn4 : n0 ≤ G4.length := by have := hk6.1; omega
  repeat' (simp -implicitDefEqProofs (disch := omega) only [g0,g2,hkl6,push_cast,↓reduceIte,Nat.reduceEqDiff,reduceCtorEq,Nat.reduceAdd,Nat.reduceLeDiff,Nat.reduceLT,zYW])
  refine zAm (zIK n0 r _ d [zEe] G4 hb4 hn4 (by omega) (by simp) (by simp only [zY3,zBQ,zEe,zYZ,zY4] at hsp ⊢; omega)) ?_
  rintro x G5 ⟨rfl,hb5,hk7⟩
  repeat' (simp -implicitDefEqProofs (disch := omega) only [g16,push_cast,↓reduceIte,Nat.reduceEqDiff])
  refine .mk (j + 1) ⟨g0,g2,g3,g14,g15,rfl,hlt,?_,hK.trans ((Kp.app n0 r _ _ (by omega)).trans (hk3.trans (hk4.trans (hk5.trans (hk6.trans hk7)))))⟩ (by omega)
  rw [hst]
  simpa only [zZx] using hb5
 ·repeat' (simp -implicitDefEqProofs (disch := omega) only [g16,g7,m1,zAx,push_cast,↓reduceIte,Nat.reduceEqDiff,Nat.reduceAdd,Nat.reduceLeDiff])
  exact .mk (j + 1) ⟨g0,g2,g3,g14,g15,rfl,hlt,by rw [hst,← zZx]; unfold zMh; rw [if_neg (by omega),if_neg (by omega),zZA]; exact hb1,hK.trans ((Kp.app n0 r _ _ (by omega)).trans hk3)⟩ (by omega)
end Go.Proofs.YtbibhcmcjldhdaaGreatDoor
namespace Go.Proofs.YtbibhcmcjldhdaaGreatDoor
open Go Go.Ax
set_option maxRecDepth 100000
set_option linter.unusedSimpArgs false
set_option linter.unusedVariables false
set_option maxHeartbeats 4000000
structure St where
 slots : List Int
 stk : List Int
 cnt : Int
def St.top (s : St) : Int := s.stk.headD 0
def St.push (s : St) (v : Int) : St := ⟨s.slots,v :: s.stk,s.cnt⟩
def St.put (s : St) (i v : Int) : St := ⟨s.slots.set i.toNat v,s.stk,s.cnt⟩
inductive Flow where
 | go
 | ret
 | flt (kind proc num : Int)
inductive CR where
 | ok (l : List Int)
 | flt (kind proc num : Int)
structure Cx where
 ps : List Pr
 w : Int
 L : Int
 k : Nat
 cl : Nat → List Int → Int → CR × Int
abbrev Cx.q (C : Cx) : Pr := C.ps.getD C.k default
def fin (q : Pr) (k : Int) : Flow × St → CR × Int
 | (.flt x y z,s) => (.flt x y z,s.cnt)
 | (.ret,s) => if 0 ≤ q.res then (.ok s.stk.reverse,s.cnt) else (.ok (q.outs.map fun i => s.slots.getD i.toNat default),s.cnt)
 | (.go,s) => if 0 ≤ q.res then (.flt 4 k (zL q.body),s.cnt) else (.ok (q.outs.map fun i => s.slots.getD i.toNat default),s.cnt)
structure TyS (C : Cx) (s : St) (n : Int) : Prop where
 sl : (s.slots.length : Int) = C.q.slots
 sr : ∀ v ∈ s.slots,inI C.w v
 st : ∀ v ∈ s.stk,inI C.w v
 ln : (s.stk.length : Int) = n
section
variable {C : Cx} {s : St} {n : Int}
end
theorem zBx (q : Pr) : (prR q).length = 6 := rfl
theorem zES (q : Pr) : (prR q).take 6 = prR q := rfl
theorem zIy (q : Pr) : c1s (prR q) = true := rfl
theorem zBE (cs : List AV) : cellsOf (.agg cs) = cs := rfl
theorem zYB (l : List Ins) : zL l ≤ 1048576 → ∀ H,zBm 15 [.sl 5 (l.map zAp)] H (int (zL l : Nat)) := by
 induction l using Ins.indL with
 | h l ih =>
 intro hs H
 refine enter Tryz.func15 L15_ok (zY0 rfl) ?_
 have hln := zM l
 repeat' (simp -implicitDefEqProofs (disch := omega) only [L15,push_cast,Nat.reduceAdd])
 refine zAd (fun (j : Nat) e' H' => e' 0 = .sl 5 (l.map zAp) ∧ e' 3 = int (zL (l.take j) : Nat) ∧ e' 4 = int j ∧ H' = H ∧ j ≤ l.length) (fun j => l.length - j) 0 ?_ ?_
 ·exact ⟨rfl,rfl,rfl,rfl,zZm _⟩
 rintro j e' H' ⟨h0,h3,h4,rfl,hj⟩
 by_cases hlt : j < l.length
 ·have hk := zAt hlt
  have hb := zAs l (j + 1)
  rw [zAl hlt,zE2] at hb
  have hx := ih _ hk
  repeat' (first | refine zY1 (by omega) ?_ | refine zQ (hx.1 (by omega) _) rfl ?_ | refine zQ (hx.2 (by omega) _) rfl ?_ | simp -implicitDefEqProofs (disch := omega) only [h0,h3,h4,zN,zHK,zYV,zS,push_cast,↓reduceIte,Nat.reduceEqDiff,reduceCtorEq,Nat.reduceAdd,Nat.reduceLeDiff])
  exact .mk (j + 1) ⟨h0,zYu rfl (by rw [zAl hlt,zE2]; omega),rfl,rfl,hlt⟩ (by omega)
 ·have e : j = l.length := by omega
  subst e
  rw [zzaF] at h3
  repeat' (simp -implicitDefEqProofs (disch := omega) only [h0,h3,h4,zYV,zAQ,push_cast,↓reduceIte,Nat.reduceEqDiff,reduceCtorEq])
theorem zAu (l m : List Ins) : (l.isEmpty && m.isEmpty) = decide (l.length = 0 ∧ m.length = 0) := by
 rw [zzac]
 simp [zzav,zZh]
theorem zFy {α : Type} (H l : List α) : (H ++ l)[H.length]? = l[0]? := by rw [zYY (zZa _),zzbc]
theorem zBL {ps : List Pr} {j : Nat} (h : j < ps.length) : (ps.map prR).getD j [] = prR (ps.getD j default) := zN h
theorem zQo {h n c : Int} (h1 : n ≤ h) (h2 : h + c ≤ 1024) : chg h n c = some (h + c) := if_pos ⟨h1,h2⟩
noncomputable def zBR (ps : List Pr) : Bool := @decide (zDt ps) (Classical.propDecidable _)
theorem zFm {ps : List Pr} : zBR ps = true ↔ zDt ps := by unfold zBR; exact @decide_eq_true_iff _ (Classical.propDecidable _)
theorem zO3 {ps : List Pr} (h : ¬ zDt ps) : zBR ps = false := by
 cases hb : zBR ps with
 | false => rfl
 | true => exact absurd (zFm.1 hb) h
theorem zDV (q : Pr) : (prR q).drop 2 = [int q.slots,int q.res,.sl 1 (q.outs.map iR),.sl 5 (q.body.map zAp)] := rfl
theorem zFu (q : Pr) : (prR q).drop 3 = [int q.res,.sl 1 (q.outs.map iR),.sl 5 (q.body.map zAp)] := rfl
theorem zHy (q : Pr) : (prR q).drop 4 = [.sl 1 (q.outs.map iR),.sl 5 (q.body.map zAp)] := rfl
theorem zHx (q : Pr) : (prR q).drop 5 = [.sl 5 (q.body.map zAp)] := rfl
theorem zEv (q : Pr) : (prR q).drop 0 = [str q.name,int q.par,int q.slots,int q.res,.sl 1 (q.outs.map iR),.sl 5 (q.body.map zAp)] := rfl
abbrev zCF : Value := .iface 56 (.agg #[])
theorem zNx (b : Bool) (H : zA) : ACallX Tryz.prog 25 [bool b] H (fun x H' => b = true ∧ H' = H) fun z H' => b = false ∧ z = zCF ∧ H' = H := by
 refine zG2 Tryz.func25 L25_ok (zY0 rfl) ?_
 cases b with
 | true =>
  repeat' (simp -implicitDefEqProofs (disch := omega) only [L25,push_cast,↓reduceIte,reduceCtorEq,Nat.reduceAdd])
  simp [zAA]
 | false =>
  repeat' (simp -implicitDefEqProofs (disch := omega) only [L25,rBuild,fillA,zO4,zMn,zZt,push_cast,↓reduceIte,Nat.reduceAdd])
theorem zPz (q : Pr) (hs : q.outs.length ≤ 1048576) (H : zA) : zBm 75 [.agg (prR q)] H (int (zEz q)) := by
 refine ACall.drop (R := fun x => x = int (zEz q)) ?_
 refine enter Tryz.func75 L75_ok (zY0 rfl) ?_
 unfold zEz
 by_cases h : 0 ≤ q.res
 ·rw [if_pos h]
  repeat' (simp -implicitDefEqProofs (disch := omega) only [L75,zBE,prR,h,push_cast,↓reduceIte,Nat.reduceEqDiff,Nat.reduceAdd,Nat.reduceLeDiff,zYW])
  exact ⟨_,rfl⟩
 ·rw [if_neg h]
  repeat' (simp -implicitDefEqProofs (disch := omega) only [L75,zBE,prR,h,zYV,push_cast,↓reduceIte,Nat.reduceEqDiff,Nat.reduceAdd,Nat.reduceLeDiff,zYW])
  exact ⟨_,rfl⟩
theorem zGw (h n c : Int) (hh : 0 ≤ h ∧ h ≤ 1024) (hc : -2048 ≤ c ∧ c ≤ 2048) (a : Nat) (G : zA) (hg : G[a]? = some (.box [int h])) :
  ACallX Tryz.prog 73 [int n,int c,.ptr a 0 0] G (fun _ G' => (n ≤ h ∧ h + c ≤ 1024) ∧ G' = G.set a (.box [int (h + c)])) fun z G' => z = zCF ∧ ¬ (n ≤ h ∧ h + c ≤ 1024) ∧ (G' = G ∨ G' = G.set a (.box [int (h + c)])) := by
 have ha := (zYU.1 hg).1
 refine zG2 Tryz.func73 L73_ok (zY0 rfl) ?_
 by_cases h1 : n ≤ h
 ·repeat' (simp -implicitDefEqProofs (disch := omega) only [L73,hg,zAj,push_cast,↓reduceIte,Nat.reduceEqDiff,reduceCtorEq,Nat.reduceAdd,Nat.reduceLeDiff])
  refine zF (zNx _ _) ?_ ?_
  ·rintro x H' ⟨_,rfl⟩
   repeat' (simp -implicitDefEqProofs (disch := omega) only [hg,zH,splice,push_cast,↓reduceIte,Nat.reduceEqDiff,reduceCtorEq,Nat.reduceAdd,Nat.reduceLeDiff,zYW])
   refine zF (zNx _ _) ?_ ?_
   ·rintro x H' ⟨hb,rfl⟩
    rw [zY5] at hb
    repeat' (simp -implicitDefEqProofs (disch := omega) only [zAj,push_cast])
    simp [zAA,L73,h1,hb]
   ·rintro x H' ⟨hb,rfl,rfl⟩
    rw [decide_eq_false_iff_not] at hb
    repeat' (simp -implicitDefEqProofs (disch := omega) only [zAK,push_cast])
    first | omega | exact fun hh => absurd hh.2 hb
  ·rintro x H' ⟨hb,_,_⟩
   cases hb
 ·repeat' (simp -implicitDefEqProofs (disch := omega) only [L73,hg,zAK,push_cast,↓reduceIte,Nat.reduceEqDiff,reduceCtorEq,Nat.reduceAdd,Nat.reduceLeDiff])
  refine zF (zNx _ _) ?_ ?_
  ·rintro x H' ⟨hb,_⟩
   cases hb
  ·rintro x H' ⟨hb,rfl,rfl⟩
   repeat' (simp -implicitDefEqProofs (disch := omega) only [push_cast])
   first | omega | exact fun hh => absurd hh.1 h1
theorem zCl (s : Int) (q : Pr) (a : Nat) (G : zA) (hg : G[a]? = some (.box (prR q))) : ACall Tryz.prog 74 [int s,.ptr a 0 0] G fun x G' => x = bool (decide (0 ≤ s ∧ s < q.slots)) ∧ G' = G := by
 refine enter Tryz.func74 L74_ok (zY0 rfl) ?_
 by_cases h1 : 0 ≤ s
 ·by_cases h2 : s < q.slots
  ·rw [zZz ⟨h1,h2⟩]
   repeat' (simp -implicitDefEqProofs (disch := omega) only [L74,hg,zDV,zBx,zS,zAj,push_cast,↓reduceIte,Nat.reduceEqDiff,reduceCtorEq,Nat.reduceAdd,Nat.reduceLeDiff])
  ·rw [zzad fun hh => h2 hh.2]
   repeat' (simp -implicitDefEqProofs (disch := omega) only [L74,hg,zDV,zBx,zAQ,zAj,push_cast,↓reduceIte,Nat.reduceEqDiff,reduceCtorEq,Nat.reduceAdd,Nat.reduceLeDiff])
 ·rw [zzad fun hh => h1 hh.1]
  repeat' (simp -implicitDefEqProofs (disch := omega) only [L74,zAK,push_cast,↓reduceIte,Nat.reduceEqDiff,reduceCtorEq,Nat.reduceAdd])
structure Fr1 (r : Nat) (G G' : zA) : Prop where
 le : G.length ≤ G'.length
 keep : ∀ i,i < G.length → i ≠ r → G'[i]? = G[i]?
theorem Fr1.refl {r : Nat} {G : zA} : Fr1 r G G := ⟨zZa _,fun _ _ _ => rfl⟩
theorem Fr1.trans {r : Nat} {G G' G'' : zA} (h : Fr1 r G G') (h' : Fr1 r G' G'') : Fr1 r G G'' :=
 ⟨zZ3 h.1 h'.1,fun i hi hne => (h'.2 i (zZl hi h.1) hne).trans (h.2 i hi hne)⟩
theorem Fr1.app {r : Nat} {G : zA} (ext : zA) : Fr1 r G (G ++ ext) := ⟨by simp,fun i hi _ => zB hi⟩
theorem Fr1.set {r : Nat} {G : zA} (x : HO) : Fr1 r G (G.set r x) := ⟨by simp,fun i hi hne => zG fun e => hne e.symm⟩
theorem Fr1.set' {r i : Nat} {G G' : zA} (h : Fr1 r G G') (hi : G.length ≤ i) (x : HO) : Fr1 r G (G'.set i x) :=
 ⟨by simpa using h.1,fun j hj hne => by rw [zG (by omega)]; exact h.2 j hj hne⟩
theorem zAB (l : List Ins) (j : Nat) : zAE (l.take j) ≤ zAE l := by
 have h := zDH (l.take j) (l.drop j)
 rw [zZ7] at h
 omega
def zDJ (ps : List Pr) (k : Nat) (l : List Ins) (out : Bool) (level c : Int) : Prop := (∃ e,zDu ps k l out 0 = some e) ∧ c + zL l ≤ 32768 ∧ level + zAE l ≤ 257
def zYz (ps : List Pr) (k : Nat) (l : List Ins) : Prop := ∀ (out : Bool) (level c : Int) (G : zA) (r : Nat),G[r]? = some (.box [zAU ps,int k,int c]) → 0 ≤ c → c ≤ 32768 → 1 ≤ level → level ≤ 257 →
 ACallX Tryz.prog 46 [.ptr r 0 0,.sl 5 (l.map zAp),bool out,int level] G (fun x G' => ∃ e,x = int e ∧ zDu ps k l out 0 = some e ∧ c + zL l ≤ 32768 ∧ level + zAE l ≤ 257 ∧ Fr1 r G G' ∧ G'[r]? = some (.box [zAU ps,int k,int (c + zL l)]))
  fun z G' => z = zCF ∧ ¬ zDJ ps k l out level c ∧ Fr1 r G G'
section
variable {ps : List Pr} {k : Nat} {o a b : Int} {bd el : List Ins} {out : Bool} {h n c h' : Int}
theorem zBq (h18 : ¬ o = 18) (h19 : ¬ o = 19) (he : zFC ps k o a out h = chg h n c) : zCA ps k (.mk o a b bd el) out h = some h' ↔ zW (ps.getD k default).slots o a b (bd.isEmpty && el.isEmpty) ∧ n ≤ h ∧ h + c ≤ 1024 ∧ h' = h + c := by
 simp only [zCA]
 by_cases hf : zW (ps.getD k default).slots o a b (bd.isEmpty && el.isEmpty)
 ·rw [if_pos hf,if_neg h18,if_neg h19,he]
  constructor
  ·intro hh
   have := zDv hh
   exact ⟨hf,by omega,by omega,by omega⟩
  ·rintro ⟨_,h1,h2,rfl⟩
   exact zQo h1 h2
 ·rw [if_neg hf]
  constructor
  ·intro hh; cases hh
  ·intro hh; exact absurd hh.1 hf
theorem zCS : zCA ps k (.mk 18 a b bd el) out h = some h' ↔ a = 0 ∧ b = 0 ∧ 1 ≤ h ∧ ∃ e,zDu ps k bd (out && decide (h = 1)) 0 = some e ∧ zDu ps k el (out && decide (h = 1)) 0 = some e ∧ h + (e - 1) ≤ 1024 ∧ h' = h + (e - 1) := by
 simp only [zCA,if_true]
 have hff : zW (ps.getD k default).slots 18 a b (bd.isEmpty && el.isEmpty) ↔ a = 0 ∧ b = 0 := by
  unfold zW
  constructor
  ·intro hh; omega
  ·intro hh
   refine ⟨?_,?_,?_,?_,?_,?_,?_,?_⟩ <;> first | omega | (intro h1; omega)
 by_cases hf : a = 0 ∧ b = 0
 ·rw [if_pos (hff.2 hf)]
  by_cases h1 : 1 ≤ h
  ·rw [if_pos h1]
   cases e1 : zDu ps k bd (out && decide (h = 1)) 0 with
   | none => exact ⟨fun hh => (by cases hh),fun ⟨_,_,_,e,hh,_⟩ => (by cases hh)⟩
   | some y1 =>
    cases e2 : zDu ps k el (out && decide (h = 1)) 0 with
    | none => exact ⟨fun hh => (by cases hh),fun ⟨_,_,_,e,_,hh,_⟩ => (by cases hh)⟩
    | some y2 =>
     simp only
     by_cases hy : y1 = y2
     ·subst hy
      rw [if_pos rfl]
      constructor
      ·intro hh
       have := zDv hh
       exact ⟨hf.1,hf.2,h1,y1,rfl,rfl,by omega,by omega⟩
      ·rintro ⟨_,_,_,e,g1,_,g2,rfl⟩
       simp only [zYT] at g1
       subst g1
       exact zQo (by omega) g2
     ·rw [if_neg hy]
      exact ⟨fun hh => (by cases hh),fun ⟨_,_,_,e,g1,g2,_⟩ => by simp only [zYT] at g1 g2; omega⟩
  ·rw [if_neg h1]
   exact ⟨fun hh => (by cases hh),fun hh => absurd hh.2.2.1 h1⟩
 ·rw [if_neg fun hh => hf (hff.1 hh)]
  exact ⟨fun hh => (by cases hh),fun hh => absurd ⟨hh.1,hh.2.1⟩ hf⟩
theorem zIZ : zCA ps k (.mk 19 a b bd el) out h = some h' ↔ a = 0 ∧ b = 0 ∧ out = true ∧ h = 0 ∧ zDu ps k el false 0 = some 1 ∧ zDu ps k bd true 0 = some 0 ∧ h' = h := by
 simp only [zCA,show ¬ (19 : Int) = 18 by omega,if_true,if_false]
 have hff : zW (ps.getD k default).slots 19 a b (bd.isEmpty && el.isEmpty) ↔ a = 0 ∧ b = 0 := by
  unfold zW
  constructor
  ·intro hh; omega
  ·intro hh
   refine ⟨?_,?_,?_,?_,?_,?_,?_,?_⟩ <;> first | omega | (intro h1; omega)
 by_cases hf : a = 0 ∧ b = 0
 ·rw [if_pos (hff.2 hf)]
  split
  ·rename_i hc
   simp only [zYT]
   exact ⟨fun hh => ⟨hf.1,hf.2,hc.1,hc.2.1,hc.2.2.1,hc.2.2.2,hh.symm⟩,fun hh => hh.2.2.2.2.2.2.symm⟩
  ·rename_i hc
   exact ⟨fun hh => (by cases hh),fun hh => absurd ⟨hh.2.2.1,hh.2.2.2.1,hh.2.2.2.2.1,hh.2.2.2.2.2.1⟩ hc⟩
 ·rw [if_neg fun hh => hf (hff.1 hh)]
  exact ⟨fun hh => (by cases hh),fun hh => absurd ⟨hh.1,hh.2.1⟩ hf⟩
theorem zSX : zCA ps k (.mk 20 a b bd el) out h = some h' ↔ b = 0 ∧ (bd.length = 0 ∧ el.length = 0) ∧ (0 ≤ a ∧ a < k) ∧ (ps.getD a.toNat default).par ≤ h ∧ h + (zEz (ps.getD a.toNat default) - (ps.getD a.toNat default).par) ≤ 1024 ∧ h' = h + (zEz (ps.getD a.toNat default) - (ps.getD a.toNat default).par) := by
 simp only [zCA,show ¬ (20 : Int) = 18 by omega,show ¬ (20 : Int) = 19 by omega,if_true,if_false]
 have hff : zW (ps.getD k default).slots 20 a b (bd.isEmpty && el.isEmpty) ↔ b = 0 ∧ (bd.length = 0 ∧ el.length = 0) := by
  unfold zW
  rw [zAu,zY5]
  constructor
  ·intro hh; omega
  ·intro hh
   refine ⟨?_,?_,?_,?_,?_,?_,?_,?_⟩ <;> first | omega | (intro h1; omega)
 have hes : zFC ps k 20 a out h = if 0 ≤ a ∧ a < k then chg h (ps.getD a.toNat default).par (zEz (ps.getD a.toNat default) - (ps.getD a.toNat default).par) else none := by
  unfold zFC
  rw [if_neg (by omega),if_neg (by omega),if_neg (by omega),if_neg (by omega),if_pos rfl]
 rw [hes]
 by_cases hf : b = 0 ∧ (bd.length = 0 ∧ el.length = 0)
 ·rw [if_pos (hff.2 hf)]
  split
  ·rename_i ha
   constructor
   ·intro hh
    have := zDv hh
    exact ⟨hf.1,hf.2,ha,by omega,by omega,by omega⟩
   ·rintro ⟨_,_,_,g1,g2,rfl⟩
    exact zQo g1 g2
  ·rename_i ha
   exact ⟨fun hh => (by cases hh),fun hh => absurd hh.2.2.1 ha⟩
 ·rw [if_neg fun hh => hf (hff.1 hh)]
  exact ⟨fun hh => (by cases hh),fun hh => absurd ⟨hh.1,hh.2.1⟩ hf⟩
theorem zVK : zCA ps k (.mk 21 a b bd el) out h = some h' ↔ (a = 0 ∧ b = 0) ∧ (bd.length = 0 ∧ el.length = 0) ∧ out = true ∧ h = max (ps.getD k default).res 0 ∧ h' = 0 := by
 simp only [zCA,show ¬ (21 : Int) = 18 by omega,show ¬ (21 : Int) = 19 by omega,if_true,if_false]
 have hff : zW (ps.getD k default).slots 21 a b (bd.isEmpty && el.isEmpty) ↔ (a = 0 ∧ b = 0) ∧ (bd.length = 0 ∧ el.length = 0) := by
  unfold zW
  rw [zAu,zY5]
  constructor
  ·intro hh; omega
  ·intro hh
   refine ⟨?_,?_,?_,?_,?_,?_,?_,?_⟩ <;> first | omega | (intro h1; omega)
 have hes : zFC ps k 21 a out h = if out = true ∧ h = max (ps.getD k default).res 0 then chg h 0 (-h) else none := by
  unfold zFC
  rw [if_neg (by omega),if_neg (by omega),if_neg (by omega),if_neg (by omega),if_neg (by omega),if_pos rfl]
 rw [hes]
 by_cases hf : (a = 0 ∧ b = 0) ∧ (bd.length = 0 ∧ el.length = 0)
 ·rw [if_pos (hff.2 hf)]
  split
  ·rename_i ha
   constructor
   ·intro hh
    have := zDv hh
    exact ⟨hf.1,hf.2,ha.1,ha.2,by omega⟩
   ·rintro ⟨_,_,_,g1,rfl⟩
    rw [zQo (by omega) (by omega)]
    congr 1; omega
  ·rename_i ha
   exact ⟨fun hh => (by cases hh),fun hh => absurd ⟨hh.2.2.1,hh.2.2.2.1⟩ ha⟩
 ·rw [if_neg fun hh => hf (hff.1 hh)]
  exact ⟨fun hh => (by cases hh),fun hh => absurd ⟨hh.1,hh.2.1⟩ hf⟩
end
section
variable {ps : List Pr} {k : Nat} {l : List Ins} {out : Bool} {level c : Int} {r : Nat} {G : zA}
structure EfI (ps : List Pr) (k : Nat) (l : List Ins) (out : Bool) (level c : Int) (r : Nat) (G : zA) (j : Nat) (h : Int) (e' : Env) (G' : zA) : Prop where
 e0 : e' 0 = .ptr r 0 0
 e2 : e' 2 = bool out
 e3 : e' 3 = int level
 e9 : e' 9 = .ptr G.length 0 0
 e10 : e' 10 = .ptr (G.length + 1) 0 0
 e11 : e' 11 = .fn (.func 73) [] [.ptr (G.length + 1) 0 0]
 e12 : e' 12 = .fn (.func 74) [] [.ptr G.length 0 0]
 e42 : e' 42 = .sl 5 (l.map zAp)
 e43 : e' 43 = int l.length
 e44 : e' 44 = int j
 gr : G'[r]? = some (.box [zAU ps,int k,int (c + zL (l.take j))])
 g9 : G'[G.length]? = some (.box (prR (ps.getD k default)))
 g10 : G'[G.length + 1]? = some (.box [int h])
 fr : Fr1 r G G'
 gl : G.length + 2 ≤ G'.length
 hj : j ≤ l.length
 hh : 0 ≤ h ∧ h ≤ 1024
 cc : c + zL (l.take j) ≤ 32768
 lv : level + zAE (l.take j) ≤ 257
 ef : zDu ps k l out 0 = zDu ps k (l.drop j) out h
theorem zBb {x : Ins} {j : Nat} (hlt : j < l.length) (hx : l.getD j default = x) {h : Int} (ef : zDu ps k l out 0 = zDu ps k (l.drop j) out h) (hn : (∀ h',¬ zCA ps k x out h = some h') ∨ 32768 < c + zL (l.take j) + zBa x ∨ 257 < level + zCN x) : ¬ zDJ ps k l out level c := by
 rintro ⟨⟨e,he⟩,h2,h3⟩
 rw [ef,zAM ps k hlt,hx] at he
 have hb := zAs l (j + 1)
 rw [zAl hlt,hx] at hb
 have hb2 := zAB l (j + 1)
 rw [zAC hlt,hx] at hb2
 rcases hn with hn | hn | hn
 ·cases hI : zCA ps k x out h with
  | none => rw [hI] at he; cases he
  | some h' => exact hn h' hI
 ·omega
 ·omega
end
theorem zAo (H : zA) : ACall Tryz.prog 25 [bool true] H fun x H' => x = .tup [] ∧ H' = H := by
 refine enter Tryz.func25 L25_ok (zY0 rfl) ?_
 repeat' (simp -implicitDefEqProofs (disch := omega) only [L25,push_cast,↓reduceIte,Nat.reduceAdd])
 simp [zAA]
theorem zAG (H : zA) : ACallX Tryz.prog 25 [bool false] H (fun _ _ => False) fun z H' => z = zCF ∧ H' = H :=
 (zNx false H).mono (fun _ _ h => by cases h.1) fun _ _ h => h.2
def MT (b : Bool) (H H' : zA) : Prop := b = true ∧ H' = H
def MF (b : Bool) (z : Value) (H H' : zA) : Prop := b = false ∧ z = zCF ∧ H' = H
def NT (h n c : Int) (a : Nat) (G G' : zA) : Prop := (n ≤ h ∧ h + c ≤ 1024) ∧ G' = G.set a (.box [int (h + c)])
def NF (h n c : Int) (a : Nat) (z : Value) (G G' : zA) : Prop := z = zCF ∧ ¬ (n ≤ h ∧ h + c ≤ 1024) ∧ (G' = G ∨ G' = G.set a (.box [int (h + c)]))
theorem zCY (b : Bool) (H : zA) : ACallX Tryz.prog 25 [bool b] H (fun x H' => MT b H H') fun z H' => MF b z H H' := zNx b H
theorem zCb (h n c : Int) (hh : 0 ≤ h ∧ h ≤ 1024) (hc : -2048 ≤ c ∧ c ≤ 2048) (a : Nat) (G : zA) (hg : G[a]? = some (.box [int h])) :
  ACallX Tryz.prog 73 [int n,int c,.ptr a 0 0] G (fun _ G' => NT h n c a G G') fun z G' => NF h n c a z G G' := zGw h n c hh hc a G hg
theorem zA7 {ps : List Pr} {k : Nat} {o a : Int} {out : Bool} {h : Int} : (o = 0 ∨ o = 1 → zFC ps k o a out h = chg h 0 1) ∧ (o = 2 ∨ o = 22 → zFC ps k o a out h = chg h 1 (-1)) ∧ (o = 3 ∨ o = 16 ∨ o = 17 → zFC ps k o a out h = chg h 1 0) ∧ (o = 4 → zFC ps k o a out h = chg h 2 (-2)) ∧ (5 ≤ o ∧ o ≤ 15 → zFC ps k o a out h = chg h 2 (-1)) := by
 unfold zFC
 refine ⟨fun ho => ?_,fun ho => ?_,fun ho => ?_,fun ho => ?_,fun ho => ?_⟩ <;> repeat (first | rw [if_pos (by omega)] | rw [if_neg (by omega)])
def zJ6 (ps : List Pr) (k : Nat) (l : List Ins) (out : Bool) (level c : Int) (r : Nat) (G : zA) (o : Int) : Prop := ∀ (j : Nat) (h : Int) (e' : Env) (G' : zA) (a b : Int) (bd el : List Ins),j < l.length → l.getD j default = .mk o a b bd el → zL l ≤ 1048576 → zYz ps k bd → zYz ps k el → r < G.length → 0 ≤ c → 1 ≤ level → level ≤ 256 → EfI ps k l out level c r G j h e' G' →
 zU Tryz.prog [.code (L46.body.sub [1,1,1,1,1,1,0,1,0,0]),.lp (Nx (fun (st : Nat × Int) e' H' => EfI ps k l out level c r G st.1 st.2 e' H') (fun st => l.length - st.1) (j,h)),.blk 0,.code (L46.body.sub [1,1,1,1,1,1,1])] (zLs L46.res (fun x G' => ∃ e,x = int e ∧ zDu ps k l out 0 = some e ∧ c + zL l ≤ 32768 ∧ level + zAE l ≤ 257 ∧ Fr1 r G G' ∧ G'[r]? = some (.box [zAU ps,int k,int (c + zL l)])) fun z G' => z = zCF ∧ ¬ zDJ ps k l out level c ∧ Fr1 r G G') .normal e' G'
set_option maxHeartbeats 8000000 in
theorem zXB (ps : List Pr) (k : Nat) (hk : k < ps.length) (hps : ps.length ≤ 1048576) (hp : zDc ps k) (hh : zDk (ps.getD k default)) (l : List Ins) (out : Bool) (level c : Int) (r : Nat) (G : zA) : zJ6 ps k l out level c r G 0 := by
 intro j h e' G' a b bd el hlt hx hs hbd hel hrl hc0 hl0 hl1 ⟨e0,e2,e3,e9,e10,e11,e12,e42,e43,e44,gr,g9,g10,fr,gl,hj,hhh,cc,lv,ef⟩
 have hrow : (l.map zAp).getD j [] = [int 0,int a,int b,.sl 5 (bd.map zAp),.sl 5 (el.map zAp)] := by
  rw [zN hlt,hx]; simp [zAp,zAc]
 have hrl' := zZl hrl fr.1
 have hb := zAs l (j + 1)
 have hb2 := zAB l (j + 1)
 have hsn := zAl hlt
 have hsl := zAC hlt
 rw [hx] at hsn hsl
 simp only [zBa,zCN] at hsn hsl
 have hbl := zM bd
 have hell := zM el
 have hbv := zX bd
 have helv := zX el
 obtain ⟨q1,q2,q3,q4,q5,q6,q7,q8⟩ := hh
 have ef0 := ef
 rw [zAM ps k hlt,hx] at ef
 have fA : ∀ B b,Fr1 r G (G'.set r B ++ [b]) := fun B b => (fr.trans (Fr1.set B)).trans (Fr1.app _)
 have fB : ∀ B b X,Fr1 r G ((G'.set r B).set (G.length + 1) X ++ [b]) := fun B b X => ((fr.trans (Fr1.set B)).set' (i := G.length + 1) (by omega) X).trans (Fr1.app _)
 have hng : ((∀ h',¬ zCA ps k (.mk 0 a b bd el) out h = some h') ∨ 32768 < c + zL (l.take j) + zBa (.mk 0 a b bd el) ∨ 257 < level + zCN (.mk 0 a b bd el)) → ¬ zDJ ps k l out level c := zBb hlt hx ef0
 have hSr : ∀ B b,(G'.set r B ++ [b])[r]? = some B := fun B b => by rw [zB (by simpa using hrl'),zH hrl']
 have hS9 : ∀ B b,(G'.set r B ++ [b])[G.length]? = some (.box (prR (ps.getD k default))) := fun B b => by rw [zB (by rw [zZc]; omega),zG (by omega)]; exact g9
 have hS10 : ∀ B b,(G'.set r B ++ [b])[G.length + 1]? = some (.box [int h]) := fun B b => by rw [zB (by rw [zZc]; omega),zG (by omega)]; exact g10
 have hSx : ∀ B b,(G'.set r B ++ [b])[G'.length]? = some b := fun B b => by rw [zYY (by simp)]; simp
 have hTx : ∀ B b X,((G'.set r B).set (G.length + 1) X ++ [b])[G'.length]? = some b := fun B b X => by rw [zYY (by simp)]; simp
 have hln := zM l
 have he : zFC ps k 0 a out h = chg h 0 1 := zA7.1 (by omega)
 have hes := fun h' => zBq (ps := ps) (k := k) (o := 0) (a := a) (b := b) (bd := bd) (el := el) (out := out) (h := h) (h' := h') (by omega) (by omega) he
 by_cases hcn : c + zL (l.take j) + 1 ≤ 32768
 ·cases hI : zCA ps k (.mk 0 a b bd el) out h with
  | some h' =>
   obtain ⟨hf,f1,f2,rfl⟩ := (hes h').1 hI
   rw [hI] at ef
   have hf' := hf
   unfold zW at hf
   rw [zAu,zY5] at hf
   have hem : bd.length = 0 ∧ el.length = 0 := by omega
   have hz : zL bd = 0 ∧ zL el = 0 ∧ zAE bd = 0 ∧ zAE el = 0 := by
    rw [zZh.1 hem.1,zZh.1 hem.2]; exact ⟨rfl,rfl,rfl,rfl⟩
   have hd1 : 0 ≤ a ∧ a < (ps.getD k default).slots → decide (0 ≤ a ∧ a < (ps.getD k default).slots) = true := fun hh => zZz hh
   have hd2 : 0 ≤ a + b - 1 ∧ a + b - 1 < (ps.getD k default).slots → decide (0 ≤ a + b - 1 ∧ a + b - 1 < (ps.getD k default).slots) = true := fun hh => zZz hh
   repeat' (first | refine zY1 (by omega) ?_ | refine zD (zAo _) ?_ | simp -implicitDefEqProofs (disch := omega) only [e0,e11,e42,e43,e44,gr,hrow,zB,zK,splice,zYV,zBE,hSr,hSx,L46,LCode.sub,zS,zAj,push_cast,↓reduceIte,Nat.reduceEqDiff,reduceCtorEq,Nat.reduceAdd,Nat.reduceLeDiff,Int.reduceNeg,zYW])
   refine zF (zGw h 0 1 hhh (by omega) _ _ (hS10 _ _)) ?_ ?_
   ·rintro _ _ ⟨-,rfl⟩
    repeat' (first | refine zD (zAo _) ?_ | simp -implicitDefEqProofs (disch := omega) only [e44,zT,zYV,hTx,zAz,push_cast,↓reduceIte,Nat.reduceEqDiff,Nat.reduceAdd,Nat.reduceLeDiff])
    exact .mk (j + 1,h + 1) ⟨e0,e2,e3,e9,e10,e11,e12,e42,e43,rfl,by rw [zB (by simp; omega),zG (by omega),zH hrl',hsn]; simp only [hz,zZJ,zZw]; push_cast; rw [zzag],by rw [zB (by simp; omega),zG (by omega),zG (by omega)]; exact g9,by rw [zB (by simp; omega),zH (by simp; omega)],fB _ _ _,by simp; omega,hlt,by dsimp only; omega,by dsimp only; rw [hsn]; omega,by dsimp only; rw [hsl]; omega,ef⟩ (by dsimp only; omega)
   ·rintro _ _ ⟨-,hn,-⟩
    exact absurd ⟨f1,f2⟩ hn
  | none =>
   have hn : ¬ (zW (ps.getD k default).slots 0 a b (bd.isEmpty && el.isEmpty) ∧ 0 ≤ h ∧ h + 1 ≤ 1024) := fun hh => by rw [(hes _).2 ⟨hh.1,hh.2.1,hh.2.2,rfl⟩] at hI; cases hI
   have ng := hng (.inl fun h' hh => by rw [hI] at hh; cases hh)
   unfold zW at hn
   rw [zAu,zY5] at hn
   repeat' (first | intro y0 H2 h0; obtain ⟨hb,rfl⟩ : MT _ _ H2 := h0; (try (exfalso; contradiction)); (try simp only [zY5] at hb) | intro z0 H2 h0; obtain ⟨hb,rfl,rfl⟩ : MF _ z0 _ H2 := h0; clear hb | intro y0 H2 h0; obtain ⟨hb,rfl⟩ : NT _ _ _ _ _ H2 := h0 | intro z0 H2 h0; obtain ⟨rfl,hb,rfl | rfl⟩ : NF _ _ _ _ z0 _ H2 := h0 | refine zY1 (by omega) ?_ | refine zF (zCY _ _) ?_ ?_ | refine zF (zCb h 0 1 hhh (by omega) _ _ (hS10 _ _)) ?_ ?_ | simp -implicitDefEqProofs (disch := omega) only [e0,e11,e42,e43,e44,gr,hrow,zB,zK,zT,splice,zYV,zBE,hSr,hSx,hTx,L46,LCode.sub,zS,zAj,zAK,zAz,zAx,push_cast,↓reduceIte,Nat.reduceEqDiff,reduceCtorEq,Nat.reduceAdd,Nat.reduceLeDiff,Int.reduceNeg,zYW] | split)
   all_goals first | exact fA _ _ | exact fB _ _ _ | exact ⟨ng,fA _ _⟩ | exact ⟨rfl,ng,fA _ _⟩ | exact ⟨ng,fB _ _ _⟩ | exact ⟨rfl,ng,fB _ _ _⟩ | (exfalso; refine hn ⟨⟨?_,?_,?_,?_,?_,?_,?_,?_⟩,?_,?_⟩ <;> first | omega | (intro h1; omega))
 ·repeat' (first | refine zY1 (by omega) ?_ | refine zI (zAG _) ?_ | simp -implicitDefEqProofs (disch := omega) only [e0,e42,e43,e44,gr,hrow,zB,zK,splice,zYV,zBE,hSr,L46,LCode.sub,zS,zAK,push_cast,↓reduceIte,Nat.reduceEqDiff,reduceCtorEq,Nat.reduceAdd,Nat.reduceLeDiff,Int.reduceNeg,zYW])
  exact ⟨hng (.inr (.inl (by simp only [zBa]; omega))),fA _ _⟩
set_option maxHeartbeats 8000000 in
theorem zXA (ps : List Pr) (k : Nat) (hk : k < ps.length) (hps : ps.length ≤ 1048576) (hp : zDc ps k) (hh : zDk (ps.getD k default)) (l : List Ins) (out : Bool) (level c : Int) (r : Nat) (G : zA) : zJ6 ps k l out level c r G 1 := by
 intro j h e' G' a b bd el hlt hx hs hbd hel hrl hc0 hl0 hl1 ⟨e0,e2,e3,e9,e10,e11,e12,e42,e43,e44,gr,g9,g10,fr,gl,hj,hhh,cc,lv,ef⟩
 have hrow : (l.map zAp).getD j [] = [int 1,int a,int b,.sl 5 (bd.map zAp),.sl 5 (el.map zAp)] := by
  rw [zN hlt,hx]; simp [zAp,zAc]
 have hrl' := zZl hrl fr.1
 have hb := zAs l (j + 1)
 have hb2 := zAB l (j + 1)
 have hsn := zAl hlt
 have hsl := zAC hlt
 rw [hx] at hsn hsl
 simp only [zBa,zCN] at hsn hsl
 have hbl := zM bd
 have hell := zM el
 have hbv := zX bd
 have helv := zX el
 obtain ⟨q1,q2,q3,q4,q5,q6,q7,q8⟩ := hh
 have ef0 := ef
 rw [zAM ps k hlt,hx] at ef
 have fA : ∀ B b,Fr1 r G (G'.set r B ++ [b]) := fun B b => (fr.trans (Fr1.set B)).trans (Fr1.app _)
 have fB : ∀ B b X,Fr1 r G ((G'.set r B).set (G.length + 1) X ++ [b]) := fun B b X => ((fr.trans (Fr1.set B)).set' (i := G.length + 1) (by omega) X).trans (Fr1.app _)
 have hng : ((∀ h',¬ zCA ps k (.mk 1 a b bd el) out h = some h') ∨ 32768 < c + zL (l.take j) + zBa (.mk 1 a b bd el) ∨ 257 < level + zCN (.mk 1 a b bd el)) → ¬ zDJ ps k l out level c := zBb hlt hx ef0
 have hSr : ∀ B b,(G'.set r B ++ [b])[r]? = some B := fun B b => by rw [zB (by simpa using hrl'),zH hrl']
 have hS9 : ∀ B b,(G'.set r B ++ [b])[G.length]? = some (.box (prR (ps.getD k default))) := fun B b => by rw [zB (by rw [zZc]; omega),zG (by omega)]; exact g9
 have hS10 : ∀ B b,(G'.set r B ++ [b])[G.length + 1]? = some (.box [int h]) := fun B b => by rw [zB (by rw [zZc]; omega),zG (by omega)]; exact g10
 have hSx : ∀ B b,(G'.set r B ++ [b])[G'.length]? = some b := fun B b => by rw [zYY (by simp)]; simp
 have hTx : ∀ B b X,((G'.set r B).set (G.length + 1) X ++ [b])[G'.length]? = some b := fun B b X => by rw [zYY (by simp)]; simp
 have hln := zM l
 have he : zFC ps k 1 a out h = chg h 0 1 := zA7.1 (by omega)
 have hes := fun h' => zBq (ps := ps) (k := k) (o := 1) (a := a) (b := b) (bd := bd) (el := el) (out := out) (h := h) (h' := h') (by omega) (by omega) he
 by_cases hcn : c + zL (l.take j) + 1 ≤ 32768
 ·cases hI : zCA ps k (.mk 1 a b bd el) out h with
  | some h' =>
   obtain ⟨hf,f1,f2,rfl⟩ := (hes h').1 hI
   rw [hI] at ef
   have hf' := hf
   unfold zW at hf
   rw [zAu,zY5] at hf
   have hem : bd.length = 0 ∧ el.length = 0 := by omega
   have hz : zL bd = 0 ∧ zL el = 0 ∧ zAE bd = 0 ∧ zAE el = 0 := by
    rw [zZh.1 hem.1,zZh.1 hem.2]; exact ⟨rfl,rfl,rfl,rfl⟩
   have hd1 : 0 ≤ a ∧ a < (ps.getD k default).slots → decide (0 ≤ a ∧ a < (ps.getD k default).slots) = true := fun hh => zZz hh
   have hd2 : 0 ≤ a + b - 1 ∧ a + b - 1 < (ps.getD k default).slots → decide (0 ≤ a + b - 1 ∧ a + b - 1 < (ps.getD k default).slots) = true := fun hh => zZz hh
   have hd := hd1 (by omega)
   repeat' (first | refine zY1 (by omega) ?_ | refine zD (zAo _) ?_ | refine zD (zCl a (ps.getD k default) G.length _ (hS9 _ _)) ?_ | simp -implicitDefEqProofs (disch := omega) only [e0,e11,e12,e42,e43,e44,gr,hrow,zB,zK,splice,zYV,zBE,hSr,hSx,L46,LCode.sub,hd,zS,zAj,push_cast,↓reduceIte,Nat.reduceEqDiff,reduceCtorEq,Nat.reduceAdd,Nat.reduceLeDiff,Int.reduceEq,Int.reduceNeg,zYW])
   refine zF (zGw h 0 1 hhh (by omega) _ _ (hS10 _ _)) ?_ ?_
   ·rintro _ _ ⟨-,rfl⟩
    repeat' (first | refine zD (zAo _) ?_ | simp -implicitDefEqProofs (disch := omega) only [e44,zT,zYV,hTx,zAz,push_cast,↓reduceIte,Nat.reduceEqDiff,Nat.reduceAdd,Nat.reduceLeDiff])
    exact .mk (j + 1,h + 1) ⟨e0,e2,e3,e9,e10,e11,e12,e42,e43,rfl,by rw [zB (by simp; omega),zG (by omega),zH hrl',hsn]; simp only [hz,zZJ,zZw]; push_cast; rw [zzag],by rw [zB (by simp; omega),zG (by omega),zG (by omega)]; exact g9,by rw [zB (by simp; omega),zH (by simp; omega)],fB _ _ _,by simp; omega,hlt,by dsimp only; omega,by dsimp only; rw [hsn]; omega,by dsimp only; rw [hsl]; omega,ef⟩ (by dsimp only; omega)
   ·rintro _ _ ⟨-,hn,-⟩
    exact absurd ⟨f1,f2⟩ hn
  | none =>
   have hn : ¬ (zW (ps.getD k default).slots 1 a b (bd.isEmpty && el.isEmpty) ∧ 0 ≤ h ∧ h + 1 ≤ 1024) := fun hh => by rw [(hes _).2 ⟨hh.1,hh.2.1,hh.2.2,rfl⟩] at hI; cases hI
   have ng := hng (.inl fun h' hh => by rw [hI] at hh; cases hh)
   unfold zW at hn
   rw [zAu,zY5] at hn
   repeat' (first | intro y0 H2 h0; obtain ⟨hb,rfl⟩ : MT _ _ H2 := h0; (try (exfalso; contradiction)); (try simp only [zY5] at hb) | intro z0 H2 h0; obtain ⟨hb,rfl,rfl⟩ : MF _ z0 _ H2 := h0; clear hb | intro y0 H2 h0; obtain ⟨hb,rfl⟩ : NT _ _ _ _ _ H2 := h0 | intro z0 H2 h0; obtain ⟨rfl,hb,rfl | rfl⟩ : NF _ _ _ _ z0 _ H2 := h0 | refine zY1 (by omega) ?_ | refine zD (zCl a (ps.getD k default) G.length _ (hS9 _ _)) ?_ | refine zF (zCY _ _) ?_ ?_ | refine zF (zCb h 0 1 hhh (by omega) _ _ (hS10 _ _)) ?_ ?_ | simp -implicitDefEqProofs (disch := omega) only [e0,e11,e12,e42,e43,e44,gr,hrow,zB,zK,zT,splice,zYV,zBE,hSr,hSx,hTx,L46,LCode.sub,zS,zAj,zAz,zAx,push_cast,↓reduceIte,Nat.reduceEqDiff,reduceCtorEq,Nat.reduceAdd,Nat.reduceLeDiff,Int.reduceEq,Int.reduceNeg,zYW] | split)
   all_goals first | exact fA _ _ | exact fB _ _ _ | exact ⟨ng,fA _ _⟩ | exact ⟨rfl,ng,fA _ _⟩ | exact ⟨ng,fB _ _ _⟩ | exact ⟨rfl,ng,fB _ _ _⟩ | (exfalso; refine hn ⟨⟨?_,?_,?_,?_,?_,?_,?_,?_⟩,?_,?_⟩ <;> first | omega | (intro h1; omega))
 ·repeat' (first | refine zY1 (by omega) ?_ | refine zI (zAG _) ?_ | simp -implicitDefEqProofs (disch := omega) only [e0,e42,e43,e44,gr,hrow,zB,zK,splice,zYV,zBE,hSr,L46,LCode.sub,zS,zAK,push_cast,↓reduceIte,Nat.reduceEqDiff,reduceCtorEq,Nat.reduceAdd,Nat.reduceLeDiff,Int.reduceNeg,zYW])
  exact ⟨hng (.inr (.inl (by simp only [zBa]; omega))),fA _ _⟩
set_option maxHeartbeats 8000000 in
theorem zXz (ps : List Pr) (k : Nat) (hk : k < ps.length) (hps : ps.length ≤ 1048576) (hp : zDc ps k) (hh : zDk (ps.getD k default)) (l : List Ins) (out : Bool) (level c : Int) (r : Nat) (G : zA) : zJ6 ps k l out level c r G 2 := by
 intro j h e' G' a b bd el hlt hx hs hbd hel hrl hc0 hl0 hl1 ⟨e0,e2,e3,e9,e10,e11,e12,e42,e43,e44,gr,g9,g10,fr,gl,hj,hhh,cc,lv,ef⟩
 have hrow : (l.map zAp).getD j [] = [int 2,int a,int b,.sl 5 (bd.map zAp),.sl 5 (el.map zAp)] := by
  rw [zN hlt,hx]; simp [zAp,zAc]
 have hrl' := zZl hrl fr.1
 have hb := zAs l (j + 1)
 have hb2 := zAB l (j + 1)
 have hsn := zAl hlt
 have hsl := zAC hlt
 rw [hx] at hsn hsl
 simp only [zBa,zCN] at hsn hsl
 have hbl := zM bd
 have hell := zM el
 have hbv := zX bd
 have helv := zX el
 obtain ⟨q1,q2,q3,q4,q5,q6,q7,q8⟩ := hh
 have ef0 := ef
 rw [zAM ps k hlt,hx] at ef
 have fA : ∀ B b,Fr1 r G (G'.set r B ++ [b]) := fun B b => (fr.trans (Fr1.set B)).trans (Fr1.app _)
 have fB : ∀ B b X,Fr1 r G ((G'.set r B).set (G.length + 1) X ++ [b]) := fun B b X => ((fr.trans (Fr1.set B)).set' (i := G.length + 1) (by omega) X).trans (Fr1.app _)
 have hng : ((∀ h',¬ zCA ps k (.mk 2 a b bd el) out h = some h') ∨ 32768 < c + zL (l.take j) + zBa (.mk 2 a b bd el) ∨ 257 < level + zCN (.mk 2 a b bd el)) → ¬ zDJ ps k l out level c := zBb hlt hx ef0
 have hSr : ∀ B b,(G'.set r B ++ [b])[r]? = some B := fun B b => by rw [zB (by simpa using hrl'),zH hrl']
 have hS9 : ∀ B b,(G'.set r B ++ [b])[G.length]? = some (.box (prR (ps.getD k default))) := fun B b => by rw [zB (by rw [zZc]; omega),zG (by omega)]; exact g9
 have hS10 : ∀ B b,(G'.set r B ++ [b])[G.length + 1]? = some (.box [int h]) := fun B b => by rw [zB (by rw [zZc]; omega),zG (by omega)]; exact g10
 have hSx : ∀ B b,(G'.set r B ++ [b])[G'.length]? = some b := fun B b => by rw [zYY (by simp)]; simp
 have hTx : ∀ B b X,((G'.set r B).set (G.length + 1) X ++ [b])[G'.length]? = some b := fun B b X => by rw [zYY (by simp)]; simp
 have hln := zM l
 have he : zFC ps k 2 a out h = chg h 1 (-1) := zA7.2.1 (by omega)
 have hes := fun h' => zBq (ps := ps) (k := k) (o := 2) (a := a) (b := b) (bd := bd) (el := el) (out := out) (h := h) (h' := h') (by omega) (by omega) he
 by_cases hcn : c + zL (l.take j) + 1 ≤ 32768
 ·cases hI : zCA ps k (.mk 2 a b bd el) out h with
  | some h' =>
   obtain ⟨hf,f1,f2,rfl⟩ := (hes h').1 hI
   rw [hI] at ef
   have hf' := hf
   unfold zW at hf
   rw [zAu,zY5] at hf
   have hem : bd.length = 0 ∧ el.length = 0 := by omega
   have hz : zL bd = 0 ∧ zL el = 0 ∧ zAE bd = 0 ∧ zAE el = 0 := by
    rw [zZh.1 hem.1,zZh.1 hem.2]; exact ⟨rfl,rfl,rfl,rfl⟩
   have hd1 : 0 ≤ a ∧ a < (ps.getD k default).slots → decide (0 ≤ a ∧ a < (ps.getD k default).slots) = true := fun hh => zZz hh
   have hd2 : 0 ≤ a + b - 1 ∧ a + b - 1 < (ps.getD k default).slots → decide (0 ≤ a + b - 1 ∧ a + b - 1 < (ps.getD k default).slots) = true := fun hh => zZz hh
   have hd := hd1 (by omega)
   repeat' (first | refine zY1 (by omega) ?_ | refine zD (zAo _) ?_ | refine zD (zCl a (ps.getD k default) G.length _ (hS9 _ _)) ?_ | simp -implicitDefEqProofs (disch := omega) only [e0,e11,e12,e42,e43,e44,gr,hrow,zB,zK,splice,zYV,zBE,hSr,hSx,L46,LCode.sub,hd,zS,zAj,push_cast,↓reduceIte,Nat.reduceEqDiff,reduceCtorEq,Nat.reduceAdd,Nat.reduceLeDiff,Int.reduceEq,Int.reduceNeg,zYW])
   refine zF (zGw h 1 (-1) hhh (by omega) _ _ (hS10 _ _)) ?_ ?_
   ·rintro _ _ ⟨-,rfl⟩
    repeat' (first | refine zD (zAo _) ?_ | simp -implicitDefEqProofs (disch := omega) only [e44,zT,zYV,hTx,zAz,push_cast,↓reduceIte,Nat.reduceEqDiff,Nat.reduceAdd,Nat.reduceLeDiff,Int.reduceNeg])
    exact .mk (j + 1,h + (-1)) ⟨e0,e2,e3,e9,e10,e11,e12,e42,e43,rfl,by rw [zB (by simp; omega),zG (by omega),zH hrl',hsn]; simp only [hz,zZJ,zZw]; push_cast; rw [zzag],by rw [zB (by simp; omega),zG (by omega),zG (by omega)]; exact g9,by rw [zB (by simp; omega),zH (by simp; omega)],fB _ _ _,by simp; omega,hlt,by dsimp only; omega,by dsimp only; rw [hsn]; omega,by dsimp only; rw [hsl]; omega,ef⟩ (by dsimp only; omega)
   ·rintro _ _ ⟨-,hn,-⟩
    exact absurd ⟨f1,f2⟩ hn
  | none =>
   have hn : ¬ (zW (ps.getD k default).slots 2 a b (bd.isEmpty && el.isEmpty) ∧ 1 ≤ h ∧ h + (-1) ≤ 1024) := fun hh => by rw [(hes _).2 ⟨hh.1,hh.2.1,hh.2.2,rfl⟩] at hI; cases hI
   have ng := hng (.inl fun h' hh => by rw [hI] at hh; cases hh)
   unfold zW at hn
   rw [zAu,zY5] at hn
   repeat' (first | intro y0 H2 h0; obtain ⟨hb,rfl⟩ : MT _ _ H2 := h0; (try (exfalso; contradiction)); (try simp only [zY5] at hb) | intro z0 H2 h0; obtain ⟨hb,rfl,rfl⟩ : MF _ z0 _ H2 := h0; clear hb | intro y0 H2 h0; obtain ⟨hb,rfl⟩ : NT _ _ _ _ _ H2 := h0 | intro z0 H2 h0; obtain ⟨rfl,hb,rfl | rfl⟩ : NF _ _ _ _ z0 _ H2 := h0 | refine zY1 (by omega) ?_ | refine zD (zCl a (ps.getD k default) G.length _ (hS9 _ _)) ?_ | refine zF (zCY _ _) ?_ ?_ | refine zF (zCb h 1 (-1) hhh (by omega) _ _ (hS10 _ _)) ?_ ?_ | simp -implicitDefEqProofs (disch := omega) only [e0,e11,e12,e42,e43,e44,gr,hrow,zB,zK,zT,splice,zYV,zBE,hSr,hSx,hTx,L46,LCode.sub,zS,zAj,zAz,zAx,push_cast,↓reduceIte,Nat.reduceEqDiff,reduceCtorEq,Nat.reduceAdd,Nat.reduceLeDiff,Int.reduceEq,Int.reduceNeg,zYW] | split)
   all_goals first | exact fA _ _ | exact fB _ _ _ | exact ⟨ng,fA _ _⟩ | exact ⟨rfl,ng,fA _ _⟩ | exact ⟨ng,fB _ _ _⟩ | exact ⟨rfl,ng,fB _ _ _⟩ | (exfalso; refine hn ⟨⟨?_,?_,?_,?_,?_,?_,?_,?_⟩,?_,?_⟩ <;> first | omega | (intro h1; omega))
 ·repeat' (first | refine zY1 (by omega) ?_ | refine zI (zAG _) ?_ | simp -implicitDefEqProofs (disch := omega) only [e0,e42,e43,e44,gr,hrow,zB,zK,splice,zYV,zBE,hSr,L46,LCode.sub,zS,zAK,push_cast,↓reduceIte,Nat.reduceEqDiff,reduceCtorEq,Nat.reduceAdd,Nat.reduceLeDiff,Int.reduceNeg,zYW])
  exact ⟨hng (.inr (.inl (by simp only [zBa]; omega))),fA _ _⟩
set_option maxHeartbeats 8000000 in
theorem zUo (ps : List Pr) (k : Nat) (hk : k < ps.length) (hps : ps.length ≤ 1048576) (hp : zDc ps k) (hh : zDk (ps.getD k default)) (l : List Ins) (out : Bool) (level c : Int) (r : Nat) (G : zA) : zJ6 ps k l out level c r G 22 := by
 intro j h e' G' a b bd el hlt hx hs hbd hel hrl hc0 hl0 hl1 ⟨e0,e2,e3,e9,e10,e11,e12,e42,e43,e44,gr,g9,g10,fr,gl,hj,hhh,cc,lv,ef⟩
 have hrow : (l.map zAp).getD j [] = [int 22,int a,int b,.sl 5 (bd.map zAp),.sl 5 (el.map zAp)] := by
  rw [zN hlt,hx]; simp [zAp,zAc]
 have hrl' := zZl hrl fr.1
 have hb := zAs l (j + 1)
 have hb2 := zAB l (j + 1)
 have hsn := zAl hlt
 have hsl := zAC hlt
 rw [hx] at hsn hsl
 simp only [zBa,zCN] at hsn hsl
 have hbl := zM bd
 have hell := zM el
 have hbv := zX bd
 have helv := zX el
 obtain ⟨q1,q2,q3,q4,q5,q6,q7,q8⟩ := hh
 have ef0 := ef
 rw [zAM ps k hlt,hx] at ef
 have fA : ∀ B b,Fr1 r G (G'.set r B ++ [b]) := fun B b => (fr.trans (Fr1.set B)).trans (Fr1.app _)
 have fB : ∀ B b X,Fr1 r G ((G'.set r B).set (G.length + 1) X ++ [b]) := fun B b X => ((fr.trans (Fr1.set B)).set' (i := G.length + 1) (by omega) X).trans (Fr1.app _)
 have hng : ((∀ h',¬ zCA ps k (.mk 22 a b bd el) out h = some h') ∨ 32768 < c + zL (l.take j) + zBa (.mk 22 a b bd el) ∨ 257 < level + zCN (.mk 22 a b bd el)) → ¬ zDJ ps k l out level c := zBb hlt hx ef0
 have hSr : ∀ B b,(G'.set r B ++ [b])[r]? = some B := fun B b => by rw [zB (by simpa using hrl'),zH hrl']
 have hS9 : ∀ B b,(G'.set r B ++ [b])[G.length]? = some (.box (prR (ps.getD k default))) := fun B b => by rw [zB (by rw [zZc]; omega),zG (by omega)]; exact g9
 have hS10 : ∀ B b,(G'.set r B ++ [b])[G.length + 1]? = some (.box [int h]) := fun B b => by rw [zB (by rw [zZc]; omega),zG (by omega)]; exact g10
 have hSx : ∀ B b,(G'.set r B ++ [b])[G'.length]? = some b := fun B b => by rw [zYY (by simp)]; simp
 have hTx : ∀ B b X,((G'.set r B).set (G.length + 1) X ++ [b])[G'.length]? = some b := fun B b X => by rw [zYY (by simp)]; simp
 have hln := zM l
 have he : zFC ps k 22 a out h = chg h 1 (-1) := zA7.2.1 (by omega)
 have hes := fun h' => zBq (ps := ps) (k := k) (o := 22) (a := a) (b := b) (bd := bd) (el := el) (out := out) (h := h) (h' := h') (by omega) (by omega) he
 by_cases hcn : c + zL (l.take j) + 1 ≤ 32768
 ·cases hI : zCA ps k (.mk 22 a b bd el) out h with
  | some h' =>
   obtain ⟨hf,f1,f2,rfl⟩ := (hes h').1 hI
   rw [hI] at ef
   have hf' := hf
   unfold zW at hf
   rw [zAu,zY5] at hf
   have hem : bd.length = 0 ∧ el.length = 0 := by omega
   have hz : zL bd = 0 ∧ zL el = 0 ∧ zAE bd = 0 ∧ zAE el = 0 := by
    rw [zZh.1 hem.1,zZh.1 hem.2]; exact ⟨rfl,rfl,rfl,rfl⟩
   have hd1 : 0 ≤ a ∧ a < (ps.getD k default).slots → decide (0 ≤ a ∧ a < (ps.getD k default).slots) = true := fun hh => zZz hh
   have hd2 : 0 ≤ a + b - 1 ∧ a + b - 1 < (ps.getD k default).slots → decide (0 ≤ a + b - 1 ∧ a + b - 1 < (ps.getD k default).slots) = true := fun hh => zZz hh
   repeat' (first | refine zY1 (by omega) ?_ | refine zD (zAo _) ?_ | simp -implicitDefEqProofs (disch := omega) only [e0,e11,e42,e43,e44,gr,hrow,zB,zK,splice,zYV,zBE,hSr,hSx,L46,LCode.sub,zS,zAj,push_cast,↓reduceIte,Nat.reduceEqDiff,reduceCtorEq,Nat.reduceAdd,Nat.reduceLeDiff,Int.reduceEq,Int.reduceNeg,zYW])
   refine zF (zGw h 1 (-1) hhh (by omega) _ _ (hS10 _ _)) ?_ ?_
   ·rintro _ _ ⟨-,rfl⟩
    repeat' (first | refine zD (zAo _) ?_ | simp -implicitDefEqProofs (disch := omega) only [e44,zT,zYV,hTx,zAz,push_cast,↓reduceIte,Nat.reduceEqDiff,Nat.reduceAdd,Nat.reduceLeDiff,Int.reduceNeg])
    exact .mk (j + 1,h + (-1)) ⟨e0,e2,e3,e9,e10,e11,e12,e42,e43,rfl,by rw [zB (by simp; omega),zG (by omega),zH hrl',hsn]; simp only [hz,zZJ,zZw]; push_cast; rw [zzag],by rw [zB (by simp; omega),zG (by omega),zG (by omega)]; exact g9,by rw [zB (by simp; omega),zH (by simp; omega)],fB _ _ _,by simp; omega,hlt,by dsimp only; omega,by dsimp only; rw [hsn]; omega,by dsimp only; rw [hsl]; omega,ef⟩ (by dsimp only; omega)
   ·rintro _ _ ⟨-,hn,-⟩
    exact absurd ⟨f1,f2⟩ hn
  | none =>
   have hn : ¬ (zW (ps.getD k default).slots 22 a b (bd.isEmpty && el.isEmpty) ∧ 1 ≤ h ∧ h + (-1) ≤ 1024) := fun hh => by rw [(hes _).2 ⟨hh.1,hh.2.1,hh.2.2,rfl⟩] at hI; cases hI
   have ng := hng (.inl fun h' hh => by rw [hI] at hh; cases hh)
   unfold zW at hn
   rw [zAu,zY5] at hn
   repeat' (first | intro y0 H2 h0; obtain ⟨hb,rfl⟩ : MT _ _ H2 := h0; (try (exfalso; contradiction)); (try simp only [] at hb) | intro z0 H2 h0; obtain ⟨hb,rfl,rfl⟩ : MF _ z0 _ H2 := h0; clear hb | intro y0 H2 h0; obtain ⟨hb,rfl⟩ : NT _ _ _ _ _ H2 := h0 | intro z0 H2 h0; obtain ⟨rfl,hb,rfl | rfl⟩ : NF _ _ _ _ z0 _ H2 := h0 | refine zY1 (by omega) ?_ | refine zF (zCY _ _) ?_ ?_ | refine zF (zCb h 1 (-1) hhh (by omega) _ _ (hS10 _ _)) ?_ ?_ | simp -implicitDefEqProofs (disch := omega) only [e0,e11,e42,e43,e44,gr,hrow,zB,zK,zT,splice,zYV,zBE,hSr,hSx,hTx,L46,LCode.sub,zS,zAj,zAz,zAx,push_cast,↓reduceIte,Nat.reduceEqDiff,reduceCtorEq,Nat.reduceAdd,Nat.reduceLeDiff,Int.reduceEq,Int.reduceNeg,zYW] | split)
   all_goals first | exact fA _ _ | exact fB _ _ _ | exact ⟨ng,fA _ _⟩ | exact ⟨rfl,ng,fA _ _⟩ | exact ⟨ng,fB _ _ _⟩ | exact ⟨rfl,ng,fB _ _ _⟩ | (exfalso; refine hn ⟨⟨?_,?_,?_,?_,?_,?_,?_,?_⟩,?_,?_⟩ <;> first | omega | (intro h1; omega))
 ·repeat' (first | refine zY1 (by omega) ?_ | refine zI (zAG _) ?_ | simp -implicitDefEqProofs (disch := omega) only [e0,e42,e43,e44,gr,hrow,zB,zK,splice,zYV,zBE,hSr,L46,LCode.sub,zS,zAK,push_cast,↓reduceIte,Nat.reduceEqDiff,reduceCtorEq,Nat.reduceAdd,Nat.reduceLeDiff,Int.reduceNeg,zYW])
  exact ⟨hng (.inr (.inl (by simp only [zBa]; omega))),fA _ _⟩
set_option maxHeartbeats 8000000 in
theorem zXy (ps : List Pr) (k : Nat) (hk : k < ps.length) (hps : ps.length ≤ 1048576) (hp : zDc ps k) (hh : zDk (ps.getD k default)) (l : List Ins) (out : Bool) (level c : Int) (r : Nat) (G : zA) : zJ6 ps k l out level c r G 3 := by
 intro j h e' G' a b bd el hlt hx hs hbd hel hrl hc0 hl0 hl1 ⟨e0,e2,e3,e9,e10,e11,e12,e42,e43,e44,gr,g9,g10,fr,gl,hj,hhh,cc,lv,ef⟩
 have hrow : (l.map zAp).getD j [] = [int 3,int a,int b,.sl 5 (bd.map zAp),.sl 5 (el.map zAp)] := by
  rw [zN hlt,hx]; simp [zAp,zAc]
 have hrl' := zZl hrl fr.1
 have hb := zAs l (j + 1)
 have hb2 := zAB l (j + 1)
 have hsn := zAl hlt
 have hsl := zAC hlt
 rw [hx] at hsn hsl
 simp only [zBa,zCN] at hsn hsl
 have hbl := zM bd
 have hell := zM el
 have hbv := zX bd
 have helv := zX el
 obtain ⟨q1,q2,q3,q4,q5,q6,q7,q8⟩ := hh
 have ef0 := ef
 rw [zAM ps k hlt,hx] at ef
 have fA : ∀ B b,Fr1 r G (G'.set r B ++ [b]) := fun B b => (fr.trans (Fr1.set B)).trans (Fr1.app _)
 have fB : ∀ B b X,Fr1 r G ((G'.set r B).set (G.length + 1) X ++ [b]) := fun B b X => ((fr.trans (Fr1.set B)).set' (i := G.length + 1) (by omega) X).trans (Fr1.app _)
 have hng : ((∀ h',¬ zCA ps k (.mk 3 a b bd el) out h = some h') ∨ 32768 < c + zL (l.take j) + zBa (.mk 3 a b bd el) ∨ 257 < level + zCN (.mk 3 a b bd el)) → ¬ zDJ ps k l out level c := zBb hlt hx ef0
 have hSr : ∀ B b,(G'.set r B ++ [b])[r]? = some B := fun B b => by rw [zB (by simpa using hrl'),zH hrl']
 have hS9 : ∀ B b,(G'.set r B ++ [b])[G.length]? = some (.box (prR (ps.getD k default))) := fun B b => by rw [zB (by rw [zZc]; omega),zG (by omega)]; exact g9
 have hS10 : ∀ B b,(G'.set r B ++ [b])[G.length + 1]? = some (.box [int h]) := fun B b => by rw [zB (by rw [zZc]; omega),zG (by omega)]; exact g10
 have hSx : ∀ B b,(G'.set r B ++ [b])[G'.length]? = some b := fun B b => by rw [zYY (by simp)]; simp
 have hTx : ∀ B b X,((G'.set r B).set (G.length + 1) X ++ [b])[G'.length]? = some b := fun B b X => by rw [zYY (by simp)]; simp
 have hln := zM l
 have he : zFC ps k 3 a out h = chg h 1 0 := zA7.2.2.1 (by omega)
 have hes := fun h' => zBq (ps := ps) (k := k) (o := 3) (a := a) (b := b) (bd := bd) (el := el) (out := out) (h := h) (h' := h') (by omega) (by omega) he
 by_cases hcn : c + zL (l.take j) + 1 ≤ 32768
 ·cases hI : zCA ps k (.mk 3 a b bd el) out h with
  | some h' =>
   obtain ⟨hf,f1,f2,rfl⟩ := (hes h').1 hI
   rw [hI] at ef
   have hf' := hf
   unfold zW at hf
   rw [zAu,zY5] at hf
   have hem : bd.length = 0 ∧ el.length = 0 := by omega
   have hz : zL bd = 0 ∧ zL el = 0 ∧ zAE bd = 0 ∧ zAE el = 0 := by
    rw [zZh.1 hem.1,zZh.1 hem.2]; exact ⟨rfl,rfl,rfl,rfl⟩
   have hd1 : 0 ≤ a ∧ a < (ps.getD k default).slots → decide (0 ≤ a ∧ a < (ps.getD k default).slots) = true := fun hh => zZz hh
   have hd2 : 0 ≤ a + b - 1 ∧ a + b - 1 < (ps.getD k default).slots → decide (0 ≤ a + b - 1 ∧ a + b - 1 < (ps.getD k default).slots) = true := fun hh => zZz hh
   have hd := hd1 (by omega)
   have hd' := hd2 (by omega)
   repeat' (first | refine zY1 (by omega) ?_ | refine zD (zAo _) ?_ | refine zD (zCl a (ps.getD k default) G.length _ (hS9 _ _)) ?_ | refine zD (zCl (a + b - 1) (ps.getD k default) G.length _ (hS9 _ _)) ?_ | simp -implicitDefEqProofs (disch := omega) only [e0,e9,e11,e12,e42,e43,e44,gr,hrow,zB,zK,splice,zDV,zBx,zYV,zBE,hSr,hS9,hSx,L46,LCode.sub,hd,hd',zS,zAj,push_cast,↓reduceIte,Nat.reduceEqDiff,reduceCtorEq,Nat.reduceAdd,Nat.reduceLeDiff,Int.reduceEq,Int.reduceNeg,zYW])
   refine zF (zGw h 1 0 hhh (by omega) _ _ (hS10 _ _)) ?_ ?_
   ·rintro _ _ ⟨-,rfl⟩
    repeat' (first | refine zD (zAo _) ?_ | simp -implicitDefEqProofs (disch := omega) only [e44,zT,zYV,hTx,zAz,push_cast,↓reduceIte,Nat.reduceEqDiff,Nat.reduceAdd,Nat.reduceLeDiff])
    exact .mk (j + 1,h + 0) ⟨e0,e2,e3,e9,e10,e11,e12,e42,e43,rfl,by rw [zB (by simp; omega),zG (by omega),zH hrl',hsn]; simp only [hz,zZJ,zZw]; push_cast; rw [zzag],by rw [zB (by simp; omega),zG (by omega),zG (by omega)]; exact g9,by rw [zB (by simp; omega),zH (by simp; omega)],fB _ _ _,by simp; omega,hlt,by dsimp only; omega,by dsimp only; rw [hsn]; omega,by dsimp only; rw [hsl]; omega,ef⟩ (by dsimp only; omega)
   ·rintro _ _ ⟨-,hn,-⟩
    exact absurd ⟨f1,f2⟩ hn
  | none =>
   have hn : ¬ (zW (ps.getD k default).slots 3 a b (bd.isEmpty && el.isEmpty) ∧ 1 ≤ h ∧ h + 0 ≤ 1024) := fun hh => by rw [(hes _).2 ⟨hh.1,hh.2.1,hh.2.2,rfl⟩] at hI; cases hI
   have ng := hng (.inl fun h' hh => by rw [hI] at hh; cases hh)
   unfold zW at hn
   rw [zAu,zY5] at hn
   repeat' (first | intro y0 H2 h0; obtain ⟨hb,rfl⟩ : MT _ _ H2 := h0; (try (exfalso; contradiction)); (try simp only [zY5] at hb) | intro z0 H2 h0; obtain ⟨hb,rfl,rfl⟩ : MF _ z0 _ H2 := h0; clear hb | intro y0 H2 h0; obtain ⟨hb,rfl⟩ : NT _ _ _ _ _ H2 := h0 | intro z0 H2 h0; obtain ⟨rfl,hb,rfl | rfl⟩ : NF _ _ _ _ z0 _ H2 := h0 | refine zY1 (by omega) ?_ | refine zD (zCl a (ps.getD k default) G.length _ (hS9 _ _)) ?_ | refine zD (zCl (a + b - 1) (ps.getD k default) G.length _ (hS9 _ _)) ?_ | refine zF (zCY _ _) ?_ ?_ | refine zF (zCb h 1 0 hhh (by omega) _ _ (hS10 _ _)) ?_ ?_ | simp -implicitDefEqProofs (disch := omega) only [e0,e9,e11,e12,e42,e43,e44,gr,hrow,zB,zK,zT,splice,zDV,zBx,zYV,zBE,hSr,hS9,hSx,hTx,L46,LCode.sub,zS,zAj,zAK,zAz,zAx,push_cast,↓reduceIte,Nat.reduceEqDiff,reduceCtorEq,Nat.reduceAdd,Nat.reduceLeDiff,Int.reduceEq,Int.reduceNeg,zYW] | split)
   all_goals first | exact fA _ _ | exact fB _ _ _ | exact ⟨ng,fA _ _⟩ | exact ⟨rfl,ng,fA _ _⟩ | exact ⟨ng,fB _ _ _⟩ | exact ⟨rfl,ng,fB _ _ _⟩ | (exfalso; refine hn ⟨⟨?_,?_,?_,?_,?_,?_,?_,?_⟩,?_,?_⟩ <;> first | omega | (intro h1; omega))
 ·repeat' (first | refine zY1 (by omega) ?_ | refine zI (zAG _) ?_ | simp -implicitDefEqProofs (disch := omega) only [e0,e42,e43,e44,gr,hrow,zB,zK,splice,zYV,zBE,hSr,L46,LCode.sub,zS,zAK,push_cast,↓reduceIte,Nat.reduceEqDiff,reduceCtorEq,Nat.reduceAdd,Nat.reduceLeDiff,Int.reduceNeg,zYW])
  exact ⟨hng (.inr (.inl (by simp only [zBa]; omega))),fA _ _⟩
set_option maxHeartbeats 8000000 in
theorem zXx (ps : List Pr) (k : Nat) (hk : k < ps.length) (hps : ps.length ≤ 1048576) (hp : zDc ps k) (hh : zDk (ps.getD k default)) (l : List Ins) (out : Bool) (level c : Int) (r : Nat) (G : zA) : zJ6 ps k l out level c r G 4 := by
 intro j h e' G' a b bd el hlt hx hs hbd hel hrl hc0 hl0 hl1 ⟨e0,e2,e3,e9,e10,e11,e12,e42,e43,e44,gr,g9,g10,fr,gl,hj,hhh,cc,lv,ef⟩
 have hrow : (l.map zAp).getD j [] = [int 4,int a,int b,.sl 5 (bd.map zAp),.sl 5 (el.map zAp)] := by
  rw [zN hlt,hx]; simp [zAp,zAc]
 have hrl' := zZl hrl fr.1
 have hb := zAs l (j + 1)
 have hb2 := zAB l (j + 1)
 have hsn := zAl hlt
 have hsl := zAC hlt
 rw [hx] at hsn hsl
 simp only [zBa,zCN] at hsn hsl
 have hbl := zM bd
 have hell := zM el
 have hbv := zX bd
 have helv := zX el
 obtain ⟨q1,q2,q3,q4,q5,q6,q7,q8⟩ := hh
 have ef0 := ef
 rw [zAM ps k hlt,hx] at ef
 have fA : ∀ B b,Fr1 r G (G'.set r B ++ [b]) := fun B b => (fr.trans (Fr1.set B)).trans (Fr1.app _)
 have fB : ∀ B b X,Fr1 r G ((G'.set r B).set (G.length + 1) X ++ [b]) := fun B b X => ((fr.trans (Fr1.set B)).set' (i := G.length + 1) (by omega) X).trans (Fr1.app _)
 have hng : ((∀ h',¬ zCA ps k (.mk 4 a b bd el) out h = some h') ∨ 32768 < c + zL (l.take j) + zBa (.mk 4 a b bd el) ∨ 257 < level + zCN (.mk 4 a b bd el)) → ¬ zDJ ps k l out level c := zBb hlt hx ef0
 have hSr : ∀ B b,(G'.set r B ++ [b])[r]? = some B := fun B b => by rw [zB (by simpa using hrl'),zH hrl']
 have hS9 : ∀ B b,(G'.set r B ++ [b])[G.length]? = some (.box (prR (ps.getD k default))) := fun B b => by rw [zB (by rw [zZc]; omega),zG (by omega)]; exact g9
 have hS10 : ∀ B b,(G'.set r B ++ [b])[G.length + 1]? = some (.box [int h]) := fun B b => by rw [zB (by rw [zZc]; omega),zG (by omega)]; exact g10
 have hSx : ∀ B b,(G'.set r B ++ [b])[G'.length]? = some b := fun B b => by rw [zYY (by simp)]; simp
 have hTx : ∀ B b X,((G'.set r B).set (G.length + 1) X ++ [b])[G'.length]? = some b := fun B b X => by rw [zYY (by simp)]; simp
 have hln := zM l
 have he : zFC ps k 4 a out h = chg h 2 (-2) := zA7.2.2.2.1 (by omega)
 have hes := fun h' => zBq (ps := ps) (k := k) (o := 4) (a := a) (b := b) (bd := bd) (el := el) (out := out) (h := h) (h' := h') (by omega) (by omega) he
 by_cases hcn : c + zL (l.take j) + 1 ≤ 32768
 ·cases hI : zCA ps k (.mk 4 a b bd el) out h with
  | some h' =>
   obtain ⟨hf,f1,f2,rfl⟩ := (hes h').1 hI
   rw [hI] at ef
   have hf' := hf
   unfold zW at hf
   rw [zAu,zY5] at hf
   have hem : bd.length = 0 ∧ el.length = 0 := by omega
   have hz : zL bd = 0 ∧ zL el = 0 ∧ zAE bd = 0 ∧ zAE el = 0 := by
    rw [zZh.1 hem.1,zZh.1 hem.2]; exact ⟨rfl,rfl,rfl,rfl⟩
   have hd1 : 0 ≤ a ∧ a < (ps.getD k default).slots → decide (0 ≤ a ∧ a < (ps.getD k default).slots) = true := fun hh => zZz hh
   have hd2 : 0 ≤ a + b - 1 ∧ a + b - 1 < (ps.getD k default).slots → decide (0 ≤ a + b - 1 ∧ a + b - 1 < (ps.getD k default).slots) = true := fun hh => zZz hh
   have hd := hd1 (by omega)
   have hd' := hd2 (by omega)
   repeat' (first | refine zY1 (by omega) ?_ | refine zD (zAo _) ?_ | refine zD (zCl a (ps.getD k default) G.length _ (hS9 _ _)) ?_ | refine zD (zCl (a + b - 1) (ps.getD k default) G.length _ (hS9 _ _)) ?_ | simp -implicitDefEqProofs (disch := omega) only [e0,e9,e11,e12,e42,e43,e44,gr,hrow,zB,zK,splice,zDV,zBx,zYV,zBE,hSr,hS9,hSx,L46,LCode.sub,hd,hd',zS,zAj,push_cast,↓reduceIte,Nat.reduceEqDiff,reduceCtorEq,Nat.reduceAdd,Nat.reduceLeDiff,Int.reduceEq,Int.reduceNeg,zYW])
   refine zF (zGw h 2 (-2) hhh (by omega) _ _ (hS10 _ _)) ?_ ?_
   ·rintro _ _ ⟨-,rfl⟩
    repeat' (first | refine zD (zAo _) ?_ | simp -implicitDefEqProofs (disch := omega) only [e44,zT,zYV,hTx,zAz,push_cast,↓reduceIte,Nat.reduceEqDiff,Nat.reduceAdd,Nat.reduceLeDiff,Int.reduceNeg])
    exact .mk (j + 1,h + (-2)) ⟨e0,e2,e3,e9,e10,e11,e12,e42,e43,rfl,by rw [zB (by simp; omega),zG (by omega),zH hrl',hsn]; simp only [hz,zZJ,zZw]; push_cast; rw [zzag],by rw [zB (by simp; omega),zG (by omega),zG (by omega)]; exact g9,by rw [zB (by simp; omega),zH (by simp; omega)],fB _ _ _,by simp; omega,hlt,by dsimp only; omega,by dsimp only; rw [hsn]; omega,by dsimp only; rw [hsl]; omega,ef⟩ (by dsimp only; omega)
   ·rintro _ _ ⟨-,hn,-⟩
    exact absurd ⟨f1,f2⟩ hn
  | none =>
   have hn : ¬ (zW (ps.getD k default).slots 4 a b (bd.isEmpty && el.isEmpty) ∧ 2 ≤ h ∧ h + (-2) ≤ 1024) := fun hh => by rw [(hes _).2 ⟨hh.1,hh.2.1,hh.2.2,rfl⟩] at hI; cases hI
   have ng := hng (.inl fun h' hh => by rw [hI] at hh; cases hh)
   unfold zW at hn
   rw [zAu,zY5] at hn
   repeat' (first | intro y0 H2 h0; obtain ⟨hb,rfl⟩ : MT _ _ H2 := h0; (try (exfalso; contradiction)); (try simp only [zY5] at hb) | intro z0 H2 h0; obtain ⟨hb,rfl,rfl⟩ : MF _ z0 _ H2 := h0; clear hb | intro y0 H2 h0; obtain ⟨hb,rfl⟩ : NT _ _ _ _ _ H2 := h0 | intro z0 H2 h0; obtain ⟨rfl,hb,rfl | rfl⟩ : NF _ _ _ _ z0 _ H2 := h0 | refine zY1 (by omega) ?_ | refine zD (zCl a (ps.getD k default) G.length _ (hS9 _ _)) ?_ | refine zD (zCl (a + b - 1) (ps.getD k default) G.length _ (hS9 _ _)) ?_ | refine zF (zCY _ _) ?_ ?_ | refine zF (zCb h 2 (-2) hhh (by omega) _ _ (hS10 _ _)) ?_ ?_ | simp -implicitDefEqProofs (disch := omega) only [e0,e9,e11,e12,e42,e43,e44,gr,hrow,zB,zK,zT,splice,zDV,zBx,zYV,zBE,hSr,hS9,hSx,hTx,L46,LCode.sub,zS,zAj,zAK,zAz,zAx,push_cast,↓reduceIte,Nat.reduceEqDiff,reduceCtorEq,Nat.reduceAdd,Nat.reduceLeDiff,Int.reduceEq,Int.reduceNeg,zYW] | split)
   all_goals first | exact fA _ _ | exact fB _ _ _ | exact ⟨ng,fA _ _⟩ | exact ⟨rfl,ng,fA _ _⟩ | exact ⟨ng,fB _ _ _⟩ | exact ⟨rfl,ng,fB _ _ _⟩ | (exfalso; refine hn ⟨⟨?_,?_,?_,?_,?_,?_,?_,?_⟩,?_,?_⟩ <;> first | omega | (intro h1; omega))
 ·repeat' (first | refine zY1 (by omega) ?_ | refine zI (zAG _) ?_ | simp -implicitDefEqProofs (disch := omega) only [e0,e42,e43,e44,gr,hrow,zB,zK,splice,zYV,zBE,hSr,L46,LCode.sub,zS,zAK,push_cast,↓reduceIte,Nat.reduceEqDiff,reduceCtorEq,Nat.reduceAdd,Nat.reduceLeDiff,Int.reduceNeg,zYW])
  exact ⟨hng (.inr (.inl (by simp only [zBa]; omega))),fA _ _⟩
set_option maxHeartbeats 8000000 in
theorem zUu (ps : List Pr) (k : Nat) (hk : k < ps.length) (hps : ps.length ≤ 1048576) (hp : zDc ps k) (hh : zDk (ps.getD k default)) (l : List Ins) (out : Bool) (level c : Int) (r : Nat) (G : zA) : zJ6 ps k l out level c r G 16 := by
 intro j h e' G' a b bd el hlt hx hs hbd hel hrl hc0 hl0 hl1 ⟨e0,e2,e3,e9,e10,e11,e12,e42,e43,e44,gr,g9,g10,fr,gl,hj,hhh,cc,lv,ef⟩
 have hrow : (l.map zAp).getD j [] = [int 16,int a,int b,.sl 5 (bd.map zAp),.sl 5 (el.map zAp)] := by
  rw [zN hlt,hx]; simp [zAp,zAc]
 have hrl' := zZl hrl fr.1
 have hb := zAs l (j + 1)
 have hb2 := zAB l (j + 1)
 have hsn := zAl hlt
 have hsl := zAC hlt
 rw [hx] at hsn hsl
 simp only [zBa,zCN] at hsn hsl
 have hbl := zM bd
 have hell := zM el
 have hbv := zX bd
 have helv := zX el
 obtain ⟨q1,q2,q3,q4,q5,q6,q7,q8⟩ := hh
 have ef0 := ef
 rw [zAM ps k hlt,hx] at ef
 have fA : ∀ B b,Fr1 r G (G'.set r B ++ [b]) := fun B b => (fr.trans (Fr1.set B)).trans (Fr1.app _)
 have fB : ∀ B b X,Fr1 r G ((G'.set r B).set (G.length + 1) X ++ [b]) := fun B b X => ((fr.trans (Fr1.set B)).set' (i := G.length + 1) (by omega) X).trans (Fr1.app _)
 have hng : ((∀ h',¬ zCA ps k (.mk 16 a b bd el) out h = some h') ∨ 32768 < c + zL (l.take j) + zBa (.mk 16 a b bd el) ∨ 257 < level + zCN (.mk 16 a b bd el)) → ¬ zDJ ps k l out level c := zBb hlt hx ef0
 have hSr : ∀ B b,(G'.set r B ++ [b])[r]? = some B := fun B b => by rw [zB (by simpa using hrl'),zH hrl']
 have hS9 : ∀ B b,(G'.set r B ++ [b])[G.length]? = some (.box (prR (ps.getD k default))) := fun B b => by rw [zB (by rw [zZc]; omega),zG (by omega)]; exact g9
 have hS10 : ∀ B b,(G'.set r B ++ [b])[G.length + 1]? = some (.box [int h]) := fun B b => by rw [zB (by rw [zZc]; omega),zG (by omega)]; exact g10
 have hSx : ∀ B b,(G'.set r B ++ [b])[G'.length]? = some b := fun B b => by rw [zYY (by simp)]; simp
 have hTx : ∀ B b X,((G'.set r B).set (G.length + 1) X ++ [b])[G'.length]? = some b := fun B b X => by rw [zYY (by simp)]; simp
 have hln := zM l
 have he : zFC ps k 16 a out h = chg h 1 0 := zA7.2.2.1 (by omega)
 have hes := fun h' => zBq (ps := ps) (k := k) (o := 16) (a := a) (b := b) (bd := bd) (el := el) (out := out) (h := h) (h' := h') (by omega) (by omega) he
 by_cases hcn : c + zL (l.take j) + 1 ≤ 32768
 ·cases hI : zCA ps k (.mk 16 a b bd el) out h with
  | some h' =>
   obtain ⟨hf,f1,f2,rfl⟩ := (hes h').1 hI
   rw [hI] at ef
   have hf' := hf
   unfold zW at hf
   rw [zAu,zY5] at hf
   have hem : bd.length = 0 ∧ el.length = 0 := by omega
   have hz : zL bd = 0 ∧ zL el = 0 ∧ zAE bd = 0 ∧ zAE el = 0 := by
    rw [zZh.1 hem.1,zZh.1 hem.2]; exact ⟨rfl,rfl,rfl,rfl⟩
   have hd1 : 0 ≤ a ∧ a < (ps.getD k default).slots → decide (0 ≤ a ∧ a < (ps.getD k default).slots) = true := fun hh => zZz hh
   have hd2 : 0 ≤ a + b - 1 ∧ a + b - 1 < (ps.getD k default).slots → decide (0 ≤ a + b - 1 ∧ a + b - 1 < (ps.getD k default).slots) = true := fun hh => zZz hh
   repeat' (first | refine zY1 (by omega) ?_ | refine zD (zAo _) ?_ | simp -implicitDefEqProofs (disch := omega) only [e0,e11,e42,e43,e44,gr,hrow,zB,zK,splice,zYV,zBE,hSr,hSx,L46,LCode.sub,zS,zAj,push_cast,↓reduceIte,Nat.reduceEqDiff,reduceCtorEq,Nat.reduceAdd,Nat.reduceLeDiff,Int.reduceEq,Int.reduceNeg,zYW])
   refine zF (zGw h 1 0 hhh (by omega) _ _ (hS10 _ _)) ?_ ?_
   ·rintro _ _ ⟨-,rfl⟩
    repeat' (first | refine zD (zAo _) ?_ | simp -implicitDefEqProofs (disch := omega) only [e44,zT,zYV,hTx,zAz,push_cast,↓reduceIte,Nat.reduceEqDiff,Nat.reduceAdd,Nat.reduceLeDiff])
    exact .mk (j + 1,h + 0) ⟨e0,e2,e3,e9,e10,e11,e12,e42,e43,rfl,by rw [zB (by simp; omega),zG (by omega),zH hrl',hsn]; simp only [hz,zZJ,zZw]; push_cast; rw [zzag],by rw [zB (by simp; omega),zG (by omega),zG (by omega)]; exact g9,by rw [zB (by simp; omega),zH (by simp; omega)],fB _ _ _,by simp; omega,hlt,by dsimp only; omega,by dsimp only; rw [hsn]; omega,by dsimp only; rw [hsl]; omega,ef⟩ (by dsimp only; omega)
   ·rintro _ _ ⟨-,hn,-⟩
    exact absurd ⟨f1,f2⟩ hn
  | none =>
   have hn : ¬ (zW (ps.getD k default).slots 16 a b (bd.isEmpty && el.isEmpty) ∧ 1 ≤ h ∧ h + 0 ≤ 1024) := fun hh => by rw [(hes _).2 ⟨hh.1,hh.2.1,hh.2.2,rfl⟩] at hI; cases hI
   have ng := hng (.inl fun h' hh => by rw [hI] at hh; cases hh)
   unfold zW at hn
   rw [zAu,zY5] at hn
   repeat' (first | intro y0 H2 h0; obtain ⟨hb,rfl⟩ : MT _ _ H2 := h0; (try (exfalso; contradiction)); (try simp only [] at hb) | intro z0 H2 h0; obtain ⟨hb,rfl,rfl⟩ : MF _ z0 _ H2 := h0; clear hb | intro y0 H2 h0; obtain ⟨hb,rfl⟩ : NT _ _ _ _ _ H2 := h0 | intro z0 H2 h0; obtain ⟨rfl,hb,rfl | rfl⟩ : NF _ _ _ _ z0 _ H2 := h0 | refine zY1 (by omega) ?_ | refine zF (zCY _ _) ?_ ?_ | refine zF (zCb h 1 0 hhh (by omega) _ _ (hS10 _ _)) ?_ ?_ | simp -implicitDefEqProofs (disch := omega) only [e0,e11,e42,e43,e44,gr,hrow,zB,zK,zT,splice,zYV,zBE,hSr,hSx,hTx,L46,LCode.sub,zS,zAj,zAz,zAx,push_cast,↓reduceIte,Nat.reduceEqDiff,reduceCtorEq,Nat.reduceAdd,Nat.reduceLeDiff,Int.reduceEq,Int.reduceNeg,zYW] | split)
   all_goals first | exact fA _ _ | exact fB _ _ _ | exact ⟨ng,fA _ _⟩ | exact ⟨rfl,ng,fA _ _⟩ | exact ⟨ng,fB _ _ _⟩ | exact ⟨rfl,ng,fB _ _ _⟩ | (exfalso; refine hn ⟨⟨?_,?_,?_,?_,?_,?_,?_,?_⟩,?_,?_⟩ <;> first | omega | (intro h1; omega))
 ·repeat' (first | refine zY1 (by omega) ?_ | refine zI (zAG _) ?_ | simp -implicitDefEqProofs (disch := omega) only [e0,e42,e43,e44,gr,hrow,zB,zK,splice,zYV,zBE,hSr,L46,LCode.sub,zS,zAK,push_cast,↓reduceIte,Nat.reduceEqDiff,reduceCtorEq,Nat.reduceAdd,Nat.reduceLeDiff,Int.reduceNeg,zYW])
  exact ⟨hng (.inr (.inl (by simp only [zBa]; omega))),fA _ _⟩
set_option maxHeartbeats 8000000 in
theorem zUt (ps : List Pr) (k : Nat) (hk : k < ps.length) (hps : ps.length ≤ 1048576) (hp : zDc ps k) (hh : zDk (ps.getD k default)) (l : List Ins) (out : Bool) (level c : Int) (r : Nat) (G : zA) : zJ6 ps k l out level c r G 17 := by
 intro j h e' G' a b bd el hlt hx hs hbd hel hrl hc0 hl0 hl1 ⟨e0,e2,e3,e9,e10,e11,e12,e42,e43,e44,gr,g9,g10,fr,gl,hj,hhh,cc,lv,ef⟩
 have hrow : (l.map zAp).getD j [] = [int 17,int a,int b,.sl 5 (bd.map zAp),.sl 5 (el.map zAp)] := by
  rw [zN hlt,hx]; simp [zAp,zAc]
 have hrl' := zZl hrl fr.1
 have hb := zAs l (j + 1)
 have hb2 := zAB l (j + 1)
 have hsn := zAl hlt
 have hsl := zAC hlt
 rw [hx] at hsn hsl
 simp only [zBa,zCN] at hsn hsl
 have hbl := zM bd
 have hell := zM el
 have hbv := zX bd
 have helv := zX el
 obtain ⟨q1,q2,q3,q4,q5,q6,q7,q8⟩ := hh
 have ef0 := ef
 rw [zAM ps k hlt,hx] at ef
 have fA : ∀ B b,Fr1 r G (G'.set r B ++ [b]) := fun B b => (fr.trans (Fr1.set B)).trans (Fr1.app _)
 have fB : ∀ B b X,Fr1 r G ((G'.set r B).set (G.length + 1) X ++ [b]) := fun B b X => ((fr.trans (Fr1.set B)).set' (i := G.length + 1) (by omega) X).trans (Fr1.app _)
 have hng : ((∀ h',¬ zCA ps k (.mk 17 a b bd el) out h = some h') ∨ 32768 < c + zL (l.take j) + zBa (.mk 17 a b bd el) ∨ 257 < level + zCN (.mk 17 a b bd el)) → ¬ zDJ ps k l out level c := zBb hlt hx ef0
 have hSr : ∀ B b,(G'.set r B ++ [b])[r]? = some B := fun B b => by rw [zB (by simpa using hrl'),zH hrl']
 have hS9 : ∀ B b,(G'.set r B ++ [b])[G.length]? = some (.box (prR (ps.getD k default))) := fun B b => by rw [zB (by rw [zZc]; omega),zG (by omega)]; exact g9
 have hS10 : ∀ B b,(G'.set r B ++ [b])[G.length + 1]? = some (.box [int h]) := fun B b => by rw [zB (by rw [zZc]; omega),zG (by omega)]; exact g10
 have hSx : ∀ B b,(G'.set r B ++ [b])[G'.length]? = some b := fun B b => by rw [zYY (by simp)]; simp
 have hTx : ∀ B b X,((G'.set r B).set (G.length + 1) X ++ [b])[G'.length]? = some b := fun B b X => by rw [zYY (by simp)]; simp
 have hln := zM l
 have he : zFC ps k 17 a out h = chg h 1 0 := zA7.2.2.1 (by omega)
 have hes := fun h' => zBq (ps := ps) (k := k) (o := 17) (a := a) (b := b) (bd := bd) (el := el) (out := out) (h := h) (h' := h') (by omega) (by omega) he
 by_cases hcn : c + zL (l.take j) + 1 ≤ 32768
 ·cases hI : zCA ps k (.mk 17 a b bd el) out h with
  | some h' =>
   obtain ⟨hf,f1,f2,rfl⟩ := (hes h').1 hI
   rw [hI] at ef
   have hf' := hf
   unfold zW at hf
   rw [zAu,zY5] at hf
   have hem : bd.length = 0 ∧ el.length = 0 := by omega
   have hz : zL bd = 0 ∧ zL el = 0 ∧ zAE bd = 0 ∧ zAE el = 0 := by
    rw [zZh.1 hem.1,zZh.1 hem.2]; exact ⟨rfl,rfl,rfl,rfl⟩
   have hd1 : 0 ≤ a ∧ a < (ps.getD k default).slots → decide (0 ≤ a ∧ a < (ps.getD k default).slots) = true := fun hh => zZz hh
   have hd2 : 0 ≤ a + b - 1 ∧ a + b - 1 < (ps.getD k default).slots → decide (0 ≤ a + b - 1 ∧ a + b - 1 < (ps.getD k default).slots) = true := fun hh => zZz hh
   repeat' (first | refine zY1 (by omega) ?_ | refine zD (zAo _) ?_ | simp -implicitDefEqProofs (disch := omega) only [e0,e11,e42,e43,e44,gr,hrow,zB,zK,splice,zYV,zBE,hSr,hSx,L46,LCode.sub,zS,zAj,push_cast,↓reduceIte,Nat.reduceEqDiff,reduceCtorEq,Nat.reduceAdd,Nat.reduceLeDiff,Int.reduceEq,Int.reduceNeg,zYW])
   refine zF (zGw h 1 0 hhh (by omega) _ _ (hS10 _ _)) ?_ ?_
   ·rintro _ _ ⟨-,rfl⟩
    repeat' (first | refine zD (zAo _) ?_ | simp -implicitDefEqProofs (disch := omega) only [e44,zT,zYV,hTx,zAz,push_cast,↓reduceIte,Nat.reduceEqDiff,Nat.reduceAdd,Nat.reduceLeDiff])
    exact .mk (j + 1,h + 0) ⟨e0,e2,e3,e9,e10,e11,e12,e42,e43,rfl,by rw [zB (by simp; omega),zG (by omega),zH hrl',hsn]; simp only [hz,zZJ,zZw]; push_cast; rw [zzag],by rw [zB (by simp; omega),zG (by omega),zG (by omega)]; exact g9,by rw [zB (by simp; omega),zH (by simp; omega)],fB _ _ _,by simp; omega,hlt,by dsimp only; omega,by dsimp only; rw [hsn]; omega,by dsimp only; rw [hsl]; omega,ef⟩ (by dsimp only; omega)
   ·rintro _ _ ⟨-,hn,-⟩
    exact absurd ⟨f1,f2⟩ hn
  | none =>
   have hn : ¬ (zW (ps.getD k default).slots 17 a b (bd.isEmpty && el.isEmpty) ∧ 1 ≤ h ∧ h + 0 ≤ 1024) := fun hh => by rw [(hes _).2 ⟨hh.1,hh.2.1,hh.2.2,rfl⟩] at hI; cases hI
   have ng := hng (.inl fun h' hh => by rw [hI] at hh; cases hh)
   unfold zW at hn
   rw [zAu,zY5] at hn
   repeat' (first | intro y0 H2 h0; obtain ⟨hb,rfl⟩ : MT _ _ H2 := h0; (try (exfalso; contradiction)); (try simp only [] at hb) | intro z0 H2 h0; obtain ⟨hb,rfl,rfl⟩ : MF _ z0 _ H2 := h0; clear hb | intro y0 H2 h0; obtain ⟨hb,rfl⟩ : NT _ _ _ _ _ H2 := h0 | intro z0 H2 h0; obtain ⟨rfl,hb,rfl | rfl⟩ : NF _ _ _ _ z0 _ H2 := h0 | refine zY1 (by omega) ?_ | refine zF (zCY _ _) ?_ ?_ | refine zF (zCb h 1 0 hhh (by omega) _ _ (hS10 _ _)) ?_ ?_ | simp -implicitDefEqProofs (disch := omega) only [e0,e11,e42,e43,e44,gr,hrow,zB,zK,zT,splice,zYV,zBE,hSr,hSx,hTx,L46,LCode.sub,zS,zAj,zAz,zAx,push_cast,↓reduceIte,Nat.reduceEqDiff,reduceCtorEq,Nat.reduceAdd,Nat.reduceLeDiff,Int.reduceEq,Int.reduceNeg,zYW] | split)
   all_goals first | exact fA _ _ | exact fB _ _ _ | exact ⟨ng,fA _ _⟩ | exact ⟨rfl,ng,fA _ _⟩ | exact ⟨ng,fB _ _ _⟩ | exact ⟨rfl,ng,fB _ _ _⟩ | (exfalso; refine hn ⟨⟨?_,?_,?_,?_,?_,?_,?_,?_⟩,?_,?_⟩ <;> first | omega | (intro h1; omega))
 ·repeat' (first | refine zY1 (by omega) ?_ | refine zI (zAG _) ?_ | simp -implicitDefEqProofs (disch := omega) only [e0,e42,e43,e44,gr,hrow,zB,zK,splice,zYV,zBE,hSr,L46,LCode.sub,zS,zAK,push_cast,↓reduceIte,Nat.reduceEqDiff,reduceCtorEq,Nat.reduceAdd,Nat.reduceLeDiff,Int.reduceNeg,zYW])
  exact ⟨hng (.inr (.inl (by simp only [zBa]; omega))),fA _ _⟩
set_option maxHeartbeats 8000000 in
theorem zR0 (ps : List Pr) (k : Nat) (hk : k < ps.length) (hps : ps.length ≤ 1048576) (hp : zDc ps k) (hh : zDk (ps.getD k default)) (l : List Ins) (out : Bool) (level c : Int) (r : Nat) (G : zA) (o : Int) (ho : 5 ≤ o ∧ o ≤ 15) : zJ6 ps k l out level c r G o := by
 intro j h e' G' a b bd el hlt hx hs hbd hel hrl hc0 hl0 hl1 ⟨e0,e2,e3,e9,e10,e11,e12,e42,e43,e44,gr,g9,g10,fr,gl,hj,hhh,cc,lv,ef⟩
 have hrow : (l.map zAp).getD j [] = [int o,int a,int b,.sl 5 (bd.map zAp),.sl 5 (el.map zAp)] := by
  rw [zN hlt,hx]; simp [zAp,zAc]
 have hrl' := zZl hrl fr.1
 have hb := zAs l (j + 1)
 have hb2 := zAB l (j + 1)
 have hsn := zAl hlt
 have hsl := zAC hlt
 rw [hx] at hsn hsl
 simp only [zBa,zCN] at hsn hsl
 have hbl := zM bd
 have hell := zM el
 have hbv := zX bd
 have helv := zX el
 obtain ⟨q1,q2,q3,q4,q5,q6,q7,q8⟩ := hh
 have ef0 := ef
 rw [zAM ps k hlt,hx] at ef
 have fA : ∀ B b,Fr1 r G (G'.set r B ++ [b]) := fun B b => (fr.trans (Fr1.set B)).trans (Fr1.app _)
 have fB : ∀ B b X,Fr1 r G ((G'.set r B).set (G.length + 1) X ++ [b]) := fun B b X => ((fr.trans (Fr1.set B)).set' (i := G.length + 1) (by omega) X).trans (Fr1.app _)
 have hng : ((∀ h',¬ zCA ps k (.mk o a b bd el) out h = some h') ∨ 32768 < c + zL (l.take j) + zBa (.mk o a b bd el) ∨ 257 < level + zCN (.mk o a b bd el)) → ¬ zDJ ps k l out level c := zBb hlt hx ef0
 have hSr : ∀ B b,(G'.set r B ++ [b])[r]? = some B := fun B b => by rw [zB (by simpa using hrl'),zH hrl']
 have hS9 : ∀ B b,(G'.set r B ++ [b])[G.length]? = some (.box (prR (ps.getD k default))) := fun B b => by rw [zB (by rw [zZc]; omega),zG (by omega)]; exact g9
 have hS10 : ∀ B b,(G'.set r B ++ [b])[G.length + 1]? = some (.box [int h]) := fun B b => by rw [zB (by rw [zZc]; omega),zG (by omega)]; exact g10
 have hSx : ∀ B b,(G'.set r B ++ [b])[G'.length]? = some b := fun B b => by rw [zYY (by simp)]; simp
 have hTx : ∀ B b X,((G'.set r B).set (G.length + 1) X ++ [b])[G'.length]? = some b := fun B b X => by rw [zYY (by simp)]; simp
 have hln := zM l
 have he : zFC ps k o a out h = chg h 2 (-1) := zA7.2.2.2.2 ho
 have hes := fun h' => zBq (ps := ps) (k := k) (o := o) (a := a) (b := b) (bd := bd) (el := el) (out := out) (h := h) (h' := h') (by omega) (by omega) he
 by_cases hcn : c + zL (l.take j) + 1 ≤ 32768
 ·cases hI : zCA ps k (.mk o a b bd el) out h with
  | some h' =>
   obtain ⟨hf,f1,f2,rfl⟩ := (hes h').1 hI
   rw [hI] at ef
   have hf' := hf
   unfold zW at hf
   rw [zAu,zY5] at hf
   have hem : bd.length = 0 ∧ el.length = 0 := by omega
   have hz : zL bd = 0 ∧ zL el = 0 ∧ zAE bd = 0 ∧ zAE el = 0 := by
    rw [zZh.1 hem.1,zZh.1 hem.2]; exact ⟨rfl,rfl,rfl,rfl⟩
   have hd1 : 0 ≤ a ∧ a < (ps.getD k default).slots → decide (0 ≤ a ∧ a < (ps.getD k default).slots) = true := fun hh => zZz hh
   have hd2 : 0 ≤ a + b - 1 ∧ a + b - 1 < (ps.getD k default).slots → decide (0 ≤ a + b - 1 ∧ a + b - 1 < (ps.getD k default).slots) = true := fun hh => zZz hh
   repeat' (first | refine zY1 (by omega) ?_ | refine zD (zAo _) ?_ | simp -implicitDefEqProofs (disch := omega) only [e0,e11,e42,e43,e44,gr,hrow,zB,zK,splice,zYV,zBE,hSr,hSx,L46,LCode.sub,zS,zAj,zAx,push_cast,↓reduceIte,Nat.reduceEqDiff,reduceCtorEq,Nat.reduceAdd,Nat.reduceLeDiff,Int.reduceNeg,zYW])
   refine zF (zGw h 2 (-1) hhh (by omega) _ _ (hS10 _ _)) ?_ ?_
   ·rintro _ _ ⟨-,rfl⟩
    repeat' (first | refine zD (zAo _) ?_ | simp -implicitDefEqProofs (disch := omega) only [e44,zT,zYV,hTx,zAz,push_cast,↓reduceIte,Nat.reduceEqDiff,Nat.reduceAdd,Nat.reduceLeDiff,Int.reduceNeg])
    exact .mk (j + 1,h + (-1)) ⟨e0,e2,e3,e9,e10,e11,e12,e42,e43,rfl,by rw [zB (by simp; omega),zG (by omega),zH hrl',hsn]; simp only [hz,zZJ,zZw]; push_cast; rw [zzag],by rw [zB (by simp; omega),zG (by omega),zG (by omega)]; exact g9,by rw [zB (by simp; omega),zH (by simp; omega)],fB _ _ _,by simp; omega,hlt,by dsimp only; omega,by dsimp only; rw [hsn]; omega,by dsimp only; rw [hsl]; omega,ef⟩ (by dsimp only; omega)
   ·rintro _ _ ⟨-,hn,-⟩
    exact absurd ⟨f1,f2⟩ hn
  | none =>
   have hn : ¬ (zW (ps.getD k default).slots o a b (bd.isEmpty && el.isEmpty) ∧ 2 ≤ h ∧ h + (-1) ≤ 1024) := fun hh => by rw [(hes _).2 ⟨hh.1,hh.2.1,hh.2.2,rfl⟩] at hI; cases hI
   have ng := hng (.inl fun h' hh => by rw [hI] at hh; cases hh)
   unfold zW at hn
   rw [zAu,zY5] at hn
   repeat' (first | intro y0 H2 h0; obtain ⟨hb,rfl⟩ : MT _ _ H2 := h0; (try (exfalso; contradiction)); (try simp only [] at hb) | intro z0 H2 h0; obtain ⟨hb,rfl,rfl⟩ : MF _ z0 _ H2 := h0; clear hb | intro y0 H2 h0; obtain ⟨hb,rfl⟩ : NT _ _ _ _ _ H2 := h0 | intro z0 H2 h0; obtain ⟨rfl,hb,rfl | rfl⟩ : NF _ _ _ _ z0 _ H2 := h0 | refine zY1 (by omega) ?_ | refine zF (zCY _ _) ?_ ?_ | refine zF (zCb h 2 (-1) hhh (by omega) _ _ (hS10 _ _)) ?_ ?_ | simp -implicitDefEqProofs (disch := omega) only [e0,e11,e42,e43,e44,gr,hrow,zB,zK,zT,splice,zYV,zBE,hSr,hSx,hTx,L46,LCode.sub,zS,zAj,zAz,zAx,push_cast,↓reduceIte,Nat.reduceEqDiff,reduceCtorEq,Nat.reduceAdd,Nat.reduceLeDiff,Int.reduceNeg,zYW] | split)
   all_goals first | exact fA _ _ | exact fB _ _ _ | exact ⟨ng,fA _ _⟩ | exact ⟨rfl,ng,fA _ _⟩ | exact ⟨ng,fB _ _ _⟩ | exact ⟨rfl,ng,fB _ _ _⟩ | (exfalso; refine hn ⟨⟨?_,?_,?_,?_,?_,?_,?_,?_⟩,?_,?_⟩ <;> first | omega | (intro h1; omega))
 ·repeat' (first | refine zY1 (by omega) ?_ | refine zI (zAG _) ?_ | simp -implicitDefEqProofs (disch := omega) only [e0,e42,e43,e44,gr,hrow,zB,zK,splice,zYV,zBE,hSr,L46,LCode.sub,zS,zAK,push_cast,↓reduceIte,Nat.reduceEqDiff,reduceCtorEq,Nat.reduceAdd,Nat.reduceLeDiff,Int.reduceNeg,zYW])
  exact ⟨hng (.inr (.inl (by simp only [zBa]; omega))),fA _ _⟩
end Go.Proofs.YtbibhcmcjldhdaaGreatDoor
