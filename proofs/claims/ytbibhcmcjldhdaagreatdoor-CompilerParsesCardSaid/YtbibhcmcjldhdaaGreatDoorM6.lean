/- Parts,merged by a program (wip/tools/merge2.py): Ax33 Ax34 Ax35 Ax36 Ax36b Ct1 Ct2 Fm2 Fm3 Ct3 Ct4 Ct5 Cp12 Ax40 Ax40b. -/
import Derived.Test.YtbibhcmcjldhdaaGreatDoorM5
import Derived.Test.YtbibhcmcjldhdaaGreatDoorChecked
import Derived.Lib.ItoaNum
import Derived.KernelRfl
import Derived.Test.YtbibhcmcjldhdaaGreatDoorRows
import Derived.JoinedCond
import Derived.ProofKit
import Derived.Deep.DeepHandedRow
namespace Go.Ax
open Go
set_option linter.unusedSimpArgs false
set_option linter.unusedVariables false
def zP9 (g : Nat->Option HO) (x : AV) : Rt :=
 match x with
 | .vp _ _ => some (x,.keep)
 | .mp _ _ => some (x,.keep)
 | .fn (.func _) _ _ => some (x,.keep)
 | .ptr r ver _ => match g r with
  | some (.box _) => gB (Nat.beq ver 0) x .keep
  | _ => none
 | .pe r ver _ _ => match g r with
  | some (.arr v _ _) => gB (Nat.beq ver v) x .keep
  | _ => none
 | _ => none
theorem zQ3 {H : zB} {x : AV} : zEP (zP9 (fun r => H[r]?) x) (rNil x H) H := by
 intro y u h;cases x with
 | vp cs o => simp only [zP9,zYq,zYS] at h; exact ⟨trivial,h.1,by rw [<- h.2]; rfl⟩
 | mp ks vs => simp only [zP9,zYq,zYS] at h; exact ⟨trivial,h.1,by rw [<- h.2]; rfl⟩
 | fn f a b => cases f <;> simp only [zP9,zYq,zYS] at h <;> first | (cases h; done) | exact ⟨trivial,h.1,by rw [<- h.2]; rfl⟩
 | ptr r ver off =>
  simp only [zP9] at h;split at h
  ·rename_i cs hr;obtain ⟨h1,h2,h3⟩ := zBR h;simp only [zZe] at h1;simp only [rNil,hr,isVer];exact ⟨h1,h2,by rw [<- h3]; rfl⟩
  ·cases h
 | pe r ver i off =>
  simp only [zP9] at h;split at h
  ·rename_i v sz xs hr;obtain ⟨h1,h2,h3⟩ := zBR h;simp only [zZe] at h1;simp only [rNil,hr,isVer];exact ⟨h1,h2,by rw [<- h3]; rfl⟩
  ·cases h
 | _ => cases h
def zOK (g : Nat->Option HO) (sz : Nat) : AV->Option (List (List AV))
 | .sl sz' xs => cond (Nat.beq sz' sz || xs.isEmpty) (some xs) none
 | .os r ver off len => match g r with
  | some (.arr v sz' xs) => cond (Nat.beq ver v && Nat.beq sz' sz && Nat.ble (off + len) xs.length) (some ((xs.drop off).take len)) none
  | _ => none
 | .v (.slice none 0 0) => some []
 | .nc => some []
 | .v (.string s) => cond (Nat.beq sz 1) (some ((bs s).map zBz)) none
 | _ => none
theorem zJX {H : zB} {sz : Nat} {x : AV} {rows : List (List AV)} (h : zOK (fun r => H[r]?) sz x = some rows) : rowsOf H x = some rows/\szOk H sz x := by
 unfold zOK at h;split at h
 ·rename_i sz' xs;cases hb : (Nat.beq sz' sz || xs.isEmpty)
  ·rw [hb] at h; cases h
  ·rw [hb,zZf,zYq] at h;simp only [zZq,zZe,zzap] at hb;exact ⟨by rw [<- h]; rfl,hb⟩
 ·rename_i r ver off len;split at h
  ·rename_i v sz' xs hr;cases hb : (Nat.beq ver v && Nat.beq sz' sz && Nat.ble (off + len) xs.length)
   ·rw [hb] at h; cases h
   ·rw [hb,zZf,zYq] at h;simp only [zYA,zZe,zZN] at hb;obtain ⟨⟨rfl,rfl⟩,hle⟩ := hb;refine ⟨?_,?_⟩
    ·simp only [rowsOf,osRows,hr];rw [if_pos ⟨trivial,hle⟩,h]
    ·simp only [szOk,hr]
  ·cases h
 ·simp only [zYq] at h; exact ⟨by rw [<- h]; rfl,trivial⟩
 ·simp only [zYq] at h; exact ⟨by rw [<- h]; rfl,trivial⟩
 ·rename_i s;cases hb : Nat.beq sz 1
  ·rw [hb] at h; cases h
  ·rw [hb,zZf,zYq] at h;exact ⟨by rw [<- h]; rfl,zZo hb⟩
 ·cases h
def zOR (g : Nat->Option HO) (c : Cv) (x : AV) : Rt :=
 match c,x with
 | .toInt k,.v (.int _ n) => fI (zHf k n) fun n => some (.v (.int k n),.keep)
 | .same,.v (.string s) => some (.v (.string s),.keep)
 | .strBytes,.v (.string s) => gB (Nat.blt (bs s).length 9223372036854775808) (.sl 1 ((bs s).map zBz)) .keep
 | .bytesStr,.v (.slice none 0 0) => some (str [],.keep)
 | .bytesStr,.v _ => none
 | .bytesStr,y => match zOK g 1 y with
  | some rows => match zAT rows with
   | some l => some (str l,.keep)
   | none => none
  | none => none
 | .runeStr,.v (.int _ n) => some (.v (.string (Utf8.encode n)),.keep)
 | _,_ => none
theorem zOQ {H : zB} {c : Cv} {x : AV} : zEP (zOR (fun r => H[r]?) c x) (rConv c x H) H := by
 intro y u h;unfold zOR at h;split at h
 ·simp only [zSm,zHe,zYq,zYS] at h; exact ⟨trivial,h.1,by rw [<- h.2]; rfl⟩
 ·simp only [zYq,zYS] at h; exact ⟨trivial,h.1,by rw [<- h.2]; rfl⟩
 ·obtain ⟨h1,h2,h3⟩ := zBR h;simp only [zZG] at h1;exact ⟨by show ((_ : Nat) : Int) < _; omega,h2,by rw [<- h3]; rfl⟩
 ·simp only [zYq,zYS] at h;exact ⟨⟨trivial,rfl⟩,by rw [<- h.1]; rfl,by rw [<- h.2]; rfl⟩
 ·cases h
 ·rename_i hns;split at h
  ·rename_i rows hr;split at h
   ·rename_i l hl;obtain ⟨h1,h2⟩ := zJX hr;simp only [zYq,zYS] at h;have hx : rConv .bytesStr x H = ⟨szOk H 1 x/\((rowsOf H x).bind zAT).isSome = true,str (((rowsOf H x).bind zAT).getD []),H⟩ := by
     cases x with
     | v v => exact absurd rfl (hns v)
     | _ => rfl
    rw [hx];simp only [h1,zzag,hl];exact ⟨⟨h2,rfl⟩,h.1,by rw [<- h.2]; rfl⟩
   ·cases h
  ·cases h
 ·simp only [zYq,zYS] at h; exact ⟨trivial,h.1,by rw [<- h.2]; rfl⟩
 ·cases h
def zVK (sz bytes n : Nat) (zs : List AV) (len cap : AV) : Rt :=
 match len,cap with
 | .v (.int .i64 (.ofNat m)),.v (.int .i64 (.ofNat c)) => gB (Nat.ble m c && Nat.ble (c * bytes) 140737488355328 && Nat.ble c 140737488355328 && Nat.beq zs.length sz) (.os n 0 0 m) (.push (.arr 0 sz (List.replicate c zs)))
 | _,_ => none
theorem zQ4 {sz bytes : Nat} {zs : List AV} {len cap : AV} {H : zB} : zEP (zVK sz bytes H.length zs len cap) (rMsl sz bytes zs len cap H) H := by
 intro y u h;unfold zVK at h;split at h
 ·rename_i m c;obtain ⟨h1,h2,h3⟩ := zBR h;simp only [zYA,zZN,zZe] at h1;obtain ⟨⟨⟨a1,a2⟩,a3⟩,a4⟩ := h1;simp only [rMsl,zZ1,zZy];refine ⟨⟨by omega,by omega,?_,by omega,a4⟩,h2,by rw [<- h3]; rfl⟩;have : ((c * bytes : Nat) : Int) <= 140737488355328 := by omega
  simpa using this
 ·cases h
def zOy (d : Nat) : Option AV->Option Nat
 | none => some d
 | some (.v (.int _ (.ofNat n))) => some n
 | _ => none
theorem zDB {d n : Nat} {x : Option AV} (h : zOy d x = some n) : bnd d x = some (n : Int) := by
 unfold zOy at h;split at h
 ·simp only [zYq] at h; subst h; rfl
 ·simp only [zYq] at h; subst h; rfl
 ·cases h
def zGz (g : Nat->Option HO) (lk : LK) (n : Nat) (x : AV) (lo hi : Option AV) : Rt :=
 match lk,x with
 | .str,.v (.string s) => match zOy 0 lo,zOy (bs s).length hi with
  | some l,some h => gB (Nat.ble l h && Nat.ble h (bs s).length && Nat.beq n 1) (str (((bs s).drop l).take (h - l))) .keep
  | _,_ => none
 | .slc,.sl sz xs => match zOy 0 lo,zOy xs.length hi with
  | some l,some h => gB (Nat.ble l h && Nat.ble h xs.length && Nat.beq sz n) (.sl sz ((xs.drop l).take (h - l))) .keep
  | _,_ => none
 | .slc,.os r ver off len => match zOy 0 lo,zOy len hi,g r with
  | some l,some h,some (.arr v sz xs) => gB (Nat.ble l h && Nat.ble h len && Nat.beq sz n && Nat.beq ver v) (.os r ver (off + l) (h - l)) .keep
  | _,_,_ => none
 | .slc,.v (.slice none 0 0) => match zOy 0 lo,zOy 0 hi with
  | some 0,some 0 => some (zAl,.keep)
  | _,_ => none
 | _,_ => none
theorem zFI {H : zB} {lk : LK} {n : Nat} {x : AV} {lo hi : Option AV} : zEP (zGz (fun r => H[r]?) lk n x lo hi) (rSlice lk n x lo hi H) H := by
 intro y u h;unfold zGz at h;split at h
 ·rename_i s;split at h
  ·rename_i l h' hl hh;obtain ⟨h1,h2,h3⟩ := zBR h;simp only [zYA,zZN,zZe] at h1;obtain ⟨⟨a1,a2⟩,a3⟩ := h1;have e1 := zDB hl;have e2 := zDB hh;simp only [rSlice,lenOf,zZj,rSliceN,Res.also];rw [show bnd 0 lo = some (l : Int) from e1,e2];simp only [rSliceN,zZy];exact ⟨⟨⟨rfl,a3⟩,by omega,by omega,by omega⟩,h2,by rw [<- h3]; rfl⟩
  ·cases h
 ·rename_i sz xs;split at h
  ·rename_i l h' hl hh;obtain ⟨h1,h2,h3⟩ := zBR h;simp only [zYA,zZN,zZe] at h1;obtain ⟨⟨a1,a2⟩,a3⟩ := h1;have e1 := zDB hl;have e2 := zDB hh;simp only [rSlice,lenOf,zZj,Res.also];rw [show bnd 0 lo = some (l : Int) from e1,e2];simp only [rSliceN,zZy];exact ⟨⟨⟨rfl,.inl a3⟩,by omega,by omega,by omega⟩,h2,by rw [<- h3]; rfl⟩
  ·cases h
 ·rename_i r ver off len;split at h
  ·rename_i l h' v sz xs hl hh hr;obtain ⟨h1,h2,h3⟩ := zBR h;simp only [zYA,zZN,zZe] at h1;obtain ⟨⟨⟨a1,a2⟩,rfl⟩,rfl⟩ := h1;have e1 := zDB hl;have e2 := zDB hh;simp only [rSlice,lenOf,zZj,Res.also];rw [show bnd 0 lo = some (l : Int) from e1,e2];simp only [rSliceN,zZy,hr,isArr,isVer,szOk];exact ⟨⟨⟨rfl,trivial⟩,by omega,by omega,by omega,trivial,trivial⟩,h2,by rw [<- h3]; rfl⟩
  ·cases h
 ·split at h
  ·rename_i hl hh;have e1 := zDB hl;have e2 := zDB hh;simp only [zYq,zYS] at h;simp only [rSlice,lenOf,zZj,Res.also];rw [show bnd 0 lo = some ((0 : Nat) : Int) from e1,show bnd ((0 : Nat) : Int) hi = some ((0 : Nat) : Int) from e2];exact ⟨⟨⟨rfl,trivial⟩,rfl,rfl⟩,h.1,by rw [<- h.2]; rfl⟩
  ·cases h
 ·cases h
def zI4 (g : Nat->Option HO) (lk : LK) (n : Nat) (x : AV) (lo hi : Option AV) : Rt :=
 match x with
 | .sl a b => zGz g lk n (.sl a b) lo hi
 | .v v => zGz g lk n (.v v) lo hi
 | _ => none
theorem zKW {H : zB} {lk : LK} {n : Nat} {x : AV} {lo hi : Option AV} : zEP (zI4 (fun r => H[r]?) lk n x lo hi) (zDi lk n x lo hi H) H := by
 intro y u h;cases x with
 | sl a b => exact zFI _ _ h
 | v v => exact zFI _ _ h
 | _ => cases h
def zVN (g : Nat->Option HO) (lk : LK) (x : AV) : Rt :=
 match lk,x with
 | .str,.v (.string s) => fN (bs s).length fun n => some (int (.ofNat n),.keep)
 | .slc,.sl _ xs => fN xs.length fun n => some (int (.ofNat n),.keep)
 | .slc,.os r ver _ len => match g r with
  | some (.arr v _ _) => gB (Nat.beq ver v) (int (.ofNat len)) .keep
  | _ => none
 | .slc,.v (.slice none 0 0) => some (int 0,.keep)
 | .slc,.nc => some (int 0,.keep)
 | .map,.mp ks _ => fN ks.length fun n => some (int (.ofNat n),.keep)
 | _,_ => none
theorem zQ7 {H : zB} {lk : LK} {x : AV} : zEP (zVN (fun r => H[r]?) lk x) (rLen lk x H) H := by
 intro y u h;unfold zVN at h;split at h
 ·simp only [zE4,zYq,zYS] at h; exact ⟨⟨rfl,trivial⟩,h.1,by rw [<- h.2]; rfl⟩
 ·simp only [zE4,zYq,zYS] at h; exact ⟨⟨rfl,trivial⟩,h.1,by rw [<- h.2]; rfl⟩
 ·split at h
  ·rename_i v sz xs hr;obtain ⟨h1,h2,h3⟩ := zBR h;simp only [zZe] at h1;simp only [rLen,verOk,hr,isArr,isVer];exact ⟨⟨rfl,trivial,h1⟩,h2,by rw [<- h3]; rfl⟩
  ·cases h
 ·simp only [zYq,zYS] at h; exact ⟨⟨rfl,trivial⟩,h.1,by rw [<- h.2]; rfl⟩
 ·simp only [zYq,zYS] at h; exact ⟨⟨rfl,trivial⟩,h.1,by rw [<- h.2]; rfl⟩
 ·simp only [zE4,zYq,zYS] at h; exact ⟨⟨rfl,trivial⟩,h.1,by rw [<- h.2]; rfl⟩
 ·cases h
def zH5 (g : Nat->Option HO) (off : Nat) (p : AV) : Rt :=
 match p with
 | .ptr r ver o => match g r with
  | some (.box _) => cond (Nat.beq ver 0) (fN (o + off) fun o => some (.ptr r ver o,.keep)) none
  | _ => none
 | .pe r ver i o => match g r with
  | some (.arr v _ _) => cond (Nat.beq ver v) (fN (o + off) fun o => some (.pe r ver i o,.keep)) none
  | _ => none
 | .vp cs o => fN (o + off) fun o => some (.vp cs o,.keep)
 | _ => none
theorem zH4 {H : zB} {off : Nat} {p : AV} : zEP (zH5 (fun r => H[r]?) off p) (rFaddr off p H) H := by
 intro y u h;unfold zH5 at h;split at h
 ·split at h
  ·rename_i cs hr;simp only [zE4] at h;cases hb : Nat.beq _ 0 <;> rw [hb] at h
   ·cases h
   ·simp only [zZf,zYq,zYS] at h;simp only [rFaddr,hr,isBox,isVer];exact ⟨⟨trivial,zZo hb⟩,h.1,by rw [<- h.2]; rfl⟩
  ·cases h
 ·split at h
  ·rename_i v sz xs hr;simp only [zE4] at h;cases hb : Nat.beq _ v <;> rw [hb] at h
   ·cases h
   ·simp only [zZf,zYq,zYS] at h;simp only [rFaddr,hr,isArr,isVer];exact ⟨⟨trivial,zZo hb⟩,h.1,by rw [<- h.2]; rfl⟩
  ·cases h
 ·simp only [zE4,zYq,zYS] at h; exact ⟨trivial,h.1,by rw [<- h.2]; rfl⟩
 ·cases h
def zW2 (ag : Bool) (off n : Nat) (x : AV) : Rt :=
 match x with
 | .agg cs => zMb ag n off cs true
 | _ => none
theorem zRa {H : zB} {ag : Bool} {off n : Nat} {x : AV} : zEP (zW2 ag off n x) (rFld ag off n x H) H := by
 intro y u h;cases x with
 | agg cs =>
  obtain ⟨_,h1,h2,h3,rfl⟩ := zFm h;exact ⟨⟨h1,h2⟩,h3,rfl⟩
 | _ => cases h
def zH1 (g : Nat->Option HO) (sz : Nat) (x i : AV) : Rt :=
 match x,i with
 | .sl sz' xs,.v (.int _ (.ofNat n)) => gB (Nat.beq sz' sz && Nat.blt n xs.length) (.vp (xs.getD n []) 0) .keep
 | .os r ver off len,.v (.int _ (.ofNat n)) => match g r with
  | some (.arr v sz' _) => cond (Nat.blt n len && Nat.beq sz' sz && Nat.beq ver v) (fN (off + n) fun m => some (.pe r ver m 0,.keep)) none
  | _ => none
 | _,_ => none
theorem zH0 {H : zB} {sz : Nat} {x i : AV} : zEP (zH1 (fun r => H[r]?) sz x i) (rIaddr sz x i H) H := by
 intro y u h;unfold zH1 at h;split at h
 ·obtain ⟨h1,h2,h3⟩ := zBR h;simp only [zYA,zZG,zZe] at h1;simp only [rIaddr,zZ1,zZy];exact ⟨⟨h1.1,by omega,by omega⟩,h2,by rw [<- h3]; rfl⟩
 ·split at h
  ·rename_i v sz' xs hr;simp only [zE4] at h;cases hb : (Nat.blt _ _ && Nat.beq sz' sz && Nat.beq _ v) <;> rw [hb] at h
   ·cases h
   ·simp only [zYA,zZG,zZe] at hb;simp only [zZf,zYq,zYS] at h;simp only [rIaddr,hr,isVer,szOk,zZ1,zZy];exact ⟨⟨by omega,by omega,hb.1.2,hb.2⟩,h.1,by rw [<- h.2]; rfl⟩
  ·cases h
 ·cases h
def zVQ (x i : AV) : Rt :=
 match x,i with
 | .v (.string s),.v (.int _ (.ofNat n)) => cond (Nat.blt n (bs s).length) (fN ((bs s).getD n 0).toNat fun m => some (u8 (.ofNat m),.keep)) none
 | _,_ => none
theorem zQ9 {H : zB} {x i : AV} : zEP (zVQ x i) (rIdx x i H) H := by
 intro y u h;unfold zVQ at h;split at h
 ·simp only [zE4] at h;cases hb : Nat.blt _ _ <;> rw [hb] at h
  ·cases h
  ·simp only [zZG] at hb;simp only [zZf,zYq,zYS] at h;simp only [rIdx,zZ1,zZy];exact ⟨⟨by omega,by omega⟩,h.1,by rw [<- h.2]; rfl⟩
 ·cases h
def zW3 (x : AV) (i : Nat) : Rt :=
 match x with
 | .tup xs => gB (Nat.blt i xs.length) (xs.getD i .any) .keep
 | _ => none
theorem zRb {H : zB} {x : AV} {i : Nat} : zEP (zW3 x i) (rExt x i H) H := by
 intro y u h;cases x with
 | tup xs =>
  obtain ⟨h1,h2,h3⟩ := zBR h;simp only [zZG] at h1;exact ⟨h1,h2,by rw [<- h3]; rfl⟩
 | _ => cases h
def zHl (g : Nat->Option HO) (sz bytes n : Nat) (s x : AV) : Rt :=
 match zOK g sz x with
 | none => none
 | some ys => match s with
  | .os r ver 0 len => match g r with
   | some (.arr v sz' xs) => cond (Nat.beq ver v && Nat.beq sz' sz && Nat.ble len xs.length && Nat.ble ((len + ys.length) * bytes) 140737488355328 && Nat.ble (len + ys.length) 140737488355328)
     (fN (ver + 1) fun ver => fN (len + ys.length) fun m => some (.os r ver 0 m,.set r (.arr ver sz (xs.take len ++ ys)))) none
   | _ => none
  | .v (.slice none 0 0) => cond (Nat.blt 0 sz && Nat.ble (ys.length * bytes) 140737488355328 && Nat.ble ys.length 140737488355328) (fN ys.length fun m => some (.os n 0 0 m,.push (.arr 0 sz ys))) none
  | .nc => match ys with
   | [] => cond (Nat.blt 0 sz) (some (.nc,.keep)) none
   | y :: ys => cond (Nat.blt 0 sz && Nat.ble ((y :: ys).length * bytes) 140737488355328 && Nat.ble (y :: ys).length 140737488355328) (fN (y :: ys).length fun m => some (.os n 0 0 m,.push (.arr 0 sz (y :: ys)))) none
  | _ => none
theorem zK1 {H : zB} {sz bytes : Nat} {s x : AV} : zEP (zHl (fun r => H[r]?) sz bytes H.length s x) (rAppend sz bytes s x H) H := by
 intro y u h;unfold zHl at h;split at h
 ·cases h
 ·rename_i ys hys;obtain ⟨e1,e2⟩ := zJX hys;split at h
  ·rename_i r ver len;split at h
   ·rename_i v sz' xs hr;simp only [zE4] at h;cases hb : (Nat.beq ver v && Nat.beq sz' sz && Nat.ble len xs.length && Nat.ble ((len + ys.length) * bytes) 140737488355328 && Nat.ble (len + ys.length) 140737488355328) <;> rw [hb] at h
    ·cases h
    ·simp only [zYA,zZN,zZe] at hb;simp only [zZf,zYq,zYS] at h;simp only [rAppend,e1,rAppendO,hr,Res.also];exact ⟨⟨e2,hb.1.1.1.1,hb.1.1.1.2,hb.1.1.2,hb.1.2,hb.2⟩,h.1,by rw [<- h.2]; rfl⟩
   ·cases h
  ·simp only [zE4] at h;cases hb : (Nat.blt 0 sz && Nat.ble (ys.length * bytes) 140737488355328 && Nat.ble ys.length 140737488355328) <;> rw [hb] at h
   ·cases h
   ·simp only [zYA,zZN,zZG] at hb;simp only [zZf,zYq,zYS] at h;simp only [rAppend,e1,rAppendN,Res.also];exact ⟨⟨e2,hb.1.1,hb.1.2,hb.2⟩,h.1,by rw [<- h.2]; rfl⟩
  ·split at h
   ·cases hb : Nat.blt 0 sz <;> rw [hb] at h
    ·cases h
    ·simp only [zZG] at hb;simp only [zZf,zYq,zYS] at h;simp only [rAppend,e1,rAppendC,Res.also];exact ⟨⟨e2,hb⟩,h.1,by rw [<- h.2]; rfl⟩
   ·rename_i y ys;simp only [zE4] at h;cases hb : (Nat.blt 0 sz && Nat.ble ((y :: ys).length * bytes) 140737488355328 && Nat.ble (y :: ys).length 140737488355328) <;> rw [hb] at h
    ·cases h
    ·simp only [zYA,zZN,zZG] at hb;simp only [zZf,zYq,zYS] at h;simp only [rAppend,e1,rAppendC,rAppendN,Res.also];exact ⟨⟨e2,hb.1.1,hb.1.2,hb.2⟩,h.1,by rw [<- h.2]; rfl⟩
  ·cases h
def zSN (g : Nat->Option HO) (x : AV) : Rt :=
 match x with
 | .os r ver off len => match g r with
  | some (.arr v sz xs) => gB (Nat.beq ver v && (Nat.ble (off + len) xs.length && xs.all fun x => x.all cl1)) (.sl sz ((xs.drop off).take len)) (.set r .dead)
  | _ => none
 | .ptr r ver off => match g r with
  | some (.box cs) => gB (Nat.beq ver 0 && cs.all cl1) (.vp cs off) (.set r .dead)
  | _ => none
 | .om r ver => match g r with
  | some (.map v ks vs) => gB (Nat.beq ver v) (.mp ks vs) (.set r .dead)
  | _ => none
 | .v (.slice none 0 0) => some (.sl 0 [],.keep)
 | .sl sz xs => some (.sl sz xs,.keep)
 | .nc => some (.sl 0 [],.keep)
 | _ => none
theorem zI7 {H : zB} {x : AV} : zEP (zSN (fun r => H[r]?) x) (rFrz x H) H := by
 intro y u h;unfold zSN at h;split at h
 ·split at h
  ·rename_i v sz xs hr;obtain ⟨h1,h2,h3⟩ := zBR h;simp only [zYA,zZN,zZe] at h1;simp only [rFrz,hr];exact ⟨⟨h1.1,h1.2.1,zYR.2 fun x hx => zDt (zYR.1 h1.2.2 x hx)⟩,h2,by rw [<- h3]; rfl⟩
  ·cases h
 ·split at h
  ·rename_i cs hr;obtain ⟨h1,h2,h3⟩ := zBR h;simp only [zYA,zZe] at h1;simp only [rFrz,hr];exact ⟨⟨h1.1,zDt h1.2⟩,h2,by rw [<- h3]; rfl⟩
  ·cases h
 ·split at h
  ·rename_i v ks vs hr;obtain ⟨h1,h2,h3⟩ := zBR h;simp only [zZe] at h1;simp only [rFrz,hr];exact ⟨h1,h2,by rw [<- h3]; rfl⟩
  ·cases h
 ·simp only [zYq,zYS] at h; exact ⟨trivial,h.1,by rw [<- h.2]; rfl⟩
 ·simp only [zYq,zYS] at h; exact ⟨trivial,h.1,by rw [<- h.2]; rfl⟩
 ·simp only [zYq,zYS] at h; exact ⟨trivial,h.1,by rw [<- h.2]; rfl⟩
 ·cases h
def zMa (g : Nat->Option HO) (sz off : Nat) (x : AV) : Rt :=
 match x with
 | .agg cs => match cs[off]? with
  | some (.v (.slice none 0 0)) => some (.agg (cs.set off (.sl sz [])),.keep)
  | some (.os r ver o len) => match zSN g (.os r ver o len) with
   | some (y,u) => some (.agg (cs.set off y),u)
   | none => none
  | some (.sl sz' xs) => some (.agg (cs.set off (.sl sz' xs)),.keep)
  | _ => none
 | .ptr r ver o => match g r with
  | some (.box cs) => match cs[o + off]? with
   | some (.v (.slice none 0 0)) => gB (Nat.beq ver 0) (.ptr r ver o) (.set r (.box (cs.set (o + off) (.sl sz []))))
   | some (.os r' ver' o' len) => match zSN g (.os r' ver' o' len) with
    | some (y,.set r2 x2) => gB (Nat.beq ver 0) (.ptr r ver o) (.set2 r2 x2 r (.box (cs.set (o + off) y)))
    | _ => none
   | some (.sl sz' xs) => gB (Nat.beq ver 0) (.ptr r ver o) (.set r (.box (cs.set (o + off) (.sl sz' xs))))
   | _ => none
  | _ => none
 | _ => none
theorem zOP {H : zB} {sz off : Nat} {x : AV} : zEP (zMa (fun r => H[r]?) sz off x) (rFrzf sz off x H) H := by
 intro y u h;cases x with
 | agg cs =>
  simp only [zMa] at h;split at h
  ·rename_i hc;simp only [zYq,zYS] at h;simp only [rFrzf,rFrzfO,hc,rFrzO,rFrzN];exact ⟨trivial,h.1,by rw [<- h.2]; rfl⟩
  ·rename_i r ver o len hc;split at h
   ·rename_i z v hz;simp only [zYq,zYS] at h;obtain ⟨h1,h2,h3⟩ := zI7 _ _ hz;simp only [rFrzf,rFrzfO,hc,rFrzO,rFrzN];exact ⟨h1,by rw [h2]; exact h.1,by rw [<- h.2]; exact h3⟩
   ·cases h
  ·rename_i sz' xs hc;simp only [zYq,zYS] at h;simp only [rFrzf,rFrzfO,hc,rFrzO,rFrzN];exact ⟨trivial,h.1,by rw [<- h.2]; rfl⟩
  ·cases h
 | ptr r ver o =>
  simp only [zMa] at h;split at h
  ·rename_i cs hr;split at h
   ·rename_i hc;obtain ⟨h1,h2,h3⟩ := zBR h;have h1 := zZo h1;simp only [rFrzf,hr,rFrzB,hc,rFrzQ,rFrzP,rFrzN,Res.also];exact ⟨⟨h1,trivial⟩,h2,by rw [<- h3]; rfl⟩
   ·rename_i r' ver' o' len hc;split at h
    ·rename_i z r2 x2 hz;obtain ⟨h1,h2,h3⟩ := zBR h;have h1 := zZo h1;obtain ⟨k1,k2,k3⟩ := zI7 _ _ hz;simp only [rFrzf,hr,rFrzB,hc,rFrzQ,rFrzP,rFrzN,Res.also];exact ⟨⟨h1,k1⟩,h2,by rw [k2,k3,<- h3]; rfl⟩
    ·cases h
   ·rename_i sz' xs hc;obtain ⟨h1,h2,h3⟩ := zBR h;have h1 := zZo h1;simp only [rFrzf,hr,rFrzB,hc,rFrzQ,rFrzP,rFrzN,Res.also];exact ⟨⟨h1,trivial⟩,h2,by rw [<- h3]; rfl⟩
   ·cases h
  ·cases h
 | _ => cases h
def zJW (n : Nat) (g : Nat->Option HO) (p x : AV) : Rt :=
 match p with
 | .ptr r ver off => match zGy n g (.ptr r ver off) x with
  | some _ => some (.any,.keep)
  | none => none
 | _ => none
theorem zL6 {n : Nat} {H : zB} {p x : AV} : zEP (zJW n (fun r => H[r]?) p x) (zFR n p x H) H := by
 intro y u h;cases p <;> simp only [zJW] at h <;> first | (cases h; done) | skip
 split at h
 ·rename_i z hz;simp only [zYq,zYS] at h;exact ⟨(zHZ _ _ hz).1,h.1,by rw [<- h.2]; rfl⟩
 ·cases h
def evX (e : Nat->AV) (x : LX) : AV := LX.casesOn (motive := fun _ => AV) x e fun a => a
def zL8 (ag : Bool) (n : Nat) (g : Nat->Option HO) (p : AV) : Rt := match p with
 | .pe _ _ _ _ => none
 | p => zI5 ag n g p
theorem zL7 {ag : Bool} {n : Nat} {H : zB} {p : AV} : zEP (zL8 ag n (fun r => H[r]?) p) (zCo ag n p H) H := by
 intro x u h;cases p <;> first | (cases h; done) | exact zHk _ _ h
def zI8 (g : Nat->Option HO) (off : Nat) (p : AV) : Rt := match p with
 | .pe _ _ _ _ => none
 | p => zH5 g off p
theorem zK0 {H : zB} {off : Nat} {p : AV} : zEP (zI8 (fun r => H[r]?) off p) (zBG off p H) H := by
 intro x u h;cases p <;> first | (cases h; done) | exact zH4 _ _ h
def zI6 (g : Nat->Option HO) (sz : Nat) (x i : AV) : Rt := match x with
 | .sl a b => zH1 g sz (.sl a b) i
 | _ => none
theorem zKY {H : zB} {sz : Nat} {x i : AV} : zEP (zI6 (fun r => H[r]?) sz x i) (zDj sz x i H) H := by
 intro y u h;cases x <;> first | (cases h; done) | exact zH0 _ _ h
def zVL (x y : AV) : Rt := match x,y with
 | .v (.int k a),.v (.int _ b) => some (.v (.int k (cond (ltI b a) b a)),.keep)
 | _,_ => none
def zOM (x y z : AV) : Rt := match x,y,z with
 | .v (.int k a),.v (.int _ b),.v (.int _ c) => some (.v (.int k (cond (ltI (cond (ltI a b) b a) c) c (cond (ltI a b) b a))),.keep)
 | _,_,_ => none
def zVM (x y : AV) : Rt := match x,y with
 | .v (.int k a),.v (.int _ b) => some (.v (.int k (cond (ltI a b) b a)),.keep)
 | _,_ => none
theorem zQ5 {H : zB} {x y : AV} : zEP (zVL x y) (rMin x y H) H := by
 intro z u h;unfold zVL at h;split at h
 ·simp only [zYq,zYS,zGP] at h;refine ⟨trivial,?_,by rw [<- h.2]; rfl⟩;rw [<- h.1];simp only [rMin];split <;> rename_i hh <;> simp [hh]
 ·cases h
theorem zOL {H : zB} {x y z : AV} : zEP (zOM x y z) (rMax3 x y z H) H := by
 intro q u h;unfold zOM at h;split at h
 ·rename_i k a k2 b k3 c;simp only [zYq,zYS,zGP] at h;refine ⟨trivial,?_,by rw [<- h.2]; rfl⟩;rw [<- h.1];have hc : cond (decide (a < b)) b a = if a < b then b else a := by by_cases hh : a < b <;> simp [hh]
  simp only [rMax3,hc];generalize (if a < b then b else a) = m;by_cases hh : m < c <;> simp [hh]
 ·cases h
theorem zQ6 {H : zB} {x y : AV} : zEP (zVM x y) (rMax x y H) H := by
 intro z u h;unfold zVM at h;split at h
 ·simp only [zYq,zYS,zGP] at h;refine ⟨trivial,?_,by rw [<- h.2]; rfl⟩;rw [<- h.1];simp only [rMax];split <;> rename_i hh <;> simp [hh]
 ·cases h
def zWE (a b : IntKind) : Bool := a == b
def zVO : Value->Value->Bool
 | .int k a,.int k' b => cond (zWE k k') (eqI a b) false
 | .string a,.string b => eqL (bs a) (bs b)
 | .bool a,.bool b => eqB a b
 | .agg a,.agg b => zWB a.toList b.toList
 | _,_ => false
theorem zL9 (a b : Value) : zVO a b = kEq a b := by
 cases a <;> cases b <;> simp only [zVO,kEq]
 case int.int k x k' y =>
  cases h : zWE k k' with
  | false => simp only [zWE] at h; simp [h]
  | true =>
   simp only [zWE] at h;simp only [h,zZf,zzaB,zKH];rw [zZJ]; simp
 case bool.bool a b => rw [zKI,zZJ]; simp
 case string.string a b => rw [zIM,zZJ]; simp
def zKX (k : Value) : List Value->List AV->Option AV
 | k' :: ks,x :: vs => cond (zVO k k') (some x) (zKX k ks vs)
 | _,_ => none
theorem zHj (k : Value) : ∀ (ks : List Value) (vs : List AV),zKX k ks vs = zE9 k ks vs
 | k' :: ks,x :: vs => by
  simp only [zKX,zE9,zL9,zHj k ks vs];cases kEq k k' <;> rfl
 | [],_ => by simp [zKX,zE9]
 | _ :: _,[] => by simp [zKX,zE9]
def zVP (g : Nat->Option HO) (kd : KD) (m k x : AV) : Rt := match m,k with
 | .om r ver,.v k => match g r with
  | some (.map ver' ks vs) => gB (Nat.beq ver ver' && (ks.all (fun k' => kCmp k k' && !zVO k k') && (kIs kd k && x.cl))) .any (.set r (.map ver (ks ++ [k]) (vs ++ [x])))
  | _ => none
 | _,_ => none
theorem zQ8 {kd : KD} {m k x : AV} {H : zB} : zEP (zVP (fun r => H[r]?) kd m k x) (rIns kd m k x H) H := by
 intro y u h;unfold zVP at h;split at h
 ·split at h
  ·rename_i hg;obtain ⟨h1,h2,h3⟩ := zBR h;simp only [zYA,zYR,zZe,zL9,zZi] at h1;obtain ⟨c1,c2,c3,c4⟩ := h1;simp only [rIns,hg];exact ⟨⟨c1,c2,c3,c4⟩,h2,by rw [<- h3]; rfl⟩
  ·cases h
 ·cases h
def zQa (kd : KD) (zero : AV) (ok : Bool) (k : Value) (ks : List Value) (vs : List AV) (b : Bool) : Rt :=
 gB (b && (ks.all (fun k' => kCmp k k') && kIs kd k)) (lookV zero ok (zKX k ks vs)) .keep
def zOO (g : Nat->Option HO) (kd : KD) (zero : AV) (ok : Bool) (m k : AV) : Rt := match m,k with
 | .mp ks vs,.v k => zQa kd zero ok k ks vs true
 | .om r ver,.v k => match g r with
  | some (.map ver' ks vs) => zQa kd zero ok k ks vs (Nat.beq ver ver')
  | _ => none
 | _,_ => none
theorem zON {kd : KD} {zero : AV} {ok : Bool} {m k : AV} {H : zB} : zEP (zOO (fun r => H[r]?) kd zero ok m k) (rLook kd zero ok m k H) H := by
 intro y u h;unfold zOO at h;split at h
 ·obtain ⟨h1,h2,h3⟩ := zBR h;simp only [zYA,zYR,zzaB] at h1;simp only [rLook,rLookN];exact ⟨⟨h1.1,h1.2⟩,by rw [<- h2,zHj],by rw [<- h3]; rfl⟩
 ·split at h
  ·rename_i hg;obtain ⟨h1,h2,h3⟩ := zBR h;simp only [zYA,zYR,zZe] at h1;simp only [rLook,hg,rLookN,Res.also];exact ⟨by simp only [h1.1,h1.2.2,true_and,and_true]; exact h1.2.1,by rw [<- h2,zHj],by rw [<- h3]; rfl⟩
  ·cases h
 ·cases h
def zFn (g : Nat->Option HO) (t n : Nat) (s x : AV) : Rt := match x with
 | .v (.string y) => match s with
  | .os r ver 0 len => match g r with
   | some (.barr t' ver' l) => gB (Nat.beq ver ver' && (Nat.beq t t' && (Nat.beq len l.length && Nat.ble (len + (bs y).length) 140737488355328))) (.os r (ver + 1) 0 (len + (bs y).length)) (.set r (.barr t (ver + 1) (l ++ bs y)))
   | _ => none
  | .v (.slice none 0 0) => match bs y with
   | [] => some (zAl,.keep)
   | b :: l => gB (Nat.ble (l.length + 1) 140737488355328) (.os n 0 0 (l.length + 1)) (.push (.barr t 0 (b :: l)))
  | _ => none
 | _ => none
theorem zI9 {t : TypeId} {s x : AV} {H : zB} : zEP (zFn (fun r => H[r]?) t H.length s x) (zCG t s x H) H := by
 intro y u h;unfold zFn at h;split at h
 ·split at h
  ·split at h
   ·rename_i hg;obtain ⟨h1,h2,h3⟩ := zBR h;simp only [zYA,zZe,zZN] at h1;simp only [zCG,zB8,hg,zB9];exact ⟨h1,h2,by rw [<- h3]; rfl⟩
   ·cases h
  ·split at h
   ·rename_i hb;simp only [zYq,zYS] at h;simp only [zCG,zB8,zB7,hb,if_true];exact ⟨trivial,h.1,by rw [<- h.2]; rfl⟩
   ·rename_i b l hb;obtain ⟨h1,h2,h3⟩ := zBR h;simp only [zZN] at h1;simp only [zCG,zB8,zB7,hb,reduceCtorEq,if_false,zYs];exact ⟨h1,h2,by rw [<- h3]; rfl⟩
  ·cases h
 ·cases h
def opV (op : LOp) (e : Nat->AV) (g : Nat->Option HO) (n : Nat) : Rt :=
 match op with
 | .mv x => some (evX e x,.keep)
 | .alloc zs => gB (c1s zs) (.ptr n 0 0) (.push (.box zs))
 | .box imm x => zW5 imm n (evX e x)
 | .build zs ps => match zKZ zs (ps.map fun (o,n,x) => (o,n,evX e x)) with | some r => some (.agg r,.keep) | none => none
 | .bsl imm sz len zs ps => zVR imm sz len n zs (ps.map fun (i,x) => (i,evX e x))
 | .load ag n p => zI5 ag n g (evX e p)
 | .loadb ag n p => zL8 ag n g (evX e p)
 | .store n p x => zGy n g (evX e p) (evX e x)
 | .nilchk x => zP9 g (evX e x)
 | .bin kd op x y => match zVS kd op (evX e x) (evX e y) with | some z => some (z,.keep) | none => none
 | .not x => match evX e x with | .v (.bool b) => some (bool (!b),.keep) | _ => none
 | .neg x => match evX e x with | .v (.int k n) => fI (zHf k (0 - n)) fun n => some (.v (.int k n),.keep) | _ => none
 | .conv c x => zOR g c (evX e x)
 | .mkfn f a b => some (.fn f (a.map (evX e)) (b.map (evX e)),.keep)
 | .msl sz bytes zs len cap => zVK sz bytes n zs (evX e len) (evX e cap)
 | .slice lk n x lo hi => zGz g lk n (evX e x) (lo.map (evX e)) (hi.map (evX e))
 | .slicev lk n x lo hi => zI4 g lk n (evX e x) (lo.map (evX e)) (hi.map (evX e))
 | .faddr off p => zH5 g off (evX e p)
 | .faddrb off p => zI8 g off (evX e p)
 | .fld ag off n x => zW2 ag off n (evX e x)
 | .iaddr sz x i => zH1 g sz (evX e x) (evX e i)
 | .iaddrv sz x i => zI6 g sz (evX e x) (evX e i)
 | .min2 x y => zVL (evX e x) (evX e y)
 | .max2 x y => zVM (evX e x) (evX e y)
 | .max3 x y z => zOM (evX e x) (evX e y) (evX e z)
 | .idx x i => zVQ (evX e x) (evX e i)
 | .ext x i => zW3 (evX e x) i
 | .len lk x => zVN g lk (evX e x)
 | .append sz bytes s x => zHl g sz bytes n (evX e s) (evX e x)
 | .frz x => zSN g (evX e x)
 | .frzf sz off x => zMa g sz off (evX e x)
 | .own sz x => match evX e x with | .v (.slice none 0 0) => gB (Nat.blt 0 sz) (.os n 0 0 0) (.push (.arr 0 sz [])) | _ => none
 | .mkmap => some (.om n 0,.push (.map 0 [] []))
 | .ins kd m k x => zVP g kd (evX e m) (zKt (evX e k)) (evX e x)
 | .look kd zero ok m k => zOO g kd zero ok (evX e m) (zKt (evX e k))
 | .allocb t zs => gB (zFb (zs.headD .any) && c1s zs) (.ptr n 0 0) (.push (.box (.bnil t :: zs.drop 1)))
 | .appendb t s x => zFn g t n (evX e s) (evX e x)
 | .stchk n p x => zJW n g (evX e p) (evX e x)
 | _ => none
theorem zQr {op : LOp} {e : Env} {H : zB} : zEP (opV op e (fun r => H[r]?) H.length) (zBb op e H) H := by
 have hev : evX e = ev e := by funext x; cases x <;> rfl
 intro y u h;unfold opV at h;simp only [hev] at h;cases op <;> simp only at h <;> first | (cases h; done) | skip
 case mv x => simp only [zYq,zYS] at h; exact ⟨trivial,h.1,by rw [<- h.2]; rfl⟩
 case alloc zs => obtain ⟨h1,h2,h3⟩ := zBR h; exact ⟨h1,h2,by rw [<- h3]; rfl⟩
 case box imm x => exact zRd _ _ h
 case mkmap => simp only [zYq,zYS] at h; exact ⟨trivial,h.1,by rw [<- h.2]; rfl⟩
 case ins kd m k x => exact zQ8 _ _ h
 case look kd zero ok m k => exact zON _ _ h
 case allocb t zs =>
  obtain ⟨h1,h2,h3⟩ := zBR h;simp only [zYA] at h1;exact ⟨h1,h2,by rw [<- h3]; rfl⟩
 case appendb t s x => exact zI9 _ _ h
 case build zs ps =>
  split at h
  ·rename_i r hr;obtain ⟨h1,h2⟩ := zJY hr;simp only [zYq,zYS] at h;exact ⟨h1,by rw [<- h.1,<- h2]; rfl,by rw [<- h.2]; rfl⟩
  ·cases h
 case bsl imm sz len zs ps => exact zRc _ _ h
 case load ag n p => exact zHk _ _ h
 case loadb ag n p => exact zL7 _ _ h
 case faddrb off p => exact zK0 _ _ h
 case iaddrv sz x i => exact zKY _ _ h
 case min2 x z => exact zQ5 _ _ h
 case max2 x z => exact zQ6 _ _ h
 case max3 x y z => exact zOL _ _ h
 case store n p x => exact zHZ _ _ h
 case nilchk x => exact zQ3 _ _ h
 case bin kd op x z =>
  split at h
  ·rename_i r hr;simp only [zYq,zYS] at h;obtain ⟨h1,h2,h3⟩ := zRe H hr;exact ⟨h1,by rw [<- h.1]; exact h2,by rw [<- h.2]; exact h3⟩
  ·cases h
 case not x =>
  split at h
  ·rename_i b hb;simp only [zYq,zYS] at h;simp only [zBb,hb,rNot];exact ⟨trivial,h.1,by rw [<- h.2]; rfl⟩
  ·cases h
 case neg x =>
  split at h
  ·rename_i k n hb;simp only [zSm,zHe,zYq,zYS] at h;simp only [zBb,hb,rNeg];exact ⟨trivial,h.1,by rw [<- h.2]; rfl⟩
  ·cases h
 case stchk n p x => exact zL6 _ _ h
 case conv c x => exact zOQ _ _ h
 case mkfn f a b => simp only [zYq,zYS] at h; exact ⟨trivial,h.1,by rw [<- h.2]; rfl⟩
 case msl sz bytes zs len cap => exact zQ4 _ _ h
 case slice lk n x lo hi => exact zFI _ _ h
 case slicev lk n x lo hi => exact zKW _ _ h
 case faddr off p => exact zH4 _ _ h
 case fld ag off n x => exact zRa _ _ h
 case iaddr sz x i => exact zH0 _ _ h
 case idx x i => exact zQ9 _ _ h
 case ext x i => exact zRb _ _ h
 case len lk x => exact zQ7 _ _ h
 case append sz bytes s x => exact zK1 _ _ h
 case frz x => exact zI7 _ _ h
 case frzf sz off x => exact zOP _ _ h
 case own sz x =>
  split at h
  ·rename_i hb;obtain ⟨h1,h2,h3⟩ := zBR h;simp only [zZG] at h1;simp only [zBb,hb,rOwn];exact ⟨h1,h2,by rw [<- h3]; rfl⟩
  ·cases h
section
variable {P : Program} {R : Type}
structure Seal where
 lo : Nat
 H0 : zB
noncomputable def loT (t : Tr HO) : Nat := match t.get .dead 1000001 with
 | .arr v _ _ => v
 | _ => 0
structure RH (z : Seal) (t : Tr HO) (n : Nat) (H : zB) : Prop where
 len : H.length = n
 get : ∀ r,r < n → H[r]? = some (t.get .dead r)
 lo : loT t = z.lo
 le : z.lo ≤ n
 low : ∀ r,r < z.lo → H[r]? = z.H0[r]?
variable {z : Seal}
noncomputable def gT (t : Tr HO) (n r : Nat) : Option HO := cond (Nat.blt r n) (some (t.get .dead r)) none
theorem zPK {t : Tr HO} {n : Nat} {H : zB} (h : RH z t n H) : gT t n = fun r => H[r]? := by
 funext r
 unfold gT
 cases hb : Nat.blt r n
 ·have : ¬ r < n := fun hh => by
   have := (zZG (x := r) (y := n)).symm ▸ hh
   rw [hb] at this; cases this
  rw [cond_false,zZu (by rw [h.len]; omega)]
 ·rw [zZf]
  simp only [zZG] at hb
  exact (h.get r hb).symm
abbrev KT (R : Type) := Tr HO → Nat → Option R
noncomputable def upS (r : Nat) (o : HO) (t : Tr HO) (n : Nat) (k : KT R) : Option R := cond (Nat.blt r n && Nat.blt n 1000000 && Nat.ble (loT t) r) (Tr.setK .dead o 30 r t fun t => k t n) none
noncomputable def upK (u : Up) (t : Tr HO) (n : Nat) (k : KT R) : Option R :=
 match u with
 | .keep => k t n
 | .set r o => upS r o t n k
 | .set2 r o r' o' => upS r o t n fun t n => upS r' o' t n k
 | .push o => cond (Nat.blt n 1000000) (Tr.setK .dead o 30 n t fun t => fN (n + 1) fun n => k t n) none
theorem zJn : 2 ^ 30 = 1073741824 := by decide
theorem zNp {t : Tr HO} {o : HO} {i : Nat} (h : i < 1000001) : loT (t.set .dead o 30 i) = loT t := by
 unfold loT
 rw [Tr.get_set _ _ _ _ _ _ (by rw [zJn]; omega),if_neg (by omega)]
theorem zMc {i : Nat} {o : HO} {t : Tr HO} {n : Nat} {H : zB} {k : KT R} {r : R} (h : upS i o t n k = some r) (hr : RH z t n H) : ∃ t',RH z t' n (H.set i o) ∧ k t' n = some r := by
 unfold upS at h
 cases hb : (Nat.blt i n && Nat.blt n 1000000 && Nat.ble (loT t) i) <;> rw [hb] at h
 ·cases h
 ·simp only [zYA,zZG,zZN] at hb
  have hlo := hr.lo
  rw [zZf,Tr.setK_eq] at h
  refine ⟨_,⟨by simp [hr.len],fun j hj => ?_,(zNp (by omega)).trans hlo,hr.le,fun j hj => by rw [zYL (by omega)]; exact hr.low j hj⟩,h⟩
  rw [Tr.get_set _ _ _ _ _ _ (by rw [zJn]; omega)]
  by_cases hij : j = i
  ·subst hij; rw [if_pos rfl,zYU (by rw [hr.len]; omega)]
  ·rw [if_neg hij,zYL (fun e => hij e.symm)]; exact hr.get j hj
theorem zTI {u : Up} {t : Tr HO} {n : Nat} {H : zB} {k : KT R} {r : R} (h : upK u t n k = some r) (hr : RH z t n H) : ∃ t' n',RH z t' n' (u.app H) ∧ k t' n' = some r := by
 unfold upK at h
 split at h
 ·exact ⟨t,n,hr,h⟩
 ·obtain ⟨t',h1,h2⟩ := zMc h hr
  exact ⟨t',n,h1,h2⟩
 ·obtain ⟨t',h1,h2⟩ := zMc h hr
  obtain ⟨t2,h3,h4⟩ := zMc h2 h1
  exact ⟨t2,n,h3,h4⟩
 ·rename_i o
  cases hb : Nat.blt n 1000000 <;> rw [hb] at h
  ·cases h
  ·simp only [zZG] at hb
   rw [zZf,Tr.setK_eq,zE4] at h
   refine ⟨_,_,⟨by simp [Up.app,hr.len],fun j hj => ?_,(zNp (by omega)).trans hr.lo,by have := hr.le; omega,fun j hj => by simp only [Up.app]; rw [zYD (by have := hr.le; have := hr.len; omega)]; exact hr.low j hj⟩,h⟩
   rw [Tr.get_set _ _ _ _ _ _ (by rw [zJn]; omega)]
   simp only [Up.app]
   by_cases hij : j = n
   ·subst hij; rw [if_pos rfl,← hr.len]; simp
   ·rw [if_neg hij,zYD (by rw [hr.len]; omega)]; exact hr.get j (by omega)
noncomputable def zPc (t : Tr HO) (n : Nat) (k : Tr HO → Option R) : Option R := cond (Nat.blt n 1000000) (Tr.setK .dead (.arr n 0 []) 30 1000001 t k) none
theorem zPb {t : Tr HO} {n : Nat} {H : zB} {k : Tr HO → Option R} {r : R} (h : zPc t n k = some r) (hr : RH z t n H) : ∃ t',RH ⟨n,H⟩ t' n H ∧ k t' = some r := by
 unfold zPc at h
 cases hb : Nat.blt n 1000000 <;> rw [hb] at h
 ·cases h
 ·simp only [zZG] at hb
  rw [zZf,Tr.setK_eq] at h
  refine ⟨_,⟨hr.len,fun r hlt => ?_,?_,zYH _,fun r _ => rfl⟩,h⟩
  ·rw [Tr.get_set _ _ _ _ _ _ (by rw [zJn]; omega),if_neg (by omega)]; exact hr.get r hlt
  ·unfold loT; rw [Tr.get_set _ _ _ _ _ _ (by rw [zJn]; omega),if_pos rfl]
noncomputable def eT (e : Tr AV) : Env := fun s => e.get .any s
noncomputable def zHU (d : Option Nat) (x : AV) (e : Tr AV) (k : Tr AV → Option R) : Option R :=
 match d with
 | none => k e
 | some d => cond (Nat.blt d 1000000) (Tr.setK .any x 30 d e k) none
theorem zHo {d : Option Nat} {x : AV} {e : Tr AV} {k : Tr AV → Option R} {r : R} (h : zHU d x e k = some r) : ∃ e',eT e' = ups (eT e) d x ∧ k e' = some r := by
 unfold zHU at h
 split at h
 ·exact ⟨e,rfl,h⟩
 ·rename_i d
  cases hb : Nat.blt d 1000000 <;> rw [hb] at h
  ·cases h
  ·simp only [zZG] at hb
   rw [zZf,Tr.setK_eq] at h
   refine ⟨_,?_,h⟩
   funext s
   simp only [eT,ups,up]
   rw [Tr.get_set _ _ _ _ _ _ (by rw [zJn]; omega)]
noncomputable def evT (e : Tr AV) (x : LX) : AV := match x with | .t n => e.get .any n | .c a => a
theorem zCw (e : Tr AV) (x : LX) : evT e x = ev (eT e) x := by cases x <;> rfl
theorem zHH (e : Tr AV) (l : List LX) : l.map (evT e) = l.map (ev (eT e)) := zzae fun x _ => zCw e x
abbrev Kv (R : Type) := AV → Tr HO → Nat → Option R
abbrev Ca (R : Type) := FuncId → List AV → Tr HO → Nat → Kv R → Option R
def zOw (P : Program) (ca : Ca R) : Prop := ∀ z f args t n k r H,ca f args t n k = some r → RH z t n H → ∃ x t' n' H',RH z t' n' H' ∧ k x t' n' = some r ∧ ∀ K : AV → zB → Prop,K x H' → ACall P f args H K
noncomputable def zPT (ca : Ca R) (op : LOp) (e : Tr AV) (t : Tr HO) (n : Nat) (k : Kv R) : Option R :=
 match op with
 | .call f args => match evT e f with
  | .fn (.func g) a b => ca g (a ++ args.map (evT e) ++ b) t n k
  | _ => none
 | .callh f args => match evT e f with
  | .fn (.func g) a b => ca g (a ++ args.map (evT e) ++ b) t n k
  | _ => none
 | .pick c a b => match evT e c with
  | .v (.bool v) => cond v (k (evT e a) t n) (k (evT e b) t n)
  | _ => none
 | .isnil neg x => match evT e x with
  | .v (.slice none 0 0) => k (bool (!neg)) t n
  | .sl _ (_ :: _) => k (bool neg) t n
  | .os r ver _ (len + 1) => match gT t n r with
   | some (.arr v _ _) => cond (Nat.beq ver v) (k (bool neg) t n) none
   | _ => none
  | _ => none
 | .nextm _ => none
 | op => match opV op (fun s => e.get .any s) (gT t n) n with
  | some (x,u) => upK u t n fun t n => k x t n
  | none => none
theorem zSn {ca : Ca R} (hc : zOw P ca) {op : LOp} {e : Tr AV} {t : Tr HO} {n : Nat} {k : Kv R} {r : R} {H : zB} (h : zPT ca op e t n k = some r) (hr : RH z t n H) :
  ∃ x t' n' H',RH z t' n' H' ∧ k x t' n' = some r ∧ ∀ K : AV → zB → Prop,K x H' → aop P op (eT e) H K := by
 have zCP : ∀ op' : LOp,(∀ K,aop P op' (eT e) H K = ((zBb op' (eT e) H).ok ∧ K (zBb op' (eT e) H).x (zBb op' (eT e) H).H)) → (match opV op' (fun s => e.get .any s) (gT t n) n with | some (x,u) => upK u t n fun t n => k x t n | none => none) = some r →
   ∃ x t' n' H',RH z t' n' H' ∧ k x t' n' = some r ∧ ∀ K : AV → zB → Prop,K x H' → aop P op' (eT e) H K := by
  intro op' hp h
  split at h
  ·rename_i x u hx
   rw [zPK hr,← hr.len] at hx
   obtain ⟨h1,h2,h3⟩ := zQr _ _ hx
   obtain ⟨t',n',g1,g2⟩ := zTI h hr
   refine ⟨x,t',n',_,g1,g2,fun K hK => ?_⟩
   rw [hp]
   have h1' : (zBb op' (eT e) H).ok := h1
   have h2' : (zBb op' (eT e) H).x = x := h2
   have h3' : (zBb op' (eT e) H).H = u.app H := h3
   exact ⟨h1',by rw [h2',h3']; exact hK⟩
  ·cases h
 cases op
 case call f args =>
  simp only [zPT] at h
  split at h
  ·rename_i g a b hf
   obtain ⟨x,t',n',H',h1,h2,h3⟩ := hc _ _ _ _ _ _ _ H h hr
   refine ⟨x,t',n',H',h1,h2,fun K hK => ?_⟩
   rw [zCw] at hf
   rw [zHH] at h3
   simp only [aop,hf,zGx]
   exact h3 K hK
  ·cases h
 case callh f args =>
  simp only [zPT] at h
  split at h
  ·rename_i g a b hf
   obtain ⟨x,t',n',H',h1,h2,h3⟩ := hc _ _ _ _ _ _ _ H h hr
   refine ⟨x,t',n',H',h1,h2,fun K hK => ?_⟩
   rw [zCw] at hf
   rw [zHH] at h3
   simp only [aop,hf,zGx]
   exact h3 K hK
  ·cases h
 case pick c a b =>
  simp only [zPT] at h
  split at h
  ·rename_i v hv
   rw [zCw] at hv
   cases v with
   | true =>
    refine ⟨_,t,n,H,hr,h,fun K hK => ?_⟩
    simp only [aop,hv,if_true]
    rw [← zCw]; exact hK
   | false =>
    refine ⟨_,t,n,H,hr,h,fun K hK => ?_⟩
    simp only [aop,hv,zYM,if_false]
    rw [← zCw]; exact hK
  ·cases h
 case nextm => cases h
 case isnil neg x =>
  simp only [zPT] at h
  split at h
  ·rename_i hx
   rw [zCw] at hx
   refine ⟨_,t,n,H,hr,h,fun K hK => ?_⟩
   simp only [aop,hx]
   refine ⟨trivial,fun b hb => ?_⟩
   have hb : b = true := hb
   subst hb
   simpa using hK
  ·rename_i hx
   rw [zCw] at hx
   refine ⟨_,t,n,H,hr,h,fun K hK => ?_⟩
   simp only [aop,hx]
   refine ⟨trivial,fun b hb => ?_⟩
   cases b with
   | true => exact absurd (hb rfl) (by simp)
   | false => simpa using hK
  ·rename_i i ver off len hx
   rw [zCw] at hx
   split at h
   ·rename_i v sz xs hg
    rw [zPK hr] at hg
    cases hb : Nat.beq ver v <;> rw [hb] at h
    ·cases h
    ·have hv := zZo hb
     refine ⟨_,t,n,H,hr,h,fun K hK => ?_⟩
     simp only [aop,hx,slcK]
     have hg' : H[i]? = some (.arr v sz xs) := hg
     rw [hg']
     refine ⟨⟨trivial,hv⟩,fun b hb => ?_⟩
     cases b with
     | true => exact absurd (hb rfl) (by simp)
     | false => simpa using hK
   ·cases h
  ·cases h
 all_goals exact zCP _ (fun K => rfl) h
noncomputable def zEc (ca : Ca R) : List LO → Tr AV → Tr HO → Nat → (Tr AV → KT R) → Option R
 | [],e,t,n,k => k e t n
 | o :: l,e,t,n,k =>
  match o.g with
  | none => zPT ca o.op e t n fun x t n => zHU o.d x e fun e => zEc ca l e t n k
  | some (s,want) => match e.get .any s with
   | .v (.bool b) => cond (eqB b want) (zPT ca o.op e t n fun x t n => zHU o.d x e fun e => zEc ca l e t n k) (zHU o.d zAu e fun e => zEc ca l e t n k)
   | .v (.tuple _) => zHU o.d zAu e fun e => zEc ca l e t n k
   | _ => none
theorem zD5 {ca : Ca R} (hc : zOw P ca) : ∀ {l : List LO} {e : Tr AV} {t : Tr HO} {n : Nat} {k : Tr AV → KT R} {r : R} {H : zB},zEc ca l e t n k = some r → RH z t n H →
  ∃ e' t' n' H',RH z t' n' H' ∧ k e' t' n' = some r ∧ ∀ K : Env → zB → Prop,K (eT e') H' → zAD P l (eT e) H K
 | [],e,t,n,k,r,H,h,hr => ⟨e,t,n,H,hr,h,fun K hK => hK⟩
 | o :: l,e,t,n,k,r,H,h,hr => by
  have yes : (zPT ca o.op e t n fun x t n => zHU o.d x e fun e => zEc ca l e t n k) = some r →
    ∃ e' t' n' H',RH z t' n' H' ∧ k e' t' n' = some r ∧ ∀ K : Env → zB → Prop,K (eT e') H' → aop P o.op (eT e) H fun x H' => zAD P l (ups (eT e) o.d x) H' K := by
   intro h
   obtain ⟨x,t1,n1,H1,r1,h1,f1⟩ := zSn hc h hr
   obtain ⟨e1,he1,h2⟩ := zHo h1
   obtain ⟨e',t',n',H',r2,h3,f2⟩ := zD5 hc h2 r1
   exact ⟨e',t',n',H',r2,h3,fun K hK => f1 _ (by rw [← he1]; exact f2 K hK)⟩
  have no : (zHU o.d zAu e fun e => zEc ca l e t n k) = some r → ∃ e' t' n' H',RH z t' n' H' ∧ k e' t' n' = some r ∧ ∀ K : Env → zB → Prop,K (eT e') H' → zAD P l (ups (eT e) o.d zAu) H K := by
   intro h
   obtain ⟨e1,he1,h2⟩ := zHo h
   obtain ⟨e',t',n',H',r2,h3,f2⟩ := zD5 hc h2 hr
   exact ⟨e',t',n',H',r2,h3,fun K hK => by rw [← he1]; exact f2 K hK⟩
  simp only [zEc] at h
  split at h
  ·rename_i hg
   obtain ⟨e',t',n',H',r2,h3,f⟩ := yes h
   exact ⟨e',t',n',H',r2,h3,fun K hK => by simp only [zAD,hg]; exact f K hK⟩
  ·rename_i s want hg
   split at h
   ·rename_i b hb
    have hb' : eT e s = bool b := hb
    have hu : up (eT e) s (bool b) = eT e := zK2 hb'
    cases b <;> cases want <;> simp only [eqB,zZf,cond_false] at h
    ·obtain ⟨e',t',n',H',r2,h3,f⟩ := yes h
     exact ⟨e',t',n',H',r2,h3,fun K hK => by simp only [zAD,hg,hb',zYM,if_false,hu]; exact f K hK⟩
    ·obtain ⟨e',t',n',H',r2,h3,f⟩ := no h
     exact ⟨e',t',n',H',r2,h3,fun K hK => by simp only [zAD,hg,hb',zYM,if_false,if_true,hu]; exact f K hK⟩
    ·obtain ⟨e',t',n',H',r2,h3,f⟩ := no h
     exact ⟨e',t',n',H',r2,h3,fun K hK => by simp only [zAD,hg,hb',zYM,if_false,if_true,hu]; exact f K hK⟩
    ·obtain ⟨e',t',n',H',r2,h3,f⟩ := yes h
     exact ⟨e',t',n',H',r2,h3,fun K hK => by simp only [zAD,hg,hb',if_true,hu]; exact f K hK⟩
   ·rename_i us hb
    have hb' : eT e s = .v (.tuple us) := hb
    obtain ⟨e',t',n',H',r2,h3,f⟩ := no h
    exact ⟨e',t',n',H',r2,h3,fun K hK => by simp only [zAD,hg,hb']; exact f K hK⟩
   ·cases h
noncomputable def zIL (ca : Ca R) (op : LOp) (e : Tr AV) (t : Tr HO) (n : Nat) (k : AV → Option R) : Option R :=
 match op with
 | .call f args => match evT e f with
  | .fn (.func g) a b => cond ((a ++ args.map (evT e) ++ b).all cl2) (ca g (a ++ args.map (evT e) ++ b) .leaf 0 fun x _ _ => cond (cl2 x) (k x) none) none
  | _ => none
 | .callh f args => match evT e f with
  | .fn (.func g) a b => zPc t n fun t' => ca g (a ++ args.map (evT e) ++ b) t' n fun x _ _ => cond (cl2 x) (k x) none
  | _ => none
 | .pick c a b => match evT e c with
  | .v (.bool v) => cond v (k (evT e a)) (k (evT e b))
  | _ => none
 | .isnil _ _ => none
 | .rangem _ => none
 | .nextm _ => none
 | .entrym _ => none
 | .frz _ => none
 | .own _ _ => none
 | .frzf _ _ _ => none
 | op => match opV op (fun s => e.get .any s) (gT t n) n with
  | some (x,.keep) => k x
  | _ => none
theorem zQk : RH ⟨0,[]⟩ .leaf 0 [] := ⟨rfl,fun r hr => by omega,by simp [loT,Tr.get_leaf],zYH _,fun r hr => by simp at hr⟩
theorem zN8 : ∀ {l : List AV},l.all cl2 = true → clL l = true
 | [],_ => by simp [clL]
 | x :: l,h => by
  simp only [zzaA,zYA] at h
  simp only [clL,zYA]
  exact ⟨zN7 h.1,zN8 h.2⟩
theorem zPR {ca : Ca R} (hc : zOw P ca) {op : LOp} {e : Tr AV} {t : Tr HO} {n : Nat} {k : AV → Option R} {r : R} {H : zB} (h : zIL ca op e t n k = some r) (hr : RH z t n H) :
  ∃ x,k x = some r ∧ ∀ K : AV → Prop,K x → zDc P op (eT e) H K := by
 have zCP : ∀ op' : LOp,(∀ K,zDc P op' (eT e) H K = ((zBb op' (eT e) H).ok ∧ (zBb op' (eT e) H).H = H ∧ K (zBb op' (eT e) H).x)) → (match opV op' (fun s => e.get .any s) (gT t n) n with | some (x,.keep) => k x | _ => none) = some r →
   ∃ x,k x = some r ∧ ∀ K : AV → Prop,K x → zDc P op' (eT e) H K := by
  intro op' hp h
  split at h
  ·rename_i x hx
   rw [zPK hr,← hr.len] at hx
   obtain ⟨h1,h2,h3⟩ := zQr _ _ hx
   refine ⟨x,h,fun K hK => ?_⟩
   rw [hp]
   have h1' : (zBb op' (eT e) H).ok := h1
   have h2' : (zBb op' (eT e) H).x = x := h2
   have h3' : (zBb op' (eT e) H).H = H := h3
   exact ⟨h1',h3',by rw [h2']; exact hK⟩
  ·cases h
 cases op
 case call f args =>
  simp only [zIL] at h
  split at h
  ·rename_i g a b hf
   cases hb : (a ++ args.map (evT e) ++ b).all cl2 <;> rw [hb] at h
   ·cases h
   ·rw [zZf] at h
    obtain ⟨x,t',n',H',h1,h2,h3⟩ := hc _ _ _ _ _ _ _ [] h zQk
    cases hx : cl2 x <;> rw [hx] at h2
    ·cases h2
    ·refine ⟨x,h2,fun K hK => ?_⟩
     rw [zCw] at hf
     rw [zHH] at h3 hb
     simp only [zDc,hf]
     refine ⟨x,?_,zN8 hb,hK⟩
     exact ACall.drop (R := fun y => y = x) (h3 _ ⟨rfl,zN7 hx,H',rfl⟩)
  ·cases h
 case callh f args =>
  simp only [zIL] at h
  split at h
  ·rename_i g a b hf
   obtain ⟨t1,hr1,h⟩ := zPb h hr
   obtain ⟨x,t',n',H',h1,h2,h3⟩ := hc _ _ _ _ _ _ _ H h hr1
   cases hx : cl2 x <;> rw [hx] at h2
   ·cases h2
   ·refine ⟨x,h2,fun K hK => ?_⟩
    rw [zCw] at hf
    rw [zHH] at h3
    simp only [zDc,hf]
    have hlen := h1.le
    obtain ⟨rest,rfl⟩ : ∃ rest,H' = H ++ rest := by
     refine ⟨H'.drop n,zzad fun i => ?_⟩
     have hl := hr.len
     have hl' := h1.len
     simp only at hlen
     by_cases hi : i < n
     ·rw [zYD (by omega)]; exact h1.low i hi
     ·rw [zYz (by omega),zZh]
      congr 1
      omega
    exact ⟨x,ACall.drop (R := fun y => y = x) (h3 _ ⟨rfl,zN7 hx,rest,rfl⟩),hK⟩
  ·cases h
 case pick c a b =>
  simp only [zIL] at h
  split at h
  ·rename_i v hv
   rw [zCw] at hv
   cases v with
   | true =>
    refine ⟨_,h,fun K hK => ?_⟩
    simp only [zDc,hv,if_true]
    rw [← zCw]; exact hK
   | false =>
    refine ⟨_,h,fun K hK => ?_⟩
    simp only [zDc,hv,zYM,if_false]
    rw [← zCw]; exact hK
  ·cases h
 case isnil => cases h
 case rangem => cases h
 case nextm => cases h
 case entrym => cases h
 case frz => cases h
 case own => cases h
 case frzf => cases h
 all_goals exact zCP _ (fun K => rfl) h
noncomputable def zCe (ca : Ca R) : List LO → Tr AV → Tr HO → Nat → (Tr AV → Option R) → Option R
 | [],e,t,n,k => k e
 | o :: l,e,t,n,k =>
  match o.g with
  | none => zIL ca o.op e t n fun x => zHU o.d x e fun e => zCe ca l e t n k
  | some (s,want) => match e.get .any s with
   | .v (.bool b) => cond (eqB b want) (zIL ca o.op e t n fun x => zHU o.d x e fun e => zCe ca l e t n k) (zHU o.d zAu e fun e => zCe ca l e t n k)
   | .v (.tuple _) => zHU o.d zAu e fun e => zCe ca l e t n k
   | _ => none
theorem zDO {ca : Ca R} (hc : zOw P ca) : ∀ {l : List LO} {e : Tr AV} {t : Tr HO} {n : Nat} {k : Tr AV → Option R} {r : R} {H : zB},zCe ca l e t n k = some r → RH z t n H →
  ∃ e',k e' = some r ∧ ∀ K : Env → Prop,K (eT e') → zAR P l (eT e) H K
 | [],e,t,n,k,r,H,h,hr => ⟨e,h,fun K hK => hK⟩
 | o :: l,e,t,n,k,r,H,h,hr => by
  have yes : (zIL ca o.op e t n fun x => zHU o.d x e fun e => zCe ca l e t n k) = some r →
    ∃ e',k e' = some r ∧ ∀ K : Env → Prop,K (eT e') → zDc P o.op (eT e) H fun x => zAR P l (ups (eT e) o.d x) H K := by
   intro h
   obtain ⟨x,h1,f1⟩ := zPR hc h hr
   obtain ⟨e1,he1,h2⟩ := zHo h1
   obtain ⟨e',h3,f2⟩ := zDO hc h2 hr
   exact ⟨e',h3,fun K hK => f1 _ (by rw [← he1]; exact f2 K hK)⟩
  have no : (zHU o.d zAu e fun e => zCe ca l e t n k) = some r → ∃ e',k e' = some r ∧ ∀ K : Env → Prop,K (eT e') → zAR P l (ups (eT e) o.d zAu) H K := by
   intro h
   obtain ⟨e1,he1,h2⟩ := zHo h
   obtain ⟨e',h3,f2⟩ := zDO hc h2 hr
   exact ⟨e',h3,fun K hK => by rw [← he1]; exact f2 K hK⟩
  simp only [zCe] at h
  split at h
  ·rename_i hg
   obtain ⟨e',h3,f⟩ := yes h
   exact ⟨e',h3,fun K hK => by simp only [zAR,hg]; exact f K hK⟩
  ·rename_i s want hg
   split at h
   ·rename_i b hb
    have hb' : eT e s = bool b := hb
    have hu : up (eT e) s (bool b) = eT e := zK2 hb'
    cases b <;> cases want <;> simp only [eqB,zZf,cond_false] at h
    ·obtain ⟨e',h3,f⟩ := yes h
     exact ⟨e',h3,fun K hK => by simp only [zAR,hg,hb',zYM,if_false,hu]; exact f K hK⟩
    ·obtain ⟨e',h3,f⟩ := no h
     exact ⟨e',h3,fun K hK => by simp only [zAR,hg,hb',zYM,if_false,if_true,hu]; exact f K hK⟩
    ·obtain ⟨e',h3,f⟩ := no h
     exact ⟨e',h3,fun K hK => by simp only [zAR,hg,hb',zYM,if_false,if_true,hu]; exact f K hK⟩
    ·obtain ⟨e',h3,f⟩ := yes h
     exact ⟨e',h3,fun K hK => by simp only [zAR,hg,hb',if_true,hu]; exact f K hK⟩
   ·rename_i us hb
    have hb' : eT e s = .v (.tuple us) := hb
    obtain ⟨e',h3,f⟩ := no h
    exact ⟨e',h3,fun K hK => by simp only [zAR,hg,hb']; exact f K hK⟩
   ·cases h
def zSs : Value → Value → Bool
 | .int k a,.int k' b => eqK k k' && eqI a b
 | .bool a,.bool b => eqB a b
 | .string a,.string b => eqL (bs a) (bs b)
 | .slice none 0 0,.slice none 0 0 => true
 | .pointer none,.pointer none => true
 | .map none,.map none => true
 | .tuple a,.tuple b => Nat.beq a.size 0 && Nat.beq b.size 0
 | _,_ => false
theorem zPU {a b : Value} (h : zSs a b = true) : a = b := by
 unfold zSs at h
 split at h
 ·simp only [zYA,zKH,zYy] at h
  rw [zNV h.1,h.2]
 ·rw [zKI,zYy] at h; rw [h]
 ·rw [zIM,zYy] at h
  rename_i x y
  rw [← zNg x,← zNg y,h]
 ·rfl
 ·rfl
 ·rfl
 ·simp only [zYA,zZe] at h
  rw [zzaz h.1,zzaz h.2]
 ·cases h
def zGb {α : Type} (f : α → α → Bool) : List α → List α → Bool
 | [],[] => true
 | a :: l,b :: m => cond (f a b) (zGb f l m) false
 | _,_ => false
theorem zDq {α : Type} {f : α → α → Bool} (hf : ∀ a b,f a b = true → a = b) : ∀ {l m : List α},zGb f l m = true → l = m
 | [],[],_ => rfl
 | [],_ :: _,h => by cases h
 | _ :: _,[],h => by cases h
 | a :: l,b :: m,h => by
  simp only [zGb] at h
  cases hab : f a b with
  | false => rw [hab] at h; cases h
  | true =>
   rw [hab,zZf] at h
   rw [hf a b hab,zDq hf h]
def eqA : Nat → AV → AV → Bool
 | 0,_,_ => false
 | n + 1,a,b => match a,b with
  | .any,.any => true
  | .v x,.v y => zSs x y
  | .agg l,.agg m => zGb (eqA n) l m
  | .tup l,.tup m => zGb (eqA n) l m
  | .sl s l,.sl s' m => Nat.beq s s' && zGb (zGb (eqA n)) l m
  | .vp l o,.vp m o' => zGb (eqA n) l m && Nat.beq o o'
  | .os r v o l,.os r' v' o' l' => Nat.beq r r' && Nat.beq v v' && Nat.beq o o' && Nat.beq l l'
  | .ptr r v o,.ptr r' v' o' => Nat.beq r r' && Nat.beq v v' && Nat.beq o o'
  | .pe r v i o,.pe r' v' i' o' => Nat.beq r r' && Nat.beq v v' && Nat.beq i i' && Nat.beq o o'
  | .nc,.nc => true
  | _,_ => false
theorem zNX : ∀ (n : Nat) (a b : AV),eqA n a b = true → a = b
 | 0,_,_,h => by cases h
 | n + 1,a,b,h => by
  have ih := zNX n
  unfold eqA at h
  split at h
  ·rfl
  ·rw [zPU h]
  ·rw [zDq ih h]
  ·rw [zDq ih h]
  ·simp only [zYA,zZe] at h
   rw [h.1,zDq (fun _ _ hh => zDq ih hh) h.2]
  ·simp only [zYA,zZe] at h
   rw [zDq ih h.1,h.2]
  ·simp only [zYA,zZe] at h
   obtain ⟨⟨⟨rfl,rfl⟩,rfl⟩,rfl⟩ := h; rfl
  ·simp only [zYA,zZe] at h
   obtain ⟨⟨rfl,rfl⟩,rfl⟩ := h; rfl
  ·simp only [zYA,zZe] at h
   obtain ⟨⟨⟨rfl,rfl⟩,rfl⟩,rfl⟩ := h; rfl
  ·rfl
  ·cases h
noncomputable def zNT (ca : Ca R) (o : LO) (e1 : Tr AV) (t : Tr HO) (n : Nat) (k : Option R) : Option R :=
 zCe ca [o] e1 t n fun e2 => match o.d with
  | some d => cond (eqA 20 (e2.get .any d) (e1.get .any d)) k none
  | none => none
theorem zLD {ca : Ca R} (hc : zOw P ca) {o : LO} {e1 : Tr AV} {t : Tr HO} {n : Nat} {k : Option R} {r : R} {H : zB} (h : zNT ca o e1 t n k = some r) (hr : RH z t n H) : (zAR P [o] (eT e1) H fun e' => e' = eT e1) ∧ k = some r := by
 obtain ⟨e2,h1,f⟩ := zDO hc h hr
 cases hd : o.d with
 | none => rw [hd] at h1; cases h1
 | some d =>
  rw [hd] at h1
  cases hq : eqA 20 (e2.get .any d) (e1.get .any d) with
  | false => simp only [hq,cond_false] at h1; cases h1
  | true =>
   simp only [hq,zZf] at h1
   refine ⟨?_,h1⟩
   have g := f (fun e' => e' = eT e2) rfl
   have he : eT e2 = eT e1 := by
    obtain ⟨x,_,h3⟩ := zDa g
    have h3 : ups (eT e1) o.d x = eT e2 := h3
    rw [hd] at h3
    have hx : x = eT e1 d := by
     have h4 := congrFun h3 d
     rw [zBc] at h4
     rw [h4]
     exact zNX _ _ _ hq
    rw [← h3,hx]
    funext u
    simp only [ups,up]
    split
    ·rename_i hu; rw [hu]
    ·rfl
   rw [he] at g
   exact g
noncomputable def zHI (ca : Ca R) (hd : List LO) (e1 : Tr AV) (t : Tr HO) (n : Nat) : List Nat → Option R → Option R
 | [],k => k
 | j :: js,k => zNT ca (hd.getD j default) e1 t n (zHI ca hd e1 t n js k)
theorem zGY {ca : Ca R} (hc : zOw P ca) {hd : List LO} {e1 : Tr AV} {t : Tr HO} {n : Nat} {r : R} {H : zB} (hr : RH z t n H) : ∀ {js : List Nat} {k : Option R},zHI ca hd e1 t n js k = some r → zC3 P hd (eT e1) H js ∧ k = some r
 | [],k,h => ⟨fun j hj => by simp at hj,h⟩
 | j :: js,k,h => by
  obtain ⟨h1,h2⟩ := zLD hc h hr
  obtain ⟨h3,h4⟩ := zGY hc hr h2
  refine ⟨fun i hi => ?_,h4⟩
  rcases zY5.1 hi with rfl | hi
  ·exact h1
  ·exact h3 i hi
noncomputable def zVc (ca : Ca R) (hd : List LO) (e1 : Tr AV) : List (LO × List Nat) → Tr AV → Tr HO → Nat → (Tr AV → KT R) → Option R
 | [],e,t,n,k => k e t n
 | p :: l,e,t,n,k => zEc ca [p.1] e t n fun e t n => zHI ca hd e1 t n p.2 (zVc ca hd e1 l e t n k)
theorem zNQ {ca : Ca R} (hc : zOw P ca) {hd : List LO} {e1 : Tr AV} : ∀ {l : List (LO × List Nat)} {e : Tr AV} {t : Tr HO} {n : Nat} {k : Tr AV → KT R} {r : R} {H : zB},zVc ca hd e1 l e t n k = some r → RH z t n H →
  ∃ e' t' n' H',RH z t' n' H' ∧ k e' t' n' = some r ∧ ∀ K : Env → zB → Prop,K (eT e') H' → zDb P hd (eT e1) l (eT e) H K
 | [],e,t,n,k,r,H,h,hr => ⟨e,t,n,H,hr,h,fun K hK => hK⟩
 | p :: l,e,t,n,k,r,H,h,hr => by
  obtain ⟨e2,t2,n2,H2,r2,h2,f2⟩ := zD5 hc h hr
  obtain ⟨k1,k2⟩ := zGY hc r2 h2
  obtain ⟨e',t',n',H',r3,h3,f3⟩ := zNQ hc k2 r2
  exact ⟨e',t',n',H',r3,h3,fun K hK => f2 _ ⟨k1,f3 K hK⟩⟩
abbrev Ko (R : Type) := Out → Tr AV → Tr HO → Nat → Option R
abbrev Bd (R : Type) := Tr AV → Tr HO → Nat → Ko R → Option R
noncomputable def iter (body : Bd R) : Nat → Bd R
 | 0,_,_,_,_ => none
 | m + 1,e,t,n,k => body e t n fun o e t n => match o with
  | .normal => iter body m e t n k
  | o => k o e t n
noncomputable def evC (ca : Ca R) (m : Nat) (c : LCode) : Bd R :=
 LCode.rec (motive := fun _ => Bd R)
  (fun e t n k => k .normal e t n)
  (fun l e t n k => zEc ca l e t n fun e t n => k .normal e t n)
  (fun hd tl e t n k => zCe ca hd e t n fun e => zEc ca tl e t n fun e t n => k .normal e t n)
  (fun hd tl gs e t n k => zCe ca hd e t n fun e1 => zVc ca hd e1 tl e1 t n fun e t n => zEc ca gs e t n fun e t n => k .normal e t n)
  (fun _ _ iha ihb e t n k => iha e t n fun o e t n => match o with
   | .normal => ihb e t n k
   | o => k o e t n)
  (fun x _ _ iha ihb e t n k => match evT e x with
   | .v (.bool b) => cond b (iha e t n k) (ihb e t n k)
   | _ => none)
  (fun id _ ih e t n k => ih e t n fun o e t n => match o with
   | .exit j => cond (Nat.beq j id) (k .normal e t n) (k (.exit j) e t n)
   | o => k o e t n)
  (fun _ ih e t n k => iter ih m e t n k)
  (fun _ _ _ _ _ _ _ _ _ _ => none)
  (fun id e t n k => k (.exit id) e t n)
  (fun e t n k => k .ret e t n)
  (fun _ _ _ _ _ _ _ => none)
  (fun _ _ _ _ _ _ _ => none)
  (fun _ _ _ _ _ => none)
  (fun _ _ _ _ _ _ _ => none) c
def zYn (P : Program) (c : LCode) (b : Bd R) : Prop := ∀ z e t n k r H,b e t n k = some r → RH z t n H → ∃ o e' t' n' H',RH z t' n' H' ∧ k o e' t' n' = some r ∧ ∀ K : Out → Env → zB → Prop,K o (eT e') H' → awp P c (eT e) H K
open Classical in
theorem zNo {c : LCode} {e e1 : Env} {H H1 : zB} {K : Out → Env → zB → Prop} (h : awp P c e H fun o e' H' => o = .normal ∧ e' = e1 ∧ H' = H1) (h1 : awp P (.loop c) e1 H1 K) : awp P (.loop c) e H K := by
 obtain ⟨I,μ,g1,g2⟩ := h1
 refine ⟨fun e' H' => I e' H' ∨ (e' = e ∧ H' = H),fun e' H' => if I e' H' then μ e' H' else μ e1 H1 + 1,.inr ⟨rfl,rfl⟩,fun e' H' hI => ?_⟩
 by_cases hh : I e' H'
 ·refine zDv (g2 e' H' hh) fun o e2 H2 h2 => ?_
  cases o with
  | normal => exact ⟨.inl h2.1,by simp only [if_pos h2.1,if_pos hh]; exact h2.2⟩
  | _ => exact h2
 ·obtain ⟨rfl,rfl⟩ := hI.resolve_left hh
  refine zDv h fun o e2 H2 h2 => ?_
  obtain ⟨rfl,rfl,rfl⟩ := h2
  exact ⟨.inl g1,by simp only [if_pos g1,if_neg hh]; omega⟩
theorem zHB {c : LCode} {e : Env} {H : zB} {K : Out → Env → zB → Prop} (h : awp P c e H fun o e' H' => o ≠ .normal ∧ K o e' H') : awp P (.loop c) e H K := by
 refine ⟨fun e' H' => e' = e ∧ H' = H,fun _ _ => 0,⟨rfl,rfl⟩,fun e' H' hI => ?_⟩
 obtain ⟨rfl,rfl⟩ := hI
 refine zDv h fun o e2 H2 h2 => ?_
 cases o with
 | normal => exact absurd rfl h2.1
 | _ => exact h2.2
theorem zNx {c : LCode} {b : Bd R} (hb : zYn P c b) : ∀ m,zYn P (.loop c) (iter b m)
 | 0,z,e,t,n,k,r,H,h,hr => by cases h
 | m + 1,z,e,t,n,k,r,H,h,hr => by
  simp only [iter] at h
  obtain ⟨o,e1,t1,n1,H1,r1,h1,f1⟩ := hb _ _ _ _ _ _ _ h hr
  cases o with
  | normal =>
   obtain ⟨o,e',t',n',H',r2,h2,f2⟩ := zNx hb m _ _ _ _ _ _ _ h1 r1
   exact ⟨o,e',t',n',H',r2,h2,fun K hK => zNo (f1 _ ⟨rfl,rfl,rfl⟩) (f2 K hK)⟩
  | exit id => exact ⟨_,e1,t1,n1,H1,r1,h1,fun K hK => zHB (f1 _ ⟨by simp,hK⟩)⟩
  | ret => exact ⟨_,e1,t1,n1,H1,r1,h1,fun K hK => zHB (f1 _ ⟨by simp,hK⟩)⟩
  | pan v => exact ⟨_,e1,t1,n1,H1,r1,h1,fun K hK => zHB (f1 _ ⟨by simp,hK⟩)⟩
theorem zVf {ca : Ca R} (hc : zOw P ca) (m : Nat) : ∀ c : LCode,zYn P c (evC ca m c) := by
 intro c
 induction c with
 | skip => exact fun z e t n k r H h hr => ⟨.normal,e,t,n,H,hr,h,fun K hK => hK⟩
 | ops l =>
  intro z e t n k r H h hr
  obtain ⟨e',t',n',H',r1,h1,f1⟩ := zD5 hc h hr
  exact ⟨.normal,e',t',n',H',r1,h1,fun K hK => f1 (K .normal) hK⟩
 | draw hd tl =>
  intro z e t n k r H h hr
  obtain ⟨e1,h0,f0⟩ := zDO hc (h : zCe ca hd e t n _ = some r) hr
  obtain ⟨e',t',n',H',r1,h1,f1⟩ := zD5 hc h0 hr
  exact ⟨.normal,e',t',n',H',r1,h1,fun K hK => f0 _ (f1 (K .normal) hK)⟩
 | drawA hd tl gs =>
  intro z e t n k r H h hr
  obtain ⟨e1,h0,f0⟩ := zDO hc (h : zCe ca hd e t n _ = some r) hr
  obtain ⟨e2,t2,n2,H2,r2,h2,f2⟩ := zNQ hc h0 hr
  obtain ⟨e',t',n',H',r1,h1,f1⟩ := zD5 hc h2 r2
  exact ⟨.normal,e',t',n',H',r1,h1,fun K hK => f0 _ (f2 _ (f1 (K .normal) hK))⟩
 | seq a b iha ihb =>
  intro z e t n k r H h hr
  obtain ⟨o,e1,t1,n1,H1,r1,h1,f1⟩ := iha _ _ _ _ _ _ _ h hr
  cases o with
  | normal =>
   obtain ⟨o,e',t',n',H',r2,h2,f2⟩ := ihb _ _ _ _ _ _ _ h1 r1
   exact ⟨o,e',t',n',H',r2,h2,fun K hK => f1 _ (f2 K hK)⟩
  | exit id => exact ⟨_,e1,t1,n1,H1,r1,h1,fun K hK => f1 _ hK⟩
  | ret => exact ⟨_,e1,t1,n1,H1,r1,h1,fun K hK => f1 _ hK⟩
  | pan v => exact ⟨_,e1,t1,n1,H1,r1,h1,fun K hK => f1 _ hK⟩
 | cond x a b iha ihb =>
  intro z e t n k r H h hr
  change (match evT e x with | .v (.bool b') => cond b' (evC ca m a e t n k) (evC ca m b e t n k) | _ => none) = some r at h
  split at h
  ·rename_i v hv
   rw [zCw] at hv
   cases v with
   | true =>
    obtain ⟨o,e1,t1,n1,H1,r1,h1,f1⟩ := iha _ _ _ _ _ _ _ h hr
    refine ⟨o,e1,t1,n1,H1,r1,h1,fun K hK => ?_⟩
    simp only [awp,hv,if_true]
    rw [zHw hv]
    exact f1 K hK
   | false =>
    obtain ⟨o,e1,t1,n1,H1,r1,h1,f1⟩ := ihb _ _ _ _ _ _ _ h hr
    refine ⟨o,e1,t1,n1,H1,r1,h1,fun K hK => ?_⟩
    simp only [awp,hv,zYM,if_false]
    rw [zHw hv]
    exact f1 K hK
  ·cases h
 | block id c ih =>
  intro z e t n k r H h hr
  obtain ⟨o,e1,t1,n1,H1,r1,h1,f1⟩ := ih _ _ _ _ _ _ _ h hr
  cases o with
  | normal => exact ⟨_,e1,t1,n1,H1,r1,h1,fun K hK => f1 _ hK⟩
  | exit j =>
   simp only at h1
   by_cases hj : j = id
   ·subst hj
    rw [Nat.beq_refl,zZf] at h1
    exact ⟨_,e1,t1,n1,H1,r1,h1,fun K hK => f1 _ (by simp only [if_true]; exact hK)⟩
   ·have hb : Nat.beq j id = false := by
     cases hh : Nat.beq j id
     ·rfl
     ·exact (hj (zZo hh)).elim
    rw [hb,cond_false] at h1
    exact ⟨_,e1,t1,n1,H1,r1,h1,fun K hK => f1 _ (by simp only [if_neg hj]; exact hK)⟩
  | ret => exact ⟨_,e1,t1,n1,H1,r1,h1,fun K hK => f1 _ hK⟩
  | pan v => exact ⟨_,e1,t1,n1,H1,r1,h1,fun K hK => f1 _ hK⟩
 | loop c ih => exact zNx ih m
 | range => intro z e t n k r H h hr; cases h
 | exit id => exact fun z e t n k r H h hr => ⟨_,e,t,n,H,hr,h,fun K hK => hK⟩
 | ret => exact fun z e t n k r H h hr => ⟨_,e,t,n,H,hr,h,fun K hK => hK⟩
 | callp => intro z e t n k r H h hr; cases h
 | ti => intro z e t n k r H h hr; cases h
 | drawX => intro z e t n k r H h hr; cases h
 | pan => intro z e t n k r H h hr; cases h
noncomputable def zVd (e : Tr AV) (t : Tr HO) (n : Nat) : RV → Option AV
 | .tmp s => some (e.get .any s)
 | .cell s ag z => match zI5 ag z (gT t n) (e.get .any s) with
  | some (x,.keep) => some x
  | _ => none
noncomputable def zLC (e : Tr AV) (t : Tr HO) (n : Nat) : List RV → Option (List AV)
 | [] => some []
 | r :: l => match zVd e t n r,zLC e t n l with
  | some x,some m => some (x :: m)
  | _,_ => none
noncomputable def zPQ (e : Tr AV) (t : Tr HO) (n : Nat) : List RV → Option AV
 | [r] => zVd e t n r
 | l => (zLC e t n l).map .tup
theorem zNR {e : Tr AV} {t : Tr HO} {n : Nat} {rv : RV} {x : AV} {H : zB} (h : zVd e t n rv = some x) (hr : RH z t n H) : (zCF (eT e) H rv).ok ∧ (zCF (eT e) H rv).x = x := by
 cases rv with
 | tmp s => simp only [zVd,zYq] at h; exact ⟨trivial,h⟩
 | cell s ag z =>
  simp only [zVd] at h
  split at h
  ·rename_i y hy
   simp only [zYq] at h
   rw [zPK hr] at hy
   obtain ⟨h1,h2,_⟩ := zHk _ _ hy
   exact ⟨h1,by rw [← h]; exact h2⟩
  ·cases h
theorem zKF {e : Tr AV} {t : Tr HO} {n : Nat} {H : zB} (hr : RH z t n H) : ∀ {l : List RV} {xs : List AV},zLC e t n l = some xs → (∀ r ∈ l,(zCF (eT e) H r).ok) ∧ l.map (fun r => (zCF (eT e) H r).x) = xs
 | [],xs,h => by simp only [zLC,zYq] at h; subst h; simp
 | r :: l,xs,h => by
  simp only [zLC] at h
  split at h
  ·rename_i x m hx hm
   simp only [zYq] at h
   obtain ⟨h1,h2⟩ := zNR hx hr
   obtain ⟨h3,h4⟩ := zKF hr hm
   subst h
   exact ⟨by simp only [zY5,forall_eq_or_imp]; exact ⟨h1,h3⟩,by rw [zZA,h2,h4]⟩
  ·cases h
theorem zPP {e : Tr AV} {t : Tr HO} {n : Nat} {l : List RV} {x : AV} {H : zB} (h : zPQ e t n l = some x) (hr : RH z t n H) : (zAH (eT e) H l).ok ∧ (zAH (eT e) H l).x = x := by
 unfold zPQ at h
 split at h
 ·exact zNR h hr
 ·rename_i hne
  cases hm : zLC e t n l with
  | none => rw [hm] at h; cases h
  | some xs =>
   rw [hm,zYZ,zYq] at h
   obtain ⟨h1,h2⟩ := zKF hr hm
   unfold zAH
   split
   ·exact absurd rfl (hne _)
   ·exact ⟨h1,by rw [← h,← h2]⟩
noncomputable def zVh : List AV → Nat → Tr AV
 | [],_ => .leaf
 | x :: l,i => (zVh l (i + 1)).set .any x 30 i
theorem zNY : ∀ (l : List AV) (i : Nat),i + l.length ≤ 1000000 → eT (zVh l i) = zC7 l i
 | [],i,_ => by funext s; simp [eT,zVh,Tr.get_leaf,zC7,e0]
 | x :: l,i,h => by
  simp only [zYs] at h
  funext s
  have ih := congrFun (zNY l (i + 1) (by omega)) s
  simp only [eT] at ih
  simp only [eT,zVh,zC7,up]
  rw [Tr.get_set _ _ _ _ _ _ (by rw [zJn]; omega),ih]
def zLX (P : Program) (tbl : Tr (Option LFn)) : Prop := ∀ f L,tbl.get none f = some L → ∃ fn hs,P.funcs[f]? = some fn ∧ zAi P fn hs = some L
end
def TrAll {α : Type} (p : Nat → α → Prop) : (Nat → Nat) → Tr (Option α) → Prop
 | _,.leaf => True
 | φ,.node v l r => (match v with | some x => p (φ 0) x | none => True) ∧ TrAll p (fun j => φ (2 * j + 1)) l ∧ TrAll p (fun j => φ (2 * j + 2)) r
theorem TrAll.get {α : Type} {p : Nat → α → Prop} : ∀ {t : Tr (Option α)} {φ : Nat → Nat} {i : Nat} {x : α},TrAll p φ t → t.get none i = some x → p (φ i) x
 | .leaf,φ,i,x,_,h => by rw [Tr.get_leaf] at h; cases h
 | .node v l r,φ,i,x,⟨h1,h2,h3⟩,h => by
  cases i with
  | zero =>
   rw [Tr.get_z] at h
   subst h
   exact h1
  | succ n =>
   rw [Tr.get_s] at h
   split at h
   ·have := TrAll.get h2 h
    rwa [show 2 * (n / 2) + 1 = n + 1 by omega] at this
   ·have := TrAll.get h3 h
    rwa [show 2 * (n / 2) + 2 = n + 1 by omega] at this
def zWU (P : Program) (f : Nat) (L : LFn) : Prop := ∃ k,f = k ∧ ∃ fn hs,P.funcs[k]? = some fn ∧ zAi P fn hs = some L
abbrev OpF := (Nat → AV) → (Nat → Option HO) → Nat → Rt
noncomputable def oNo : OpF := fun _ _ _ => none
noncomputable def oMv (x : LX) : OpF := fun e _ _ => some (evX e x,.keep)
noncomputable def zQA (zs : List AV) : OpF := fun _ _ n => gB (c1s zs) (.ptr n 0 0) (.push (.box zs))
noncomputable def zQv : OpF := fun _ _ n => some (.om n 0,.push (.map 0 [] []))
noncomputable def oIns (kd : KD) (m k x : LX) : OpF := fun e g _ => zVP g kd (evX e m) (zKt (evX e k)) (evX e x)
noncomputable def zUS (kd : KD) (zero : AV) (ok : Bool) (m k : LX) : OpF := fun e g _ => zOO g kd zero ok (evX e m) (zKt (evX e k))
noncomputable def zNb (t : TypeId) (zs : List AV) : OpF := fun _ _ n => gB (zFb (zs.headD .any) && c1s zs) (.ptr n 0 0) (.push (.box (.bnil t :: zs.drop 1)))
noncomputable def zKf (t : TypeId) (s x : LX) : OpF := fun e g n => zFn g t n (evX e s) (evX e x)
noncomputable def oBox (imm : Bool) (x : LX) : OpF := fun e _ n => zW5 imm n (evX e x)
noncomputable def zQz (zs : List AV) (ps : List (Nat × Nat × LX)) : OpF := fun e _ _ => match zKZ zs (ps.map fun (o,n,x) => (o,n,evX e x)) with | some r => some (.agg r,.keep) | none => none
noncomputable def oBsl (imm : Bool) (sz len : Nat) (zs : List AV) (ps : List (Nat × LX)) : OpF := fun e _ n => zVR imm sz len n zs (ps.map fun (i,x) => (i,evX e x))
noncomputable def zUT (ag : Bool) (m : Nat) (p : LX) : OpF := fun e g _ => zI5 ag m g (evX e p)
noncomputable def zQw (ag : Bool) (m : Nat) (p : LX) : OpF := fun e g _ => zL8 ag m g (evX e p)
noncomputable def zM9 (off : Nat) (p : LX) : OpF := fun e g _ => zI8 g off (evX e p)
noncomputable def zM8 (sz : Nat) (x i : LX) : OpF := fun e g _ => zI6 g sz (evX e x) (evX e i)
noncomputable def oMin (x y : LX) : OpF := fun e _ _ => zVL (evX e x) (evX e y)
noncomputable def zUR (x y z : LX) : OpF := fun e _ _ => zOM (evX e x) (evX e y) (evX e z)
noncomputable def oMax (x y : LX) : OpF := fun e _ _ => zVM (evX e x) (evX e y)
noncomputable def zQs (m : Nat) (p x : LX) : OpF := fun e g _ => zGy m g (evX e p) (evX e x)
noncomputable def zM7 (x : LX) : OpF := fun e g _ => zP9 g (evX e x)
noncomputable def oBin (kd : KD) (op : BinOp) (x y : LX) : OpF := fun e _ _ => match zVS kd op (evX e x) (evX e y) with | some z => some (z,.keep) | none => none
noncomputable def oNot (x : LX) : OpF := fun e _ _ => match evX e x with | .v (.bool b) => some (bool (!b),.keep) | _ => none
noncomputable def oNeg (x : LX) : OpF := fun e _ _ => match evX e x with | .v (.int k n) => fI (zHf k (0 - n)) fun n => some (.v (.int k n),.keep) | _ => none
noncomputable def zUU (c : Cv) (x : LX) : OpF := fun e g _ => zOR g c (evX e x)
noncomputable def zUQ (f : Fn) (a b : List LX) : OpF := fun e _ _ => some (.fn f (a.map (evX e)) (b.map (evX e)),.keep)
noncomputable def oMsl (sz bytes : Nat) (zs : List AV) (len cap : LX) : OpF := fun e _ n => zVK sz bytes n zs (evX e len) (evX e cap)
noncomputable def zQu (lk : LK) (m : Nat) (x : LX) (lo hi : Option LX) : OpF := fun e g _ => zGz g lk m (evX e x) (lo.map (evX e)) (hi.map (evX e))
noncomputable def zM6 (lk : LK) (m : Nat) (x : LX) (lo hi : Option LX) : OpF := fun e g _ => zI4 g lk m (evX e x) (lo.map (evX e)) (hi.map (evX e))
noncomputable def zQy (off : Nat) (p : LX) : OpF := fun e g _ => zH5 g off (evX e p)
noncomputable def oFld (ag : Bool) (off m : Nat) (x : LX) : OpF := fun e _ _ => zW2 ag off m (evX e x)
noncomputable def zQx (sz : Nat) (x i : LX) : OpF := fun e g _ => zH1 g sz (evX e x) (evX e i)
noncomputable def oIdx (x i : LX) : OpF := fun e _ _ => zVQ (evX e x) (evX e i)
noncomputable def zQt (m : Nat) (p x : LX) : OpF := fun e g _ => zJW m g (evX e p) (evX e x)
noncomputable def oExt (x : LX) (i : Nat) : OpF := fun e _ _ => zW3 (evX e x) i
noncomputable def oLen (lk : LK) (x : LX) : OpF := fun e g _ => zVN g lk (evX e x)
noncomputable def zNa (sz bytes : Nat) (s x : LX) : OpF := fun e g n => zHl g sz bytes n (evX e s) (evX e x)
noncomputable def oFrz (x : LX) : OpF := fun e g _ => zSN g (evX e x)
noncomputable def zXS (sz off : Nat) (x : LX) : OpF := fun e g _ => zMa g sz off (evX e x)
noncomputable def oOwn (sz : Nat) (x : LX) : OpF := fun e _ n => match evX e x with | .v (.slice none 0 0) => gB (Nat.blt 0 sz) (.os n 0 0 0) (.push (.arr 0 sz [])) | _ => none
section
variable {P : Program} {R : Type}
abbrev OpK (R : Type) := Ca R → Tr AV → Tr HO → Nat → Kv R → Option R
noncomputable def zAr (f : OpF) : OpK R := fun _ e t n k => match f (fun s => e.get .any s) (gT t n) n with
 | some (x,u) => upK u t n fun t n => k x t n
 | none => none
noncomputable def zQU (f : LX) (args : List LX) : OpK R := fun ca e t n k => match evT e f with
 | .fn (.func g) a b => ca g (a ++ args.map (evT e) ++ b) t n k
 | _ => none
noncomputable def zUn (c a b : LX) : OpK R := fun _ e t n k => match evT e c with
 | .v (.bool v) => cond v (k (evT e a) t n) (k (evT e b) t n)
 | _ => none
noncomputable def zSd (neg : Bool) (x : LX) : OpK R := fun _ e t n k => match evT e x with
 | .v (.slice none 0 0) => k (bool (!neg)) t n
 | .sl _ (_ :: _) => k (bool neg) t n
 | .os r ver _ (len + 1) => match gT t n r with
  | some (.arr v _ _) => cond (Nat.beq ver v) (k (bool neg) t n) none
  | _ => none
 | _ => none
abbrev OpQ (R : Type) := Ca R → Tr AV → Tr HO → Nat → (AV → Option R) → Option R
noncomputable def zAA (f : OpF) : OpQ R := fun _ e t n k => match f (fun s => e.get .any s) (gT t n) n with
 | some (x,.keep) => k x
 | _ => none
noncomputable def noQ : OpQ R := fun _ _ _ _ _ => none
noncomputable def zVv (f : LX) (args : List LX) : OpQ R := fun ca e t n k => match evT e f with
 | .fn (.func g) a b => cond ((a ++ args.map (evT e) ++ b).all cl2) (ca g (a ++ args.map (evT e) ++ b) .leaf 0 fun x _ _ => cond (cl2 x) (k x) none) none
 | _ => none
noncomputable def zSE (f : LX) (args : List LX) : OpQ R := fun ca e t n k => match evT e f with
 | .fn (.func g) a b => zPc t n fun t' => ca g (a ++ args.map (evT e) ++ b) t' n fun x _ _ => cond (cl2 x) (k x) none
 | _ => none
noncomputable def zUm (c a b : LX) : OpQ R := fun _ e t n k => match evT e c with
 | .v (.bool v) => cond v (k (evT e a)) (k (evT e b))
 | _ => none
noncomputable def zVe (op : LOp) : OpK R := LOp.casesOn (motive := fun _ => OpK R) op
 (fun x => zAr (oMv x)) (zUn) (fun zs => zAr (zQA zs)) (fun t zs => zAr (zNb t zs)) (fun imm x => zAr (oBox imm x)) (fun zs ps => zAr (zQz zs ps)) (fun imm sz len zs ps => zAr (oBsl imm sz len zs ps)) (zAr zQv) (fun kd m k x => zAr (oIns kd m k x)) (fun ag n p => zAr (zUT ag n p)) (fun ag n p => zAr (zQw ag n p)) (fun n p x => zAr (zQs n p x)) (fun x => zAr (zM7 x)) (fun kd op x y => zAr (oBin kd op x y)) (fun x => zAr (oNot x)) (fun x => zAr (oNeg x)) (fun c x => zAr (zUU c x)) (fun f a b => zAr (zUQ f a b)) (fun sz bytes zs len cap => zAr (oMsl sz bytes zs len cap)) (fun lk n x lo hi => zAr (zQu lk n x lo hi)) (fun lk n x lo hi => zAr (zM6 lk n x lo hi)) (fun off p => zAr (zQy off p)) (fun off p => zAr (zM9 off p)) (fun ag off n x => zAr (oFld ag off n x)) (fun sz x i => zAr (zQx sz x i)) (fun sz x i => zAr (zM8 sz x i)) (fun x i => zAr (oIdx x i)) (fun kd zero ok m k => zAr (zUS kd zero ok m k)) (fun x i => zAr (oExt x i)) (fun lk x => zAr (oLen lk x)) (fun sz bytes s x => zAr (zNa sz bytes s x)) (fun t s x => zAr (zKf t s x)) (fun _ _ _ => zAr oNo) (fun x y => zAr (oMin x y)) (fun x y => zAr (oMax x y)) (fun x y z => zAr (zUR x y z)) (zQU) (zQU) (fun x => zAr (oFrz x)) (fun sz x => zAr (oOwn sz x)) (fun sz off x => zAr (zXS sz off x)) (zSd) (fun _ _ => zAr oNo) (fun _ _ _ => zAr oNo) (fun _ => zAr oNo) (fun _ => fun _ _ _ _ _ => none) (fun _ => zAr oNo) (fun _ _ => zAr oNo) (fun _ => zAr oNo) (fun m p x => zAr (zQt m p x)) (zAr oNo)
noncomputable def zQM (op : LOp) : OpQ R := LOp.casesOn (motive := fun _ => OpQ R) op
 (fun x => zAA (oMv x)) (zUm) (fun zs => zAA (zQA zs)) (fun t zs => zAA (zNb t zs)) (fun imm x => zAA (oBox imm x)) (fun zs ps => zAA (zQz zs ps)) (fun imm sz len zs ps => zAA (oBsl imm sz len zs ps)) (zAA zQv) (fun kd m k x => zAA (oIns kd m k x)) (fun ag n p => zAA (zUT ag n p)) (fun ag n p => zAA (zQw ag n p)) (fun n p x => zAA (zQs n p x)) (fun x => zAA (zM7 x)) (fun kd op x y => zAA (oBin kd op x y)) (fun x => zAA (oNot x)) (fun x => zAA (oNeg x)) (fun c x => zAA (zUU c x)) (fun f a b => zAA (zUQ f a b)) (fun sz bytes zs len cap => zAA (oMsl sz bytes zs len cap)) (fun lk n x lo hi => zAA (zQu lk n x lo hi)) (fun lk n x lo hi => zAA (zM6 lk n x lo hi)) (fun off p => zAA (zQy off p)) (fun off p => zAA (zM9 off p)) (fun ag off n x => zAA (oFld ag off n x)) (fun sz x i => zAA (zQx sz x i)) (fun sz x i => zAA (zM8 sz x i)) (fun x i => zAA (oIdx x i)) (fun kd zero ok m k => zAA (zUS kd zero ok m k)) (fun x i => zAA (oExt x i)) (fun lk x => zAA (oLen lk x)) (fun sz bytes s x => zAA (zNa sz bytes s x)) (fun t s x => zAA (zKf t s x)) (fun _ _ _ => zAA oNo) (fun x y => zAA (oMin x y)) (fun x y => zAA (oMax x y)) (fun x y z => zAA (zUR x y z)) (zVv) (zSE) (fun _ => noQ) (fun _ _ => noQ) (fun _ _ _ => noQ) (fun _ _ => noQ) (fun _ _ => zAA oNo) (fun _ _ _ => zAA oNo) (fun _ => noQ) (fun _ => noQ) (fun _ => noQ) (fun _ _ => zAA oNo) (fun _ => zAA oNo) (fun m p x => zAA (zQt m p x)) (zAA oNo)
theorem zPS (ca : Ca R) (op : LOp) (e : Tr AV) (t : Tr HO) (n : Nat) (k : Kv R) : zVe op ca e t n k = zPT ca op e t n k := by
 cases op <;> rfl
theorem zNS (ca : Ca R) (op : LOp) (e : Tr AV) (t : Tr HO) (n : Nat) (k : AV → Option R) : zQM op ca e t n k = zIL ca op e t n k := by
 cases op <;> rfl
abbrev zOt (R : Type) := Ca R → Tr AV → Tr HO → Nat → (Tr AV → KT R) → Option R
noncomputable def zUy : zOt R := fun _ e t n k => k e t n
noncomputable def zM2 (o : LO) (ih : zOt R) : zOt R := fun ca e t n k => zVe o.op ca e t n fun x t n => zHU o.d x e fun e => ih ca e t n k
noncomputable def zRU (o : LO) (ih : zOt R) : zOt R := fun ca e t n k => zHU o.d zAu e fun e => ih ca e t n k
noncomputable def zUz (o : LO) (ih : zOt R) (s : Nat) (want : Bool) : zOt R := fun ca e t n k => match e.get .any s with
 | .v (.bool b) => cond (eqB b want) (zM2 o ih ca e t n k) (zRU o ih ca e t n k)
 | .v (.tuple _) => zRU o ih ca e t n k
 | _ => none
noncomputable def zJr (o : LO) (ih : zOt R) : zOt R := fun ca e t n k => match o.g with
 | none => zM2 o ih ca e t n k
 | some (s,want) => zUz o ih s want ca e t n k
noncomputable def zEM (l : List LO) : zOt R := List.rec (motive := fun _ => zOt R) zUy (fun o _ ih => zJr o ih) l
theorem zDQ : ∀ (l : List LO) (ca : Ca R) (e : Tr AV) (t : Tr HO) (n : Nat) (k : Tr AV → KT R),zEM l ca e t n k = zEc ca l e t n k
 | [],ca,e,t,n,k => rfl
 | o :: l,ca,e,t,n,k => by
  show zJr o (zEM l) ca e t n k = _
  simp only [zJr,zM2,zRU,zUz,zEc,zPS,zDQ l]
  try (generalize o.g = g; rcases g with _ | ⟨s,want⟩ <;> rfl)
abbrev zOu (R : Type) := Ca R → Tr AV → Tr HO → Nat → (Tr AV → Option R) → Option R
noncomputable def zUA : zOu R := fun _ e _ _ k => k e
noncomputable def zM3 (o : LO) (ih : zOu R) : zOu R := fun ca e t n k => zQM o.op ca e t n fun x => zHU o.d x e fun e => ih ca e t n k
noncomputable def zRV (o : LO) (ih : zOu R) : zOu R := fun ca e t n k => zHU o.d zAu e fun e => ih ca e t n k
noncomputable def zUB (o : LO) (ih : zOu R) (s : Nat) (want : Bool) : zOu R := fun ca e t n k => match e.get .any s with
 | .v (.bool b) => cond (eqB b want) (zM3 o ih ca e t n k) (zRV o ih ca e t n k)
 | .v (.tuple _) => zRV o ih ca e t n k
 | _ => none
noncomputable def zJs (o : LO) (ih : zOu R) : zOu R := fun ca e t n k => match o.g with
 | none => zM3 o ih ca e t n k
 | some (s,want) => zUB o ih s want ca e t n k
noncomputable def zDP (l : List LO) : zOu R := List.rec (motive := fun _ => zOu R) zUA (fun o _ ih => zJs o ih) l
theorem zD6 : ∀ (l : List LO) (ca : Ca R) (e : Tr AV) (t : Tr HO) (n : Nat) (k : Tr AV → Option R),zDP l ca e t n k = zCe ca l e t n k
 | [],ca,e,t,n,k => rfl
 | o :: l,ca,e,t,n,k => by
  show zJs o (zDP l) ca e t n k = _
  simp only [zJs,zM3,zRV,zUB,zCe,zNS,zD6 l]
  try (generalize o.g = g; rcases g with _ | ⟨s,want⟩ <;> rfl)
abbrev CT (R : Type) := Ca R → Nat → Bd R
noncomputable def zYc : CT R := fun _ _ e t n k => k .normal e t n
noncomputable def cOps (l : List LO) : CT R := fun ca _ e t n k => zEM l ca e t n fun e t n => k .normal e t n
noncomputable def zYg (hd tl : List LO) : CT R := fun ca _ e t n k => zDP hd ca e t n fun e => zEM tl ca e t n fun e t n => k .normal e t n
noncomputable def zU5 (d : Option Nat) (e1 : Tr AV) (k : Option R) : Tr AV → Option R := fun e2 => match d with
 | some d => cond (eqA 20 (e2.get .any d) (e1.get .any d)) k none
 | none => none
noncomputable def zFx (ca : Ca R) (hd : List LO) (e1 : Tr AV) (t : Tr HO) (n : Nat) (js : List Nat) (k : Option R) : Option R :=
 List.rec (motive := fun _ => Option R) k (fun j _ ih => zDP [hd.getD j default] ca e1 t n (zU5 (hd.getD j default).d e1 ih)) js
theorem zGa (ca : Ca R) (hd : List LO) (e1 : Tr AV) (t : Tr HO) (n : Nat) (k : Option R) : ∀ js,zFx ca hd e1 t n js k = zHI ca hd e1 t n js k
 | [] => rfl
 | j :: js => by
  show zDP [hd.getD j default] ca e1 t n (zU5 (hd.getD j default).d e1 (zFx ca hd e1 t n js k)) = _
  rw [zD6,zGa]
  rfl
noncomputable def zTO (ca : Ca R) (hd : List LO) (e1 : Tr AV) (p : LO × List Nat) (ih : Tr AV → Tr HO → Nat → (Tr AV → KT R) → Option R) : Tr AV → Tr HO → Nat → (Tr AV → KT R) → Option R :=
 fun e t n k => zEM [p.1] ca e t n fun e t n => zFx ca hd e1 t n p.2 (ih e t n k)
noncomputable def zPO (ca : Ca R) (hd : List LO) (e1 : Tr AV) (l : List (LO × List Nat)) : Tr AV → Tr HO → Nat → (Tr AV → KT R) → Option R :=
 List.rec (motive := fun _ => Tr AV → Tr HO → Nat → (Tr AV → KT R) → Option R) (fun e t n k => k e t n) (fun p _ ih => zTO ca hd e1 p ih) l
theorem zKE (ca : Ca R) (hd : List LO) (e1 : Tr AV) : ∀ (l : List (LO × List Nat)) (e : Tr AV) (t : Tr HO) (n : Nat) (k : Tr AV → KT R),zPO ca hd e1 l e t n k = zVc ca hd e1 l e t n k
 | [],e,t,n,k => rfl
 | p :: l,e,t,n,k => by
  show zEM [p.1] ca e t n (fun e t n => zFx ca hd e1 t n p.2 (zPO ca hd e1 l e t n k)) = _
  simp only [zDQ,zGa,zKE ca hd e1 l]
  rfl
noncomputable def zVx (hd : List LO) (tl : List (LO × List Nat)) (gs : List LO) : CT R := fun ca _ e t n k => zDP hd ca e t n fun e1 => zPO ca hd e1 tl e1 t n fun e t n => zEM gs ca e t n fun e t n => k .normal e t n
noncomputable def cNo : CT R := fun _ _ _ _ _ _ => none
noncomputable def zWz (nx : Option R) (k : Ko R) : Ko R := fun o e t n => Out.casesOn (motive := fun _ => Option R) o nx (fun id => k (.exit id) e t n) (k .ret e t n) fun v => k (.pan v) e t n
noncomputable def cSeq (iha ihb : CT R) : CT R := fun ca m e t n k => iha ca m e t n fun o e t n => zWz (ihb ca m e t n k) k o e t n
noncomputable def zYh (x : LX) (iha ihb : CT R) : CT R := fun ca m e t n k => match evT e x with
 | .v (.bool b) => cond b (iha ca m e t n k) (ihb ca m e t n k)
 | _ => none
noncomputable def zQI (id : Nat) (k : Ko R) : Ko R := fun o e t n => Out.casesOn (motive := fun _ => Option R) o (k .normal e t n) (fun j => cond (Nat.beq j id) (k .normal e t n) (k (.exit j) e t n)) (k .ret e t n) fun v => k (.pan v) e t n
noncomputable def zVy (id : Nat) (ih : CT R) : CT R := fun ca m e t n k => ih ca m e t n (zQI id k)
noncomputable def zX3 (b ih : Bd R) : Bd R := fun e t n k => b e t n fun o e t n => zWz (ih e t n k) k o e t n
noncomputable def zSc (b : Bd R) (m : Nat) : Bd R := Nat.rec (motive := fun _ => Bd R) (fun _ _ _ _ => none) (fun _ ih => zX3 b ih) m
noncomputable def zYd (ih : CT R) : CT R := fun ca m => zSc (ih ca m) m
noncomputable def zYf (id : Nat) : CT R := fun _ _ e t n k => k (.exit id) e t n
noncomputable def cRet : CT R := fun _ _ e t n k => k .ret e t n
noncomputable def zSq (c : LCode) : CT R :=
 LCode.rec (motive := fun _ => CT R) zYc cOps zYg zVx (fun _ _ iha ihb => cSeq iha ihb) (fun x _ _ iha ihb => zYh x iha ihb) (fun id _ ih => zVy id ih) (fun _ ih => zYd ih)
  (fun _ _ _ _ _ _ => cNo) zYf cRet (fun _ _ _ => cNo) (fun _ _ _ => cNo) (fun _ => cNo) (fun _ _ _ => cNo) c
theorem zKv {b b' : Bd R} (h : ∀ e t n k,b e t n k = b' e t n k) : ∀ (m : Nat) (e : Tr AV) (t : Tr HO) (n : Nat) (k : Ko R),zSc b m e t n k = iter b' m e t n k
 | 0,e,t,n,k => rfl
 | m + 1,e,t,n,k => by
  show b e t n (fun o e t n => zWz (zSc b m e t n k) k o e t n) = _
  rw [h]
  simp only [iter]
  congr 1
  funext o e t n
  cases o with
  | normal => exact zKv h m e t n k
  | _ => rfl
theorem zSp (ca : Ca R) (m : Nat) : ∀ (c : LCode) (e : Tr AV) (t : Tr HO) (n : Nat) (k : Ko R),zSq c ca m e t n k = evC ca m c e t n k := by
 intro c
 induction c with
 | skip => intros; rfl
 | ops l => intro e t n k; exact zDQ l ca e t n _
 | draw hd tl =>
  intro e t n k
  show zDP hd ca e t n (fun e => zEM tl ca e t n fun e t n => k .normal e t n) = zCe ca hd e t n fun e => zEc ca tl e t n fun e t n => k .normal e t n
  simp only [zD6,zDQ]
 | drawA hd tl gs =>
  intro e t n k
  show zDP hd ca e t n (fun e1 => zPO ca hd e1 tl e1 t n fun e t n => zEM gs ca e t n fun e t n => k .normal e t n) = zCe ca hd e t n fun e1 => zVc ca hd e1 tl e1 t n fun e t n => zEc ca gs e t n fun e t n => k .normal e t n
  simp only [zD6,zDQ,zKE]
 | seq a b iha ihb =>
  intro e t n k
  show zSq a ca m e t n (fun o e t n => zWz (zSq b ca m e t n k) k o e t n) = evC ca m a e t n _
  rw [iha]
  congr 1
  funext o e t n
  cases o with
  | normal => exact ihb e t n k
  | _ => rfl
 | cond x a b iha ihb =>
  intro e t n k
  show (match evT e x with | .v (.bool b') => cond b' (zSq a ca m e t n k) (zSq b ca m e t n k) | _ => none) = (match evT e x with | .v (.bool b') => cond b' (evC ca m a e t n k) (evC ca m b e t n k) | _ => none)
  simp only [iha,ihb]
 | block id c ih =>
  intro e t n k
  show zSq c ca m e t n (zQI id k) = evC ca m c e t n _
  rw [ih]
  congr 1
  funext o e t n
  cases o <;> rfl
 | loop c ih => intro e t n k; exact zKv ih m e t n k
 | range => intros; rfl
 | exit => intros; rfl
 | ret => intros; rfl
 | callp => intros; rfl
 | ti => intros; rfl
 | drawX => intros; rfl
 | pan => intros; rfl
noncomputable def zWA (e : Tr AV) (t : Tr HO) (n : Nat) (rs : List RV) (k : Kv R) : Option R := match zPQ e t n rs with
 | some x => k x t n
 | none => none
noncomputable def kRet (rs : List RV) (k : Kv R) : Ko R := fun o e t n => Out.casesOn (motive := fun _ => Option R) o (zWA e t n rs k) (fun _ => none) (zWA e t n rs k) fun _ => none
noncomputable def fGo (m : Nat) (ih : Ca R) (L : LFn) : List AV → Tr HO → Nat → Kv R → Option R := fun args t n k => cond (Nat.ble args.length L.n && Nat.ble args.length 1000) (zSq L.body ih m (zVh args 0) t n (kRet L.res k)) none
noncomputable def fS (tbl : Tr (Option LFn)) (m : Nat) (ih : Ca R) : Ca R := fun f args t n k => Option.casesOn (motive := fun _ => Option R) (tbl.get none f) none fun L => fGo m ih L args t n k
end
structure zGq where
 f : FuncId
 args : List AV
 x : AV
def zBT (P : Program) (q : zGq) : Prop := ∀ H,ACall P q.f q.args H fun y H' => y = q.x/\H' = H
section
variable {P : Program} {R : Type}
noncomputable def zNP (l : List zGq) (f : FuncId) (args : List AV) (t : Tr HO) (n : Nat) (k : Kv R) (nx : Option R) : Option R :=
 List.rec (motive := fun _ => Option R) nx (fun q _ ih => cond (Nat.beq q.f f) (cond (zGb (eqA 60) args q.args) (k q.x t n) ih) ih) l
theorem zPN {l : List zGq} (hl : ∀ q ∈ l,zBT P q) {f : FuncId} {args : List AV} {t : Tr HO} {n : Nat} {k : Kv R} {nx : Option R} {r : R} (h : zNP l f args t n k nx = some r) :
  nx = some r\/∃ x,k x t n = some r/\∀ H,ACall P f args H fun y H' => y = x/\H' = H := by
 induction l with
 | nil => exact .inl h
 | cons q l ih =>
  have ih := ih fun q' hq => hl q' (zZZ _ hq)
  change cond (Nat.beq q.f f) (cond (zGb (eqA 60) args q.args) (k q.x t n) (zNP l f args t n k nx)) (zNP l f args t n k nx) = some r at h
  cases hb : Nat.beq q.f f with
  | false => rw [hb] at h; exact ih h
  | true =>
   rw [hb,zZf] at h;cases he : zGb (eqA 60) args q.args with
   | false => rw [he] at h; exact ih h
   | true =>
    rw [he,zZf] at h;have hf := zZo hb;have ha := zDq (zNX 60) he;subst ha;subst hf;exact .inr ⟨q.x,h,hl q (by simp)⟩
theorem zVa {tbl : Tr (Option LFn)} (ht : zLX P tbl) (m : Nat) {ca : Ca R} (hc : zOw P ca) : zOw P (fS tbl m ca) := by
 intro z f args t n k r H h hr;unfold fS at h;cases hL : tbl.get none f with
 | none => rw [hL] at h; cases h
 | some L =>
  rw [hL] at h
  change fGo m ca L args t n k = some r at h
  unfold fGo at h;cases hb : (Nat.ble args.length L.n && Nat.ble args.length 1000) <;> rw [hb] at h
  ·cases h
  ·simp only [zYA,zZN] at hb;rw [zZf,zSp] at h;obtain ⟨fn,hs,hf,hl⟩ := ht f L hL;obtain ⟨o,e',t',n',H',r1,h1,f1⟩ := zVf hc m L.body _ _ _ _ _ _ _ h hr;have fin : ∀ x,zPQ e' t' n' L.res = some x->k x t' n' = some r->(o = .normal\/o = .ret)->∃ x t' n' H',RH z t' n' H'/\k x t' n' = some r/\∀ K : AV->zB->Prop,K x H'->ACall P f args H K := by
    intro x hx hk ho;obtain ⟨g1,g2⟩ := zPP hx r1;refine ⟨x,t',n',H',r1,hk,fun K hK => enter hf hl hb.1 ?_⟩;have := f1 (zUd L.res K) (by rcases ho with rfl | rfl <;> exact ⟨g1,by rw [g2]; exact hK⟩);rw [zNY args 0 (by omega)] at this;exact this
   have go : zWA e' t' n' L.res k = some r->(o = .normal\/o = .ret)->∃ x t' n' H',RH z t' n' H'/\k x t' n' = some r/\∀ K : AV->zB->Prop,K x H'->ACall P f args H K := by
    intro h1 ho;unfold zWA at h1;split at h1
    ·rename_i x hx; exact fin x hx h1 ho
    ·cases h1
   cases o with
   | exit id => cases h1
   | pan v => cases h1
   | normal => exact go h1 (.inl rfl)
   | ret => exact go h1 (.inr rfl)
noncomputable def zSo (l : List zGq) (tbl : Tr (Option LFn)) (m d : Nat) : Ca R := Nat.rec (motive := fun _ => Ca R) (fun _ _ _ _ _ => none) (fun _ ih f args t n k => zNP l f args t n k (fS tbl m ih f args t n k)) d
theorem zKG {l : List zGq} (hl : ∀ q ∈ l,zBT P q) {tbl : Tr (Option LFn)} (ht : zLX P tbl) (m : Nat) : ∀ d,zOw (R := R) P (zSo l tbl m d)
 | 0 => fun z f args t n k r H h hr => by cases h
 | d + 1 => fun z f args t n k r H h hr => by
  change zNP l f args t n k (fS tbl m (zSo l tbl m d) f args t n k) = some r at h
  rcases zPN hl h with h | ⟨x,h1,h2⟩
  ·exact zVa ht m (zKG hl ht m d) z f args t n k r H h hr
  ·exact ⟨x,t,n,H,hr,h1,fun K hK => (h2 H).mono fun y H' ⟨g1,g2⟩ => by rw [g1,g2]; exact hK⟩
end
noncomputable def zVb (l : List zGq) (tbl : Tr (Option LFn)) (m d : Nat) (f : FuncId) (args : List AV) : Option AV := fS (R := AV) tbl m (zSo l tbl m d) f args .leaf 0 fun x _ _ => some x
theorem zA5 {P : Program} {l : List zGq} (hl : ∀ q ∈ l,zBT P q) {tbl : Tr (Option LFn)} (ht : zLX P tbl) {m d : Nat} {f : FuncId} {args : List AV} {x : AV} (h : zVb l tbl m d f args = some x) (hx : x.cl = true) (hc : clL args = true) : zBT P ⟨f,args,x⟩ := by
 intro H;obtain ⟨y,t',n',H',r1,h1,f1⟩ := zVa ht m (zKG hl ht m d) _ f args .leaf 0 _ _ [] h zQk;simp only [zYq] at h1;subst h1;exact APure.frame (ACall.drop (R := fun z => z = y) (f1 _ ⟨rfl,hx,H',rfl⟩)) hc H
def TrOk (P : Program) : (Nat->Nat)->Tr (Option LFn)->Prop
 | _,.leaf => True
 | φ,.node v l r => (∀ x,v = some x->zWU P (φ 0) x)/\TrOk P (fun j => φ (2 * j + 1)) l/\TrOk P (fun j => φ (2 * j + 2)) r
theorem TrOk.get {P : Program} : ∀ {t : Tr (Option LFn)} {φ : Nat->Nat} {i : Nat} {x : LFn},TrOk P φ t->t.get none i = some x->zWU P (φ i) x
 | .leaf,φ,i,x,_,h => by rw [Tr.get_leaf] at h; cases h
 | .node v l r,φ,i,x,⟨h1,h2,h3⟩,h => by
  cases i with
  | zero =>
   rw [Tr.get_z] at h;exact h1 x h
  | succ n =>
   rw [Tr.get_s] at h;split at h
   ·have := TrOk.get h2 h
    rwa [show 2 * (n / 2) + 1 = n + 1 by omega] at this
   ·have := TrOk.get h3 h
    rwa [show 2 * (n / 2) + 2 = n + 1 by omega] at this
theorem zH7 {P : Program} {tbl : Tr (Option LFn)} (h : TrOk P id tbl) : zLX P tbl := fun f L hL => by
 obtain ⟨k,rfl,h⟩ := h.get hL;exact h
theorem noFn {P : Program} {f : Nat} : ∀ x,(none : Option LFn) = some x->zWU P f x := fun _ h => by cases h
theorem fnOk {P : Program} {f : Nat} {fn : Func} {hs : List Hn} (hf : P.funcs[f]? = some fn) : ∀ x,zAi P fn hs = some x->zWU P f x := fun _ h => ⟨f,rfl,fn,hs,hf,h⟩
end Go.Ax
namespace Go.Proofs.YtbibhcmcjldhdaaGreatDoor
open Go Go.Ax
set_option maxRecDepth 100000
set_option linter.unusedSimpArgs false
set_option maxHeartbeats 4000000
abbrev tL : Tr (Option LFn) := .leaf
abbrev tN (l r : Tr (Option LFn)) : Tr (Option LFn) := .node none l r
noncomputable abbrev tE (fn : Func) (hs : List Hn) (l r : Tr (Option LFn)) : Tr (Option LFn) := .node (zAi Tryz.prog fn hs) l r
theorem hL {φ : Nat->Nat} : TrOk Tryz.prog φ tL := trivial
theorem hN {φ : Nat->Nat} {l r : Tr (Option LFn)} (a : TrOk Tryz.prog (fun j => φ (2 * j + 1)) l) (b : TrOk Tryz.prog (fun j => φ (2 * j + 2)) r) : TrOk Tryz.prog φ (tN l r) := ⟨noFn,a,b⟩
theorem hE {φ : Nat->Nat} {fn : Func} {hs : List Hn} {l r : Tr (Option LFn)} (h : Tryz.prog.funcs[φ 0]? = some fn) (a : TrOk Tryz.prog (fun j => φ (2 * j + 1)) l) (b : TrOk Tryz.prog (fun j => φ (2 * j + 2)) r) : TrOk Tryz.prog φ (tE fn hs l r) := ⟨fnOk h,a,b⟩
noncomputable def zVz : Tr (Option LFn) := (tN (tN (tN (tN (tN (tN (tE Tryz.f63 [] (tE Tryz.f127 [] (tE Tryz.f255 [] tL tL) tL) (tE Tryz.f191 [] tL tL)) (tE Tryz.f95 [⟨29,2,.imm⟩,⟨33,2,.imm⟩,⟨39,5,(.pre 4 (.frz (.t 4)))⟩,⟨39,5,(.pre 5 (.frz (.t 5)))⟩] tL (tE Tryz.f223 [⟨6,4,.imm⟩,⟨9,4,.imm⟩] tL tL))) (tE Tryz.f47 [] (tE Tryz.f79 [] (tE Tryz.f143 [] (tE Tryz.f271 [] tL tL) tL) (tE Tryz.f207 [] tL tL)) (tN (tE Tryz.f175 [] tL tL) (tE Tryz.f239 [] tL tL)))) (tN (tE Tryz.f39 [] (tE Tryz.f71 [] (tE Tryz.f135 [] (tE Tryz.f263 [] tL tL) tL) (tE Tryz.f199 [⟨2,12,(.chn 8 9)⟩,⟨2,0,(.drw [7,8,9])⟩,⟨2,6,.imm⟩] tL tL)) (tE Tryz.f103 [⟨2,7,.imm⟩,⟨2,13,.imm⟩,⟨6,17,.imm⟩,⟨2,0,(.drw [8,14,17,20])⟩,⟨6,0,(.drw [18,20])⟩] (tE Tryz.f167 [] tL tL) (tE Tryz.f231 [⟨1,13,.imm⟩,⟨1,14,.tail⟩] tL tL))) (tN (tE Tryz.f87 [⟨2,20,.tail⟩] (tE Tryz.f151 [] (tE Tryz.f279 [⟨3,2,(.pre 2 (.frz (.t 2)))⟩,⟨5,2,(.pre 2 (.frz (.t 2)))⟩,⟨7,2,(.pre 2 (.frz (.t 2)))⟩,⟨9,2,(.pre 2 (.frz (.t 2)))⟩,⟨11,2,(.pre 2 (.frz (.t 2)))⟩] tL tL) tL) tL) (tN (tE Tryz.f183 [⟨7,0,.imm⟩] tL tL) (tE Tryz.f247 [] tL tL))))) (tN (tE Tryz.f19 [⟨3,6,(.pre 3 (.frz (.t 3)))⟩,⟨4,8,(.pre 3 (.frz (.t 3)))⟩] (tN (tE Tryz.f67 [] (tE Tryz.f131 [] (tE Tryz.f259 [] tL tL) tL) (tE Tryz.f195 [⟨1,14,(.var 16)⟩,⟨1,0,(.drw [15,17])⟩,⟨12,0,(.drw [21])⟩,⟨21,0,(.drw [4])⟩,⟨25,0,(.drw [4,5])⟩,⟨34,0,(.drw [4])⟩,⟨39,0,(.drw [4])⟩,⟨46,0,(.drw [4,5])⟩,⟨48,0,(.drw [3,5])⟩,⟨44,0,(.drw [2,5,6])⟩] tL tL)) (tE Tryz.f99 [⟨9,5,.imm⟩,⟨11,2,(.pre 2 (.frz (.t 2)))⟩] tL (tE Tryz.f227 [] tL tL))) (tN (tE Tryz.f83 [] (tE Tryz.f147 [] (tE Tryz.f275 [] tL tL) tL) tL) (tN (tE Tryz.f179 [] tL tL) (tE Tryz.f243 [⟨10,2,(.pre 4 (.frz (.t 4)))⟩,⟨9,7,.tail⟩] tL tL)))) (tN (tE Tryz.f43 [] (tN (tE Tryz.f139 [⟨14,2,.imm⟩,⟨15,2,(.pre 6 (.frz (.t 6)))⟩] (tE Tryz.f267 [⟨1,4,.imm⟩] tL tL) tL) (tE Tryz.f203 [⟨0,0,(.drw [4])⟩] tL tL)) (tE Tryz.f107 [] (tE Tryz.f171 [⟨47,2,(.pre 8 (.frz (.t 8)))⟩,⟨51,2,(.pre 8 (.frz (.t 8)))⟩,⟨52,2,(.pre 8 (.frz (.t 8)))⟩] tL tL) (tE Tryz.f235 [] tL tL))) (tN (tE Tryz.f91 [⟨4,11,(.pre 3 (.frz (.t 3)))⟩,⟨4,0,(.drw [8])⟩] (tE Tryz.f155 [⟨9,2,(.pre 4 (.frz (.t 4)))⟩,⟨1,1,(.pre 5 (.own 3 (.t 5)))⟩,⟨7,9,.tail⟩] tL tL) (tE Tryz.f219 [⟨10,5,.imm⟩] tL tL)) (tE Tryz.f123 [] (tE Tryz.f187 [⟨7,3,.imm⟩,⟨8,2,(.pre 4 (.frz (.t 4)))⟩] tL tL) (tE Tryz.f251 [] tL tL)))))) (tN (tN (tN (tN (tN (tE Tryz.f129 [] (tE Tryz.f257 [] tL tL) tL) (tE Tryz.f193 [⟨1,7,.tail⟩] tL tL)) (tE Tryz.f97 [] tL (tE Tryz.f225 [⟨24,0,.imm⟩] tL tL))) (tE Tryz.f49 [] (tE Tryz.f81 [⟨7,6,.imm⟩,⟨7,7,.tail⟩] (tE Tryz.f145 [] (tE Tryz.f273 [] tL tL) tL) tL) (tE Tryz.f113 [] (tE Tryz.f177 [⟨2,12,.imm⟩,⟨2,13,.tail⟩] tL tL) (tE Tryz.f241 [] tL tL)))) (tN (tN (tN (tE Tryz.f137 [⟨20,2,(.pre 6 (.frz (.t 6)))⟩] (tE Tryz.f265 [] tL tL) tL) (tE Tryz.f201 [⟨0,0,(.drw [4])⟩] tL tL)) (tE Tryz.f105 [⟨1,2,.imm⟩] (tE Tryz.f169 [] tL tL) (tE Tryz.f233 [] tL tL))) (tE Tryz.f57 [] (tE Tryz.f89 [⟨4,2,.imm⟩,⟨4,3,.imm⟩,⟨4,6,.imm⟩,⟨5,2,.imm⟩,⟨5,3,.imm⟩,⟨5,6,.imm⟩,⟨4,0,(.perm [0,1,2,3,4,6,7,5,8,9])⟩,⟨4,4,.imm⟩,⟨5,0,(.perm [0,1,2,3,4,6,7,5,8,9])⟩,⟨5,4,.imm⟩,⟨6,2,(.pre 4 (.frz (.t 4)))⟩,⟨4,7,.tail⟩,⟨5,7,.tail⟩] (tE Tryz.f153 [] (tE Tryz.f281 [] tL tL) tL) (tE Tryz.f217 [] tL tL)) (tE Tryz.f121 [⟨1,21,(.pre 0 (.frz (.t 0)))⟩] (tE Tryz.f185 [] tL tL) (tE Tryz.f249 [⟨0,0,(.drw [4])⟩] tL tL))))) (tN (tN (tN (tE Tryz.f69 [] (tE Tryz.f133 [⟨7,0,.imm⟩,⟨12,16,.tail⟩] tL tL) (tE Tryz.f197 [⟨1,15,.tail⟩,⟨2,0,(.drw [9,11])⟩] tL tL)) (tE Tryz.f101 [⟨1,11,.imm⟩,⟨1,12,.tail⟩] (tE Tryz.f165 [⟨6,5,.imm⟩] tL tL) (tE Tryz.f229 [] tL tL))) (tE Tryz.f53 [⟨37,1,(.pre 210 (.frzf 3 5 (.t 210)))⟩,⟨37,1,(.pre 210 (.frzf 1 6 (.t 210)))⟩,⟨37,1,(.pre 210 (.frzf 9 8 (.t 210)))⟩,⟨6,3,.imm⟩,⟨6,0,(.drw [7,8])⟩,⟨5,10,(.pre 3 (.frz (.t 3)))⟩,⟨12,8,.imm⟩,⟨18,21,.imm⟩,⟨24,7,(.pre 3 (.frz (.t 3)))⟩,⟨36,6,(.pre 3 (.frz (.t 3)))⟩,⟨12,9,.tail⟩,⟨18,22,.tail⟩,⟨36,0,(.drw [3])⟩] (tE Tryz.f85 [⟨7,6,.imm⟩] (tE Tryz.f149 [] (tE Tryz.f277 [⟨6,11,.tail⟩] tL tL) tL) (tE Tryz.f213 [] tL tL)) (tE Tryz.f117 [] (tE Tryz.f181 [] tL tL) (tE Tryz.f245 [] tL tL)))) (tN (tN (tE Tryz.f77 [] (tE Tryz.f141 [⟨11,2,.imm⟩,⟨12,2,(.pre 4 (.frz (.t 4)))⟩] (tE Tryz.f269 [] tL tL) tL) (tE Tryz.f205 [⟨0,17,(.chn 13 14)⟩,⟨0,0,(.drw [12,13,14])⟩,⟨0,11,.imm⟩] tL tL)) (tE Tryz.f109 [⟨5,3,.imm⟩,⟨9,2,(.pre 2 (.frz (.t 2)))⟩,⟨1,1,(.pre 3 (.own 1 (.t 3)))⟩] (tE Tryz.f173 [] tL tL) (tE Tryz.f237 [] tL tL))) (tN (tE Tryz.f93 [⟨6,2,(.pre 2 (.frz (.t 2)))⟩] tL (tE Tryz.f221 [] tL tL)) (tE Tryz.f125 [] (tE Tryz.f189 [] tL tL) (tE Tryz.f253 [] tL tL))))))) (tN (tN (tN (tE Tryz.f16 [] (tN (tN (tE Tryz.f128 [⟨5,3,.imm⟩,⟨7,3,.imm⟩] (tE Tryz.f256 [⟨0,0,(.drw [4])⟩] tL tL) tL) (tE Tryz.f192 [] tL tL)) (tE Tryz.f96 [⟨2,10,.tail⟩] tL (tE Tryz.f224 [] tL tL))) (tE Tryz.f48 [⟨1,0,.imm⟩] (tE Tryz.f80 [] (tE Tryz.f144 [⟨10,5,.imm⟩] (tE Tryz.f272 [⟨1,15,.imm⟩,⟨1,16,.tail⟩,⟨3,11,.tail⟩] tL tL) tL) tL) (tN (tE Tryz.f176 [⟨1,12,.imm⟩,⟨1,13,.tail⟩] tL tL) (tE Tryz.f240 [⟨1,5,(.pre 4 (.frz (.t 4)))⟩] tL tL)))) (tN (tN (tE Tryz.f72 [] (tE Tryz.f136 [] (tE Tryz.f264 [⟨15,3,.imm⟩,⟨22,3,.imm⟩] tL tL) tL) (tE Tryz.f200 [⟨0,0,(.drw [4])⟩] tL tL)) (tE Tryz.f104 [⟨9,2,.imm⟩,⟨12,2,(.pre 2 (.frz (.t 2)))⟩,⟨13,2,(.pre 2 (.frz (.t 2)))⟩] (tE Tryz.f168 [⟨8,5,.imm⟩,⟨14,4,.imm⟩,⟨22,6,.imm⟩,⟨28,3,.imm⟩,⟨32,3,.imm⟩,⟨43,4,.imm⟩] tL tL) (tE Tryz.f232 [⟨3,12,.tail⟩] tL tL))) (tE Tryz.f56 [] (tE Tryz.f88 [⟨6,1,(.pre 56 (.frzf 5 4 (.t 56)))⟩,⟨1,12,.tail⟩] (tE Tryz.f152 [] (tE Tryz.f280 [] tL tL) tL) (tE Tryz.f216 [] tL tL)) (tN (tE Tryz.f184 [] tL tL) (tE Tryz.f248 [⟨2,19,.tail⟩] tL tL))))) (tN (tE Tryz.f20 [] (tN (tE Tryz.f68 [] (tE Tryz.f132 [] tL tL) (tE Tryz.f196 [] tL tL)) (tE Tryz.f100 [⟨18,0,(.drw [9,10,11,13])⟩,⟨8,3,.imm⟩,⟨8,7,.imm⟩,⟨14,2,.imm⟩,⟨18,10,.imm⟩,⟨1,4,.tail⟩,⟨8,0,(.drw [4,8,10,12])⟩] (tE Tryz.f164 [] tL tL) (tE Tryz.f228 [] tL tL))) (tE Tryz.f52 [⟨15,11,(.pre 64 (.frzf 5 4 (.t 64)))⟩,⟨12,3,.imm⟩,⟨14,3,.imm⟩,⟨10,4,.imm⟩,⟨15,14,(.pre 3 (.frz (.t 3)))⟩,⟨15,11,.tail⟩] (tE Tryz.f84 [⟨7,3,.imm⟩] (tE Tryz.f148 [⟨21,3,.imm⟩,⟨2,8,.tail⟩] (tE Tryz.f276 [] tL tL) tL) tL) (tE Tryz.f116 [] (tE Tryz.f180 [] tL tL) (tE Tryz.f244 [] tL tL)))) (tN (tE Tryz.f44 [] (tE Tryz.f76 [] (tE Tryz.f140 [] (tE Tryz.f268 [] tL tL) tL) (tE Tryz.f204 [⟨2,6,.tail⟩,⟨5,0,(.drw [4])⟩,⟨7,0,(.drw [4])⟩] tL tL)) (tE Tryz.f108 [⟨7,2,.imm⟩,⟨9,2,(.pre 2 (.frz (.t 2)))⟩,⟨1,1,(.pre 3 (.own 5 (.t 3)))⟩,⟨6,7,.tail⟩] (tE Tryz.f172 [] tL tL) (tE Tryz.f236 [] tL tL))) (tN (tE Tryz.f92 [] (tE Tryz.f156 [⟨1,14,(.var 16)⟩,⟨1,0,(.drw [15,17])⟩,⟨26,1,(.pre 8 (.own 1 (.t 8)))⟩,⟨4,0,(.drw [4])⟩,⟨7,0,(.drw [8])⟩,⟨9,0,(.drw [4])⟩,⟨17,0,(.drw [4])⟩,⟨20,0,(.drw [4])⟩,⟨24,0,(.drw [9])⟩] tL tL) (tE Tryz.f220 [] tL tL)) (tE Tryz.f124 [] (tE Tryz.f188 [] tL tL) (tE Tryz.f252 [⟨1,14,(.pre 0 (.frz (.t 0)))⟩] tL tL)))))) (tN (tN (tN (tN (tN (tE Tryz.f130 [⟨6,3,.imm⟩] (tE Tryz.f258 [] tL tL) tL) (tE Tryz.f194 [⟨3,15,(.pre 0 (.frz (.t 0)))⟩] tL tL)) (tE Tryz.f98 [⟨30,9,.imm⟩,⟨30,10,.imm⟩] tL (tE Tryz.f226 [] tL tL))) (tN (tE Tryz.f82 [] (tE Tryz.f146 [] (tE Tryz.f274 [⟨13,2,.imm⟩,⟨20,2,.imm⟩,⟨21,2,.imm⟩,⟨8,5,.imm⟩,⟨22,2,(.pre 4 (.frz (.t 4)))⟩] tL tL) tL) tL) (tE Tryz.f114 [] (tE Tryz.f178 [] tL tL) (tE Tryz.f242 [⟨1,1,.imm⟩,⟨1,6,(.pre 4 (.frz (.t 4)))⟩] tL tL)))) (tN (tN (tN (tE Tryz.f138 [] (tE Tryz.f266 [] tL tL) tL) (tE Tryz.f202 [⟨0,0,(.drw [4])⟩] tL tL)) (tE Tryz.f106 [⟨5,4,.imm⟩,⟨7,2,(.pre 4 (.frz (.t 4)))⟩,⟨1,1,(.pre 5 (.own 1 (.t 5)))⟩] (tE Tryz.f170 [⟨16,2,.imm⟩,⟨17,2,(.pre 2 (.frz (.t 2)))⟩] tL tL) (tE Tryz.f234 [⟨1,4,.imm⟩,⟨3,2,(.pre 10 (.frz (.t 10)))⟩,⟨5,4,.imm⟩,⟨5,7,(.pre 10 (.frz (.t 10)))⟩] tL tL))) (tE Tryz.f58 [] (tE Tryz.f90 [⟨15,13,.imm⟩,⟨16,2,(.pre 2 (.frz (.t 2)))⟩,⟨15,14,.tail⟩] (tE Tryz.f154 [] tL tL) (tE Tryz.f218 [⟨6,3,.imm⟩,⟨11,3,.imm⟩,⟨17,5,.imm⟩] tL tL)) (tE Tryz.f122 [⟨7,5,.imm⟩,⟨7,9,(.pre 2 (.frz (.t 2)))⟩,⟨9,6,.imm⟩] (tE Tryz.f186 [] tL tL) (tE Tryz.f250 [] tL tL))))) (tN (tN (tE Tryz.f38 [⟨1,2,(.pre 0 (.frz (.t 0)))⟩] (tE Tryz.f70 [] (tE Tryz.f134 [⟨14,2,(.pre 68 (.frzf 4 1 (.t 68)))⟩,⟨13,11,.imm⟩,⟨14,2,.imm⟩,⟨15,2,(.pre 2 (.frz (.t 2)))⟩,⟨13,12,.tail⟩] (tE Tryz.f262 [] tL tL) tL) (tE Tryz.f198 [] tL tL)) (tE Tryz.f102 [] (tE Tryz.f166 [] tL tL) (tE Tryz.f230 [] tL tL))) (tE Tryz.f54 [⟨35,0,(.pre 9 (.frzf 6 0 (.t 9)))⟩,⟨33,3,.imm⟩,⟨33,11,.imm⟩,⟨37,5,(.pre 3 (.frz (.t 3)))⟩,⟨10,1,(.pre 10 (.own 1 (.t 10)))⟩,⟨7,11,.tail⟩,⟨24,0,(.drw [5,6,8])⟩,⟨26,8,.tail⟩,⟨31,0,(.drw [11])⟩,⟨33,0,(.drw [4,10,11,12,14,15])⟩] (tE Tryz.f86 [⟨3,12,.imm⟩,⟨0,10,.tail⟩,⟨3,13,.tail⟩] (tE Tryz.f150 [⟨18,11,.imm⟩,⟨16,19,.imm⟩,⟨25,3,.imm⟩,⟨2,10,.tail⟩,⟨16,20,.tail⟩,⟨18,16,.tail⟩] (tE Tryz.f278 [] tL tL) tL) tL) (tE Tryz.f118 [] (tE Tryz.f182 [] tL tL) (tE Tryz.f246 [⟨6,4,.imm⟩,⟨8,2,(.pre 4 (.frz (.t 4)))⟩,⟨1,1,(.pre 5 (.own 3 (.t 5)))⟩] tL tL)))) (tN (tN (tE Tryz.f78 [⟨1,6,.imm⟩,⟨3,0,.imm⟩] (tE Tryz.f142 [⟨7,2,(.pre 6 (.frz (.t 6)))⟩] (tE Tryz.f270 [] tL tL) tL) (tE Tryz.f206 [] tL tL)) (tN (tE Tryz.f174 [⟨0,15,.tail⟩] tL tL) (tE Tryz.f238 [⟨1,2,.imm⟩] tL tL))) (tE Tryz.f62 [] (tE Tryz.f94 [⟨12,4,(.pre 2 (.frz (.t 2)))⟩,⟨4,6,.tail⟩] tL (tE Tryz.f222 [⟨4,3,.imm⟩,⟨6,3,.imm⟩,⟨8,2,(.pre 2 (.frz (.t 2)))⟩] tL tL)) (tE Tryz.f126 [⟨8,4,.imm⟩,⟨11,4,.imm⟩] (tE Tryz.f190 [⟨10,2,.imm⟩,⟨11,4,(.pre 4 (.frz (.t 4)))⟩,⟨10,0,(.drw [3,10])⟩] tL tL) (tE Tryz.f254 [⟨6,2,(.pre 4 (.frz (.t 4)))⟩] tL tL))))))))
theorem zBS : zLX Tryz.prog zVz := zH7 (hN (hN (hN (hN (hN (hN (hE Tryz.func63 (hE Tryz.func127 (hE Tryz.func255 hL hL) hL) (hE Tryz.func191 hL hL)) (hE Tryz.func95 hL (hE Tryz.func223 hL hL))) (hE Tryz.func47 (hE Tryz.func79 (hE Tryz.func143 (hE Tryz.func271 hL hL) hL) (hE Tryz.func207 hL hL)) (hN (hE Tryz.func175 hL hL) (hE Tryz.func239 hL hL)))) (hN (hE Tryz.func39 (hE Tryz.func71 (hE Tryz.func135 (hE Tryz.func263 hL hL) hL) (hE Tryz.func199 hL hL)) (hE Tryz.func103 (hE Tryz.func167 hL hL) (hE Tryz.func231 hL hL))) (hN (hE Tryz.func87 (hE Tryz.func151 (hE Tryz.func279 hL hL) hL) hL) (hN (hE Tryz.func183 hL hL) (hE Tryz.func247 hL hL))))) (hN (hE Tryz.func19 (hN (hE Tryz.func67 (hE Tryz.func131 (hE Tryz.func259 hL hL) hL) (hE Tryz.func195 hL hL)) (hE Tryz.func99 hL (hE Tryz.func227 hL hL))) (hN (hE Tryz.func83 (hE Tryz.func147 (hE Tryz.func275 hL hL) hL) hL) (hN (hE Tryz.func179 hL hL) (hE Tryz.func243 hL hL)))) (hN (hE Tryz.func43 (hN (hE Tryz.func139 (hE Tryz.func267 hL hL) hL) (hE Tryz.func203 hL hL)) (hE Tryz.func107 (hE Tryz.func171 hL hL) (hE Tryz.func235 hL hL))) (hN (hE Tryz.func91 (hE Tryz.func155 hL hL) (hE Tryz.func219 hL hL)) (hE Tryz.func123 (hE Tryz.func187 hL hL) (hE Tryz.func251 hL hL)))))) (hN (hN (hN (hN (hN (hE Tryz.func129 (hE Tryz.func257 hL hL) hL) (hE Tryz.func193 hL hL)) (hE Tryz.func97 hL (hE Tryz.func225 hL hL))) (hE Tryz.func49 (hE Tryz.func81 (hE Tryz.func145 (hE Tryz.func273 hL hL) hL) hL) (hE Tryz.func113 (hE Tryz.func177 hL hL) (hE Tryz.func241 hL hL)))) (hN (hN (hN (hE Tryz.func137 (hE Tryz.func265 hL hL) hL) (hE Tryz.func201 hL hL)) (hE Tryz.func105 (hE Tryz.func169 hL hL) (hE Tryz.func233 hL hL))) (hE Tryz.func57 (hE Tryz.func89 (hE Tryz.func153 (hE Tryz.func281 hL hL) hL) (hE Tryz.func217 hL hL)) (hE Tryz.func121 (hE Tryz.func185 hL hL) (hE Tryz.func249 hL hL))))) (hN (hN (hN (hE Tryz.func69 (hE Tryz.func133 hL hL) (hE Tryz.func197 hL hL)) (hE Tryz.func101 (hE Tryz.func165 hL hL) (hE Tryz.func229 hL hL))) (hE Tryz.func53 (hE Tryz.func85 (hE Tryz.func149 (hE Tryz.func277 hL hL) hL) (hE Tryz.func213 hL hL)) (hE Tryz.func117 (hE Tryz.func181 hL hL) (hE Tryz.func245 hL hL)))) (hN (hN (hE Tryz.func77 (hE Tryz.func141 (hE Tryz.func269 hL hL) hL) (hE Tryz.func205 hL hL)) (hE Tryz.func109 (hE Tryz.func173 hL hL) (hE Tryz.func237 hL hL))) (hN (hE Tryz.func93 hL (hE Tryz.func221 hL hL)) (hE Tryz.func125 (hE Tryz.func189 hL hL) (hE Tryz.func253 hL hL))))))) (hN (hN (hN (hE Tryz.func16 (hN (hN (hE Tryz.func128 (hE Tryz.func256 hL hL) hL) (hE Tryz.func192 hL hL)) (hE Tryz.func96 hL (hE Tryz.func224 hL hL))) (hE Tryz.func48 (hE Tryz.func80 (hE Tryz.func144 (hE Tryz.func272 hL hL) hL) hL) (hN (hE Tryz.func176 hL hL) (hE Tryz.func240 hL hL)))) (hN (hN (hE Tryz.func72 (hE Tryz.func136 (hE Tryz.func264 hL hL) hL) (hE Tryz.func200 hL hL)) (hE Tryz.func104 (hE Tryz.func168 hL hL) (hE Tryz.func232 hL hL))) (hE Tryz.func56 (hE Tryz.func88 (hE Tryz.func152 (hE Tryz.func280 hL hL) hL) (hE Tryz.func216 hL hL)) (hN (hE Tryz.func184 hL hL) (hE Tryz.func248 hL hL))))) (hN (hE Tryz.func20 (hN (hE Tryz.func68 (hE Tryz.func132 hL hL) (hE Tryz.func196 hL hL)) (hE Tryz.func100 (hE Tryz.func164 hL hL) (hE Tryz.func228 hL hL))) (hE Tryz.func52 (hE Tryz.func84 (hE Tryz.func148 (hE Tryz.func276 hL hL) hL) hL) (hE Tryz.func116 (hE Tryz.func180 hL hL) (hE Tryz.func244 hL hL)))) (hN (hE Tryz.func44 (hE Tryz.func76 (hE Tryz.func140 (hE Tryz.func268 hL hL) hL) (hE Tryz.func204 hL hL)) (hE Tryz.func108 (hE Tryz.func172 hL hL) (hE Tryz.func236 hL hL))) (hN (hE Tryz.func92 (hE Tryz.func156 hL hL) (hE Tryz.func220 hL hL)) (hE Tryz.func124 (hE Tryz.func188 hL hL) (hE Tryz.func252 hL hL)))))) (hN (hN (hN (hN (hN (hE Tryz.func130 (hE Tryz.func258 hL hL) hL) (hE Tryz.func194 hL hL)) (hE Tryz.func98 hL (hE Tryz.func226 hL hL))) (hN (hE Tryz.func82 (hE Tryz.func146 (hE Tryz.func274 hL hL) hL) hL) (hE Tryz.func114 (hE Tryz.func178 hL hL) (hE Tryz.func242 hL hL)))) (hN (hN (hN (hE Tryz.func138 (hE Tryz.func266 hL hL) hL) (hE Tryz.func202 hL hL)) (hE Tryz.func106 (hE Tryz.func170 hL hL) (hE Tryz.func234 hL hL))) (hE Tryz.func58 (hE Tryz.func90 (hE Tryz.func154 hL hL) (hE Tryz.func218 hL hL)) (hE Tryz.func122 (hE Tryz.func186 hL hL) (hE Tryz.func250 hL hL))))) (hN (hN (hE Tryz.func38 (hE Tryz.func70 (hE Tryz.func134 (hE Tryz.func262 hL hL) hL) (hE Tryz.func198 hL hL)) (hE Tryz.func102 (hE Tryz.func166 hL hL) (hE Tryz.func230 hL hL))) (hE Tryz.func54 (hE Tryz.func86 (hE Tryz.func150 (hE Tryz.func278 hL hL) hL) hL) (hE Tryz.func118 (hE Tryz.func182 hL hL) (hE Tryz.func246 hL hL)))) (hN (hN (hE Tryz.func78 (hE Tryz.func142 (hE Tryz.func270 hL hL) hL) (hE Tryz.func206 hL hL)) (hN (hE Tryz.func174 hL hL) (hE Tryz.func238 hL hL))) (hE Tryz.func62 (hE Tryz.func94 hL (hE Tryz.func222 hL hL)) (hE Tryz.func126 (hE Tryz.func190 hL hL) (hE Tryz.func254 hL hL))))))))
end Go.Proofs.YtbibhcmcjldhdaaGreatDoor
/- Closed calls,by the kernel (printed by wip/tools/facts.py). -/
namespace Go.Proofs.YtbibhcmcjldhdaaGreatDoor
open Go Go.Ax
set_option maxRecDepth 100000

def zIS : zGq := ⟨122,[str [112,114,111,99,32,102,40,120,58,32,105,110,116,41,58,32,98,111,111,108,32,123,32,114,101,116,117,114,110,32,120,32,62,32,48,32,97,110,100,32,120,32,60,32,51,59,32,125]],.tup [.sl 4 [[int 1,int 0,int 0,int 4],[int 0,int 4,int 5,int 6],[int 3,int 6,int 6,int 7],[int 0,int 7,int 7,int 8],[int 3,int 8,int 8,int 9],[int 1,int 9,int 10,int 13],[int 3,int 13,int 13,int 14],[int 3,int 14,int 14,int 15],[int 1,int 15,int 16,int 20],[int 3,int 20,int 21,int 22],[int 1,int 22,int 23,int 29],[int 0,int 29,int 30,int 31],[int 3,int 31,int 32,int 33],[int 2,int 33,int 34,int 35],[int 1,int 35,int 36,int 39],[int 0,int 39,int 40,int 41],[int 3,int 41,int 42,int 43],[int 2,int 43,int 44,int 45],[int 3,int 45,int 45,int 46],[int 3,int 46,int 47,int 48],[int 5,int 48,int 48,int 48]],int 0]⟩
theorem zIR : zBT Tryz.prog zIS :=
  zA5 (l := []) (fun q hq => by simp at hq)
    zBS (m := 200) (d := 60) (by kernel_rfl) (by kernel_rfl) (by kernel_rfl)
def zG5 : zGq := ⟨52,[str [112,114,111,99,32,102,40,120,58,32,105,110,116,41,58,32,98,111,111,108,32,123,32,114,101,116,117,114,110,32,120,32,62,32,48,32,97,110,100,32,120,32,60,32,51,59,32,125]],.tup [.agg [int 2,str [],int 0,int 48,.sl 5 [[int 5,str [102],int 0,int 48,.sl 5 [[int 6,str [],int 6,int 14,.sl 5 [[int 7,str [120],int 7,int 13,.sl 5 [[int 9,str [105,110,116],int 10,int 13,.sl 5 []]]]]],[int 9,str [98,111,111,108],int 16,int 20,.sl 5 []],[int 11,str [],int 21,int 48,.sl 5 [[int 17,str [],int 23,int 46,.sl 5 [[int 29,str [97,110,100],int 30,int 45,.sl 5 [[int 29,str [62],int 30,int 35,.sl 5 [[int 20,str [120],int 30,int 31,.sl 5 []],[int 24,str [48],int 34,int 35,.sl 5 []]]],[int 29,str [60],int 40,int 45,.sl 5 [[int 20,str [120],int 40,int 41,.sl 5 []],[int 24,str [51],int 44,int 45,.sl 5 []]]]]]]]]]]]]],.sl 5 [],int 0]⟩
theorem zHL : zBT Tryz.prog zG5 :=
  zA5 (l := [zIS]) (fun q hq => by
    simp only [zY5,zZM,or_false] at hq
    subst hq; exact zIR)
    zBS (m := 200) (d := 60) (by kernel_rfl) (by kernel_rfl) (by kernel_rfl)
def zC8 : zGq := ⟨132,[.agg [int 2,str [],int 0,int 48,.sl 5 [[int 5,str [102],int 0,int 48,.sl 5 [[int 6,str [],int 6,int 14,.sl 5 [[int 7,str [120],int 7,int 13,.sl 5 [[int 9,str [105,110,116],int 10,int 13,.sl 5 []]]]]],[int 9,str [98,111,111,108],int 16,int 20,.sl 5 []],[int 11,str [],int 21,int 48,.sl 5 [[int 17,str [],int 23,int 46,.sl 5 [[int 29,str [97,110,100],int 30,int 45,.sl 5 [[int 29,str [62],int 30,int 35,.sl 5 [[int 20,str [120],int 30,int 31,.sl 5 []],[int 24,str [48],int 34,int 35,.sl 5 []]]],[int 29,str [60],int 40,int 45,.sl 5 [[int 20,str [120],int 40,int 41,.sl 5 []],[int 24,str [51],int 44,int 45,.sl 5 []]]]]]]]]]]]]]],bool true⟩
theorem zCq : zBT Tryz.prog zC8 :=
  zA5 (l := []) (fun q hq => by simp at hq)
    zBS (m := 200) (d := 60) (by kernel_rfl) (by kernel_rfl) (by kernel_rfl)
def zDT : zGq := ⟨134,[.agg [int 2,str [],int 0,int 48,.sl 5 [[int 5,str [102],int 0,int 48,.sl 5 [[int 6,str [],int 6,int 14,.sl 5 [[int 7,str [120],int 7,int 13,.sl 5 [[int 9,str [105,110,116],int 10,int 13,.sl 5 []]]]]],[int 9,str [98,111,111,108],int 16,int 20,.sl 5 []],[int 11,str [],int 21,int 48,.sl 5 [[int 17,str [],int 23,int 46,.sl 5 [[int 29,str [97,110,100],int 30,int 45,.sl 5 [[int 29,str [62],int 30,int 35,.sl 5 [[int 20,str [120],int 30,int 31,.sl 5 []],[int 24,str [48],int 34,int 35,.sl 5 []]]],[int 29,str [60],int 40,int 45,.sl 5 [[int 20,str [120],int 40,int 41,.sl 5 []],[int 24,str [51],int 44,int 45,.sl 5 []]]]]]]]]]]]]]],.sl 2 []⟩
theorem zDS : zBT Tryz.prog zDT :=
  zA5 (l := [zC8]) (fun q hq => by
    simp only [zY5,zZM,or_false] at hq
    subst hq; exact zCq)
    zBS (m := 200) (d := 60) (by kernel_rfl) (by kernel_rfl) (by kernel_rfl)
def zFc : zGq := ⟨94,[.agg [int 2,str [],int 0,int 48,.sl 5 [[int 5,str [102],int 0,int 48,.sl 5 [[int 6,str [],int 6,int 14,.sl 5 [[int 7,str [120],int 7,int 13,.sl 5 [[int 9,str [105,110,116],int 10,int 13,.sl 5 []]]]]],[int 9,str [98,111,111,108],int 16,int 20,.sl 5 []],[int 11,str [],int 21,int 48,.sl 5 [[int 17,str [],int 23,int 46,.sl 5 [[int 29,str [97,110,100],int 30,int 45,.sl 5 [[int 29,str [62],int 30,int 35,.sl 5 [[int 20,str [120],int 30,int 31,.sl 5 []],[int 24,str [48],int 34,int 35,.sl 5 []]]],[int 29,str [60],int 40,int 45,.sl 5 [[int 20,str [120],int 40,int 41,.sl 5 []],[int 24,str [51],int 44,int 45,.sl 5 []]]]]]]]]]]]]]],.tup [.sl 8 [[int 0,int 1,int 0,int 2,int 0,str [],int 16,int 20],[int 0,int 3,int 0,int 1,int 0,str [],int 10,int 13],[int 1,int 8,int 1,int 0,int 0,str [],int 23,int 46],[int 0,int 9,int 0,int 2,int 0,str [],int 30,int 35],[int 0,int 12,int 0,int 2,int 0,str [],int 40,int 45],[int 0,int 8,int 0,int 2,int 0,str [],int 30,int 45],[int 0,int 10,int 0,int 1,int 0,str [],int 30,int 31],[int 0,int 11,int 0,int 1,int 0,str [],int 34,int 35],[int 0,int 9,int 0,int 2,int 0,str [],int 30,int 35],[int 1,int 10,int 3,int 0,int 0,str [],int 30,int 31],[int 0,int 11,int 0,int 1,int 0,str [],int 34,int 35],[int 0,int 13,int 0,int 1,int 0,str [],int 40,int 41],[int 0,int 14,int 0,int 1,int 0,str [],int 44,int 45],[int 0,int 12,int 0,int 2,int 0,str [],int 40,int 45],[int 1,int 13,int 3,int 0,int 0,str [],int 40,int 41],[int 0,int 14,int 0,int 1,int 0,str [],int 44,int 45]],int 0]⟩
theorem zGg : zBT Tryz.prog zFc :=
  zA5 (l := [zC8,zDT]) (fun q hq => by
    simp only [zY5,zZM,or_false] at hq
    rcases hq with rfl | rfl
    · exact zCq
    · exact zDS)
    zBS (m := 200) (d := 60) (by kernel_rfl) (by kernel_rfl) (by kernel_rfl)
def zG4 : zGq := ⟨95,[int 15,.sl 8 [[int 0,int 1,int 0,int 2,int 0,str [],int 16,int 20],[int 0,int 3,int 0,int 1,int 0,str [],int 10,int 13],[int 1,int 8,int 1,int 0,int 0,str [],int 23,int 46],[int 0,int 9,int 0,int 2,int 0,str [],int 30,int 35],[int 0,int 12,int 0,int 2,int 0,str [],int 40,int 45],[int 0,int 8,int 0,int 2,int 0,str [],int 30,int 45],[int 0,int 10,int 0,int 1,int 0,str [],int 30,int 31],[int 0,int 11,int 0,int 1,int 0,str [],int 34,int 35],[int 0,int 9,int 0,int 2,int 0,str [],int 30,int 35],[int 1,int 10,int 3,int 0,int 0,str [],int 30,int 31],[int 0,int 11,int 0,int 1,int 0,str [],int 34,int 35],[int 0,int 13,int 0,int 1,int 0,str [],int 40,int 41],[int 0,int 14,int 0,int 1,int 0,str [],int 44,int 45],[int 0,int 12,int 0,int 2,int 0,str [],int 40,int 45],[int 1,int 13,int 3,int 0,int 0,str [],int 40,int 41],[int 0,int 14,int 0,int 1,int 0,str [],int 44,int 45]]],.tup [.sl 3 [[int 0,int 0,str []],[int 2,int 0,str []],[int 0,int 0,str []],[int 1,int 0,str []],[int 0,int 0,str []],[int 0,int 0,str []],[int 0,int 0,str []],[int 0,int 0,str []],[int 2,int 0,str []],[int 2,int 0,str []],[int 1,int 0,str []],[int 1,int 0,str []],[int 2,int 0,str []],[int 1,int 0,str []],[int 1,int 0,str []]],.sl 1 [],int 0]⟩
theorem zHK : zBT Tryz.prog zG4 :=
  zA5 (l := [zC8]) (fun q hq => by
    simp only [zY5,zZM,or_false] at hq
    subst hq; exact zCq)
    zBS (m := 200) (d := 60) (by kernel_rfl) (by kernel_rfl) (by kernel_rfl)
def zIQ : zGq := ⟨53,[.agg [int 2,str [],int 0,int 48,.sl 5 [[int 5,str [102],int 0,int 48,.sl 5 [[int 6,str [],int 6,int 14,.sl 5 [[int 7,str [120],int 7,int 13,.sl 5 [[int 9,str [105,110,116],int 10,int 13,.sl 5 []]]]]],[int 9,str [98,111,111,108],int 16,int 20,.sl 5 []],[int 11,str [],int 21,int 48,.sl 5 [[int 17,str [],int 23,int 46,.sl 5 [[int 29,str [97,110,100],int 30,int 45,.sl 5 [[int 29,str [62],int 30,int 35,.sl 5 [[int 20,str [120],int 30,int 31,.sl 5 []],[int 24,str [48],int 34,int 35,.sl 5 []]]],[int 29,str [60],int 40,int 45,.sl 5 [[int 20,str [120],int 40,int 41,.sl 5 []],[int 24,str [51],int 44,int 45,.sl 5 []]]]]]]]]]]]]]],.tup [.agg [int 2,str [],int 0,int 48,.sl 5 [[int 5,str [102],int 0,int 48,.sl 5 [[int 6,str [],int 6,int 14,.sl 5 [[int 7,str [120],int 7,int 13,.sl 5 [[int 9,str [105,110,116],int 10,int 13,.sl 5 []]]]]],[int 9,str [98,111,111,108],int 16,int 20,.sl 5 []],[int 11,str [],int 21,int 48,.sl 5 [[int 17,str [],int 23,int 46,.sl 5 [[int 29,str [97,110,100],int 30,int 45,.sl 5 [[int 29,str [62],int 30,int 35,.sl 5 [[int 20,str [120],int 30,int 31,.sl 5 []],[int 24,str [48],int 34,int 35,.sl 5 []]]],[int 29,str [60],int 40,int 45,.sl 5 [[int 20,str [120],int 40,int 41,.sl 5 []],[int 24,str [51],int 44,int 45,.sl 5 []]]]]]]]]]]]],.sl 3 [[int 0,int 0,str []],[int 0,int 0,str []],[int 0,int 0,str []],[int 0,int 0,str []],[int 0,int 0,str []],[int 0,int 0,str []],[int 0,int 0,str []],[int 0,int 0,str []],[int 2,int 0,str []],[int 2,int 0,str []],[int 1,int 0,str []],[int 1,int 0,str []],[int 2,int 0,str []],[int 1,int 0,str []],[int 1,int 0,str []]],.sl 1 [[int (-1)],[int (-1)],[int (-1)],[int 0],[int (-1)],[int (-1)],[int (-1)],[int (-1)],[int (-1)],[int (-1)],[int 0],[int (-1)],[int (-1)],[int 0],[int (-1)]],.sl 2 [],.sl 9 [[str [102],int 1,int 1,int 2,int 0,str [],.sl 8 [[str [120],int 1,int 0,str [],int 0,int 3,bool false,bool false]],int 1,zAl]]],zAl,int 0]⟩
theorem zIP : zBT Tryz.prog zIQ :=
  zA5 (l := [zC8,zDT,zFc,zG4]) (fun q hq => by
    simp only [zY5,zZM,or_false] at hq
    rcases hq with rfl | rfl | rfl | rfl
    · exact zCq
    · exact zDS
    · exact zGg
    · exact zHK)
    zBS (m := 200) (d := 60) (by kernel_rfl) (by kernel_rfl) (by kernel_rfl)
def zG3 : zGq := ⟨19,[str [112,114,111,99,32,102,40,120,58,32,105,110,116,41,58,32,98,111,111,108,32,123,32,114,101,116,117,114,110,32,120,32,62,32,48,32,97,110,100,32,120,32,60,32,51,59,32,125]],.tup [.agg [int 2,str [],int 0,int 48,.sl 5 [[int 5,str [102],int 0,int 48,.sl 5 [[int 6,str [],int 6,int 14,.sl 5 [[int 7,str [120],int 7,int 13,.sl 5 [[int 9,str [105,110,116],int 10,int 13,.sl 5 []]]]]],[int 9,str [98,111,111,108],int 16,int 20,.sl 5 []],[int 11,str [],int 21,int 48,.sl 5 [[int 17,str [],int 23,int 46,.sl 5 [[int 29,str [97,110,100],int 30,int 45,.sl 5 [[int 29,str [62],int 30,int 35,.sl 5 [[int 20,str [120],int 30,int 31,.sl 5 []],[int 24,str [48],int 34,int 35,.sl 5 []]]],[int 29,str [60],int 40,int 45,.sl 5 [[int 20,str [120],int 40,int 41,.sl 5 []],[int 24,str [51],int 44,int 45,.sl 5 []]]]]]]]]]]]],.sl 3 [[int 0,int 0,str []],[int 0,int 0,str []],[int 0,int 0,str []],[int 0,int 0,str []],[int 0,int 0,str []],[int 0,int 0,str []],[int 0,int 0,str []],[int 0,int 0,str []],[int 2,int 0,str []],[int 2,int 0,str []],[int 1,int 0,str []],[int 1,int 0,str []],[int 2,int 0,str []],[int 1,int 0,str []],[int 1,int 0,str []]],.sl 1 [[int (-1)],[int (-1)],[int (-1)],[int 0],[int (-1)],[int (-1)],[int (-1)],[int (-1)],[int (-1)],[int (-1)],[int 0],[int (-1)],[int (-1)],[int 0],[int (-1)]],.sl 2 [],.sl 9 [[str [102],int 1,int 1,int 2,int 0,str [],.sl 8 [[str [120],int 1,int 0,str [],int 0,int 3,bool false,bool false]],int 1,zAl]]],.sl 0 [],int 0]⟩
theorem zHJ : zBT Tryz.prog zG3 :=
  zA5 (l := [zG5,zIQ]) (fun q hq => by
    simp only [zY5,zZM,or_false] at hq
    rcases hq with rfl | rfl
    · exact zHL
    · exact zIP)
    zBS (m := 200) (d := 60) (by kernel_rfl) (by kernel_rfl) (by kernel_rfl)
end Go.Proofs.YtbibhcmcjldhdaaGreatDoor
namespace Go.Proofs.YtbibhcmcjldhdaaGreatDoor
open Go Go.Ax Go.RowKit
set_option maxRecDepth 100000
set_option linter.unusedSimpArgs false
set_option linter.unusedVariables false
set_option maxHeartbeats 4000000
structure zKR (N : Int->Prop) : Prop where
 call : ∀ n,N n->∀ H,ACall Tryz.prog 40 [int n] H fun x H' => x = str (Lib.itoa n)/\H' = H
 len : ∀ n,N n->(Lib.itoa n).length <= 20
def zEi (o a b : Int) : List Int := [a,b].take (zCl o.toNat)
theorem zHQ (n : Nat) : zCl n <= 2 := by
 unfold zCl
 split
 ·omega
 ·split <;> omega
theorem zGK (o a b : Int) : (zEi o a b).length = zCl o.toNat := by
 have := zHQ o.toNat
 unfold zEi; simp only [zZW,zYs,zYw]; omega
def zEs (o a b : Int) : Ln := opsW.getD o.toNat [] :: (zEi o a b).map Lib.itoa
mutual
def zQK (d : Nat) : Ins->Wd
 | .mk o a b l m => zDm d (zEs o a b) ++ (if o = 18 then lsT (d + 1) l ++ (zDm d [zHg] ++ (lsT (d + 1) m ++ zDm d [zER])) else if o = 19 then lsT (d + 1) m ++ (zDm d [wDo] ++ (lsT (d + 1) l ++ zDm d [zER])) else [])
def lsT (d : Nat) : List Ins->Wd
 | [] => []
 | x :: l => zQK d x ++ lsT d l
end
mutual
def FOk (N : Int->Prop) : Ins->Prop
 | .mk o a b l m => (0 <= o/\o <= 22/\∀ n ∈ zEi o a b,N n)/\zQZ N l/\zQZ N m
def zQZ (N : Int->Prop) : List Ins->Prop
 | [] => True
 | x :: l => FOk N x/\zQZ N l
end
theorem zJw (d : Nat) : ∀ l m : List Ins,lsT d (l ++ m) = lsT d l ++ lsT d m
 | [],m => by simp [lsT]
 | x :: l,m => by simp [lsT,zJw d l m]
theorem zKS {N : Int->Prop} : ∀ {l : List Ins},zQZ N l->∀ x ∈ l,FOk N x
 | y :: l,h,x,hx => by
  simp only [zQZ] at h
  rcases zY5.1 hx with rfl | hx
  ·exact h.1
  ·exact zKS h.2 x hx
theorem zPq : ∀ o : Nat,(opsW.getD o []).length <= 8 := by
 intro o
 by_cases h : o < 23
 ·have : ∀ o : Fin 23,(opsW.getD o.1 []).length <= 8 := by decide
  exact this ⟨o,h⟩
 ·have : opsW[o]? = none := zZu (by simp only [opsW,zYs,zYw]; omega)
  simp [List.getD,this]
theorem zKq {ws : Ln} {k : Nat} : (∀ w ∈ ws,w.length <= k)->zDI ws <= ws.length * (k + 1) := by
 induction ws with
 | nil => simp [zDI]
 | cons w l ih =>
  intro h
  have h1 := h w (by simp)
  have h2 := ih fun w hw => h w (by simp [hw])
  simp only [zDI,zYs,zZs]
  omega
theorem zNJ {N : Int->Prop} (hN : zKR N) {o a b : Int} (h : ∀ n ∈ zEi o a b,N n) : zDI (zEs o a b) <= 63/\(zEs o a b).length <= 3 := by
 have hl : (zEs o a b).length <= 3 := by
  have := zGK o a b
  have := zHQ o.toNat
  simp only [zEs,zYs,zYo]; omega
 refine ⟨?_,hl⟩
 have := zKq (ws := zEs o a b) (k := 20) fun w hw => by
  simp only [zEs,zY5,zZl] at hw
  rcases hw with rfl | ⟨n,hn,rfl⟩
  ·have := zPq o.toNat; omega
  ·exact hN.len n (h n hn)
 omega
theorem BSt.app {n0 r : Nat} {l : List UInt8} {H : zB} (h : BSt n0 r l H) (X : zB) : BSt n0 r l (H ++ X) := by
 have hg : ∀ (i : Nat) (o : HO),H[i]? = some o->(H ++ X)[i]? = some o := fun i o ho => by
  rw [zYD (zYr.1 ho).1]; exact ho
 obtain ⟨h0,⟨h1,h2⟩ | ⟨h1,h2⟩ | ⟨k,v,h1,h2,h3,h4⟩⟩ := h
 ·exact ⟨h0,.inl ⟨hg _ _ h1,h2⟩⟩
 ·exact ⟨h0,.inr (.inl ⟨hg _ _ h1,h2⟩)⟩
 ·exact ⟨h0,.inr (.inr ⟨k,v,h1,h2,hg _ _ h3,hg _ _ h4⟩)⟩
theorem BSt.lt {n0 r : Nat} {l : List UInt8} {H : zB} (h : BSt n0 r l H) : r < H.length := by
 obtain ⟨h0,⟨h1,h2⟩ | ⟨h1,h2⟩ | ⟨k,v,h1,h2,h3,h4⟩⟩ := h
 ·exact (zYr.1 h1).1
 ·exact (zYr.1 h1).1
 ·exact (zYr.1 h3).1
theorem Kp.app (n0 r : Nat) (H X : zB) (hn : n0 <= H.length) : Kp n0 r H (H ++ X) :=
 ⟨by simp,fun i hi => zYD (by omega),fun i cs _ hc => by rw [zYD (zYr.1 hc).1]; exact hc⟩
abbrev zNs (r : Nat) : HO := .box [.fn (.func 33) [] [.ptr r 0 0]]
abbrev zNr (rl rs : Nat) : HO := .box [.fn (.func 37) [] [.ptr rl 0 0,.ptr rs 0 0]]
theorem zKl {d : Nat} {xs : List Ins} {j : Nat} (h : j < xs.length) : lsT d (xs.take (j + 1)) = lsT d (xs.take j) ++ zQK d (xs.getD j default) := by
 rw [zA0 h,zJw]
 simp [lsT]
theorem zNi {d : Nat} {xs : List Ins} {j : Nat} (h : j < xs.length) : (lsT d (xs.take j)).length + (zQK d (xs.getD j default)).length <= (lsT d xs).length := by
 have e : xs = xs.take (j + 1) ++ xs.drop (j + 1) := (zZv _ _).symm
 have := congrArg (fun l => (lsT d l).length) e
 simp only [zJw,zKl h,zYF] at this
 omega
theorem zIE {x : Ins} : ∀ {l : List Ins},x ∈ l->zBo x <= zQ l
 | y :: l,h => by
  simp only [zQ]
  rcases zY5.1 h with rfl | h
  ·omega
  ·have := zIE h; omega
set_option maxHeartbeats 8000000 in
theorem zU1 {N : Int->Prop} (hN : zKR N) (n0 r rl rs : Nat) (hrl : rl ≠ r) (hrs : rs ≠ r) : ∀ (m : Nat) (xs : List Ins) (d : Nat) (l : Wd) (H : zB),zQ xs < m->zQZ N xs->d + zQ xs <= 1000000->BSt n0 r l H->n0 <= H.length ->
  H[rl]? = some (zNs r)->H[rs]? = some (zNr rl rs)->l.length + (lsT d xs).length <= 100000000000000 ->
  ACall Tryz.prog 37 [int d,.sl 5 (xs.map zAq),.ptr rl 0 0,.ptr rs 0 0] H fun x H' => x = .tup []/\BSt n0 r (l ++ lsT d xs) H'/\Kp n0 r H H' := by
 intro m
 induction m with
 | zero => intro xs d l H h; omega
 | succ m ih =>
 intro xs d l H hm hx hd hb hn h1 h2 hl
 have hxl := zN xs
 refine enter Tryz.func37 L37f_ok (zYu rfl) ?_
 repeat' (simp -implicitDefEqProofs (disch := omega) only [L37f,push_cast,↓reduceIte,reduceCtorEq,Nat.reduceAdd])
 refine zW (fun (j : Nat) e' G => e' 0 = int d/\e' 2 = .ptr rl 0 0/\e' 3 = .ptr rs 0 0/\e' 14 = .sl 5 (xs.map zAq)/\e' 15 = int xs.length/\e' 16 = int j/\j <= xs.length/\BSt n0 r (l ++ lsT d (xs.take j)) G/\Kp n0 r H G) (fun j => xs.length - j) 0 ?_ ?_
 ·exact ⟨rfl,rfl,rfl,rfl,rfl,rfl,zYO _,by simpa [lsT] using hb,Kp.refl _ _ _⟩
 rintro j e' G ⟨g0,g2,g3,g14,g15,g16,hj,hB,hK⟩
 by_cases hlt : j < xs.length
 rotate_left
 ·have e : j = xs.length := by omega
  subst e
  rw [zzai] at hB
  repeat' (simp -implicitDefEqProofs (disch := omega) only [g15,g16,zT,push_cast,↓reduceIte])
  exact ⟨by simp [zAH],rfl,hB,hK⟩
 have hmem := zAf hlt
 have hic := zIE hmem
 have hxx := zKS hx _ hmem
 have hst := zKl (d := d) hlt
 have hsp := zNi (d := d) hlt
 have hrG := hB.lt
 have hk1 := hK.2.2 rl _ hrl h1
 have hk2 := hK.2.2 rs _ hrs h2
 have hGl := hK.1
 generalize hxe : xs.getD j default = x at *
 obtain ⟨o,a,b,l1,l2⟩ := x
 simp only [FOk] at hxx
 obtain ⟨⟨o1,o2,hns⟩,f1,f2⟩ := hxx
 simp only [zBo] at hic
 obtain ⟨q,rfl⟩ : ∃ q : Nat,o = q := ⟨o.toNat,by omega⟩
 have hhl := zNJ hN hns
 have hwn : (opsW.map fun w => [str w]).length = 23 := rfl
 have hwg : (opsW.map fun w => [str w]).getD q [] = [str (opsW.getD q [])] := by
  have hq : q < opsW.length := by simp only [opsW,zYs,zYw]; omega
  simp [List.getD,zY6,zYK hq]
 have hW := fun H => zL1 H
 have hO := fun H => zGJ q H
 have hnl : (zEi q a b).length = zCl q := by
  have := zGK q a b
  rwa [zZy] at this
 have hne : zEi q a b = [a,b].take (zCl q) := by simp [zEi]
 have hal := zHQ q
 generalize zCl q = na at *
 generalize hwd : opsW.getD q [] = wd at *
 generalize hnsd : zEi q a b = ns at *
 by_cases hq19 : q = 19
 ·subst hq19
  repeat' (first | refine zYt (by omega) ?_ | refine zF (hW _) rfl ?_ | refine zF (hO _) rfl ?_ | simp -implicitDefEqProofs (disch := omega) only [g14,g15,g16,zL,hxe,zAq,hwg,hwn,zI,push_cast,↓reduceIte,Nat.reduceEqDiff,reduceCtorEq,Nat.reduceAdd,Nat.reduceLeDiff,Nat.reduceLT,Int.reduceToNat,Int.reduceLT,Int.reduceLE,Int.reduceAdd,zYp])
  refine zW (fun (k : Nat) e2 G2 => e2 0 = int d/\e2 2 = .ptr rl 0 0/\e2 3 = .ptr rs 0 0/\e2 14 = .sl 5 (xs.map zAq)/\e2 15 = int xs.length/\e2 16 = int j/\e2 7 = .ptr G.length 0 0/\e2 8 = .sl 5 (zBy l2)/\e2 9 = .sl 5 (zBy l1)/\e2 10 = str wDo/\e2 11 = .os (G.length + 1) k 0 (k + 1)/\e2 45 = .sl 1 (ns.map iR)/\e2 46 = int na/\e2 47 = int k/\k <= na/\G2 = G ++ .box [int (19 : Nat),int a,int b,.sl 5 (zBy l1),.sl 5 (zBy l2)] :: .arr k 1 ((wd :: (ns.take k).map Lib.itoa).map sR) :: []) (fun k => na - k) 0 ?_ ?_
  ·refine ⟨g0,g2,g3,g14,g15,g16,rfl,rfl,rfl,rfl,rfl,?_,?_,rfl,zYO _,rfl⟩
   ·rw [hne,List.map_take]; rfl
   ·show int _ = int _
    congr 1
    simp only [zZW,zYs,zYw]
    omega
  rintro k e2 G2 ⟨g0,g2,g3,g14,g15,g16,g7,g8,g9,g10,g11,g45,g46,g47,hk,rfl⟩
  by_cases hkl : k < na
  ·have hnk := hns _ (zAf (l := ns) (j := k) (by omega))
   have hts := zA0 (l := ns) (j := k) (by omega)
   have hfin : List.take (k + 1) ((wd :: (ns.take k).map Lib.itoa).map sR) ++ [sR (Lib.itoa (ns.getD k default))] = (wd :: (ns.take (k + 1)).map Lib.itoa).map sR := by
    rw [hts,zYN (by simp; omega)]
    simp
   have hrl2 : ((wd :: (ns.take k).map Lib.itoa).map sR).length = k + 1 := by simp; omega
   generalize hRk : (wd :: (ns.take k).map Lib.itoa).map sR = Rk at *
   repeat' (first | refine zYt (by omega) ?_ | refine zA (hN.call _ hnk _) ?_ | simp -implicitDefEqProofs (disch := omega) only [g11,g45,g46,g47,zL,iR,hrl2,zI,push_cast,↓reduceIte,Nat.reduceEqDiff,reduceCtorEq,Nat.reduceAdd,Nat.reduceLeDiff,Nat.reduceLT,Int.reduceAdd,zYp])
   exact .mk (k + 1) ⟨g0,g2,g3,g14,g15,g16,g7,g8,g9,g10,rfl,g45,g46,rfl,hkl,congrArg (fun z => G ++ HO.box [int (19 : Nat),int a,int b,.sl 5 (zBy l1),.sl 5 (zBy l2)] :: HO.arr (k + 1) 1 z :: []) hfin⟩ (by omega)
  have hkn : k = na := by omega
  subst hkn
  have hall : List.take (k + 1) ((wd :: (ns.take k).map Lib.itoa).map sR) = (zEs (19 : Nat) a b).map sR := by
   rw [zYN (by simp; omega),zYN (by omega),<- hwd]
   simp only [zEs,zZy,hnsd]
  have hrl2 : ((wd :: (ns.take k).map Lib.itoa).map sR).length = k + 1 := by simp; omega
  have hcl : zFj ((wd :: (ns.take k).map Lib.itoa).map sR) = true := zAM (fun _ => rfl) _
  generalize hRk : (wd :: (ns.take k).map Lib.itoa).map sR = Rk at *
  have hGs : ∀ X,(G ++ X)[rs]? = some (zNr rl rs) := fun X => by rw [zYD (zYr.1 hk2).1]; exact hk2
  have hGr : ∀ X,(G ++ X)[rl]? = some (zNs r) := fun X => by rw [zYD (zYr.1 hk1).1]; exact hk1
  repeat' (simp -implicitDefEqProofs (disch := omega) only [g0,g2,g11,g46,g47,hGr,hall,zT,push_cast,↓reduceIte,Nat.reduceEqDiff,reduceCtorEq,Nat.reduceAdd,Nat.reduceLeDiff,Int.reduceAdd])
  refine ⟨⟨by omega,hcl⟩,?_⟩
  refine zAb (zIA n0 r _ d (zEs (19 : Nat) a b) _ (hB.app _) (by simp; omega) (by omega) (by omega) (by simp only [zYF]; omega)) ?_
  rintro x G1 ⟨rfl,hb1,hk3⟩
  have m1 := hk3.2.2 G.length [int (19 : Nat),int a,int b,.sl 5 (zBy l1),.sl 5 (zBy l2)] (by omega) (by simp)
  have hkl3 := hk3.2.2 rl [.fn (.func 33) [] [.ptr r 0 0]] hrl (hGr _)
  have hks3 := hk3.2.2 rs _ hrs (hGs _)
  have hI : zQK d (.mk (19 : Nat) a b l1 l2) = zDm d (zEs (19 : Nat) a b) ++ (lsT (d + 1) l2 ++ (zDm d [wDo] ++ (lsT (d + 1) l1 ++ zDm d [zER]))) := by
   unfold zQK
   rw [if_neg (show ¬ ((19 : Nat) : Int) = 18 by decide),if_pos (show ((19 : Nat) : Int) = 19 from rfl)]
  rw [hI] at hst hsp
  simp only [zYF] at hsp
  have ca := ih l2 (d + 1) _ G1 (by omega) f2 (by omega) hb1 (by have := hk3.1; simp only [zYF] at this; omega) hkl3 hks3 (by simp only [zYF]; omega)
  rw [<- zAh,show ((d + 1 : Nat) : Int) = (d : Int) + 1 from rfl] at ca
  repeat' (simp -implicitDefEqProofs (disch := omega) only [g0,g3,g7,g8,m1,hks3,push_cast,↓reduceIte,Nat.reduceEqDiff,reduceCtorEq,Nat.reduceAdd,Nat.reduceLeDiff,Int.reduceEq,Int.reduceAdd])
  refine zAb ca ?_
  rintro x G2 ⟨rfl,hb2,hk4⟩
  have m2 := hk4.2.2 G.length [int (19 : Nat),int a,int b,.sl 5 (zBy l1),.sl 5 (zBy l2)] (by omega) m1
  have hkl4 := hk4.2.2 rl _ hrl hkl3
  have hks4 := hk4.2.2 rs _ hrs hks3
  have hn2 : n0 <= G2.length := by have := hk3.1; have := hk4.1; simp only [zYF] at *; omega
  repeat' (simp -implicitDefEqProofs (disch := omega) only [g0,g2,g10,hkl4,push_cast,↓reduceIte,Nat.reduceEqDiff,reduceCtorEq,Nat.reduceAdd,Nat.reduceLeDiff,Nat.reduceLT,zYp])
  refine zAb (zIA n0 r _ d [wDo] G2 hb2 hn2 (by omega) (by simp) (by simp only [zYF,zDI,wDo,zYs,zYw] at hsp ⊢; omega)) ?_
  rintro x G3 ⟨rfl,hb3,hk5⟩
  have m3 := hk5.2.2 G.length [int (19 : Nat),int a,int b,.sl 5 (zBy l1),.sl 5 (zBy l2)] (by omega) m2
  have hkl5 := hk5.2.2 rl _ hrl hkl4
  have hks5 := hk5.2.2 rs _ hrs hks4
  have hn3 : n0 <= G3.length := by have := hk5.1; omega
  have cb := ih l1 (d + 1) _ G3 (by omega) f1 (by omega) hb3 hn3 hkl5 hks5 (by simp only [zYF]; omega)
  rw [<- zAh,show ((d + 1 : Nat) : Int) = (d : Int) + 1 from rfl] at cb
  repeat' (simp -implicitDefEqProofs (disch := omega) only [g0,g3,g9,hks5,push_cast,↓reduceIte,Nat.reduceEqDiff,reduceCtorEq,Nat.reduceAdd,Nat.reduceLeDiff])
  refine zAb cb ?_
  rintro x G4 ⟨rfl,hb4,hk6⟩
  have m4 := hk6.2.2 G.length [int (19 : Nat),int a,int b,.sl 5 (zBy l1),.sl 5 (zBy l2)] (by omega) m3
  have hkl6 := hk6.2.2 rl _ hrl hkl5
  have hks6 := hk6.2.2 rs _ hrs hks5
  have hn4 : n0 <= G4.length := by have := hk6.1; omega
  repeat' (simp -implicitDefEqProofs (disch := omega) only [g0,g2,hkl6,push_cast,↓reduceIte,Nat.reduceEqDiff,reduceCtorEq,Nat.reduceAdd,Nat.reduceLeDiff,Nat.reduceLT,zYp])
  refine zAb (zIA n0 r _ d [zER] G4 hb4 hn4 (by omega) (by simp) (by simp only [zYF,zDI,zER,zYs,zYw] at hsp ⊢; omega)) ?_
  rintro x G5 ⟨rfl,hb5,hk7⟩
  repeat' (simp -implicitDefEqProofs (disch := omega) only [g16,push_cast,↓reduceIte,Nat.reduceEqDiff])
  refine .mk (j + 1) ⟨g0,g2,g3,g14,g15,rfl,hlt,?_,hK.trans ((Kp.app n0 r _ _ (by omega)).trans (hk3.trans (hk4.trans (hk5.trans (hk6.trans hk7)))))⟩ (by omega)
  rw [hst]
  simpa only [zY8] using hb5
 repeat' (first | refine zYt (by omega) ?_ | refine zF (hW _) rfl ?_ | refine zF (hO _) rfl ?_ | simp -implicitDefEqProofs (disch := omega) only [g14,g15,g16,zL,hxe,zAq,hwg,hwn,zI,zU,push_cast,↓reduceIte,Nat.reduceEqDiff,reduceCtorEq,Nat.reduceAdd,Nat.reduceLeDiff,Nat.reduceLT,Int.reduceToNat,Int.reduceLE,Int.reduceAdd,zYp])
 refine zW (fun (k : Nat) e2 G2 => e2 0 = int d/\e2 2 = .ptr rl 0 0/\e2 3 = .ptr rs 0 0/\e2 14 = .sl 5 (xs.map zAq)/\e2 15 = int xs.length/\e2 16 = int j/\e2 7 = .ptr G.length 0 0/\e2 8 = .sl 5 (zBy l1)/\e2 9 = .sl 5 (zBy l2)/\e2 10 = str zHg/\e2 11 = .os (G.length + 1) k 0 (k + 1)/\e2 45 = .sl 1 (ns.map iR)/\e2 46 = int na/\e2 47 = int k/\k <= na/\G2 = G ++ .box [int q,int a,int b,.sl 5 (zBy l1),.sl 5 (zBy l2)] :: .arr k 1 ((wd :: (ns.take k).map Lib.itoa).map sR) :: []) (fun k => na - k) 0 ?_ ?_
 ·refine ⟨g0,g2,g3,g14,g15,g16,rfl,rfl,rfl,rfl,rfl,?_,?_,rfl,zYO _,rfl⟩
  ·rw [hne,List.map_take]; rfl
  ·show int _ = int _
   congr 1
   simp only [zZW,zYs,zYw]
   omega
 rintro k e2 G2 ⟨g0,g2,g3,g14,g15,g16,g7,g8,g9,g10,g11,g45,g46,g47,hk,rfl⟩
 by_cases hkl : k < na
 ·have hnk := hns _ (zAf (l := ns) (j := k) (by omega))
  have hts := zA0 (l := ns) (j := k) (by omega)
  have hfin : List.take (k + 1) ((wd :: (ns.take k).map Lib.itoa).map sR) ++ [sR (Lib.itoa (ns.getD k default))] = (wd :: (ns.take (k + 1)).map Lib.itoa).map sR := by
   rw [hts,zYN (by simp; omega)]
   simp
  have hrl2 : ((wd :: (ns.take k).map Lib.itoa).map sR).length = k + 1 := by simp; omega
  generalize hRk : (wd :: (ns.take k).map Lib.itoa).map sR = Rk at *
  repeat' (first | refine zYt (by omega) ?_ | refine zA (hN.call _ hnk _) ?_ | simp -implicitDefEqProofs (disch := omega) only [g11,g45,g46,g47,zL,iR,hrl2,zI,push_cast,↓reduceIte,Nat.reduceEqDiff,reduceCtorEq,Nat.reduceAdd,Nat.reduceLeDiff,Nat.reduceLT,zYp])
  exact .mk (k + 1) ⟨g0,g2,g3,g14,g15,g16,g7,g8,g9,g10,rfl,g45,g46,rfl,hkl,congrArg (fun z => G ++ HO.box [int q,int a,int b,.sl 5 (zBy l1),.sl 5 (zBy l2)] :: HO.arr (k + 1) 1 z :: []) hfin⟩ (by omega)
 have hkn : k = na := by omega
 subst hkn
 have hall : List.take (k + 1) ((wd :: (ns.take k).map Lib.itoa).map sR) = (zEs q a b).map sR := by
  rw [zYN (by simp; omega),zYN (by omega),<- hwd]
  simp only [zEs,zZy,hnsd]
 have hrl2 : ((wd :: (ns.take k).map Lib.itoa).map sR).length = k + 1 := by simp; omega
 have hcl : zFj ((wd :: (ns.take k).map Lib.itoa).map sR) = true := zAM (fun _ => rfl) _
 generalize hRk : (wd :: (ns.take k).map Lib.itoa).map sR = Rk at *
 have hGs : ∀ X,(G ++ X)[rs]? = some (zNr rl rs) := fun X => by rw [zYD (zYr.1 hk2).1]; exact hk2
 have hGr : ∀ X,(G ++ X)[rl]? = some (zNs r) := fun X => by rw [zYD (zYr.1 hk1).1]; exact hk1
 repeat' (simp -implicitDefEqProofs (disch := omega) only [g0,g2,g11,g46,g47,hGr,hall,zT,push_cast,↓reduceIte,Nat.reduceEqDiff,reduceCtorEq,Nat.reduceAdd,Nat.reduceLeDiff])
 refine ⟨⟨by omega,hcl⟩,?_⟩
 refine zAb (zIA n0 r _ d (zEs q a b) _ (hB.app _) (by simp; omega) (by omega) (by omega) (by simp only [zYF]; omega)) ?_
 rintro x G1 ⟨rfl,hb1,hk3⟩
 have m1 := hk3.2.2 G.length [int q,int a,int b,.sl 5 (zBy l1),.sl 5 (zBy l2)] (by omega) (by simp)
 have hkl3 := hk3.2.2 rl [.fn (.func 33) [] [.ptr r 0 0]] hrl (hGr _)
 have hks3 := hk3.2.2 rs _ hrs (hGs _)
 by_cases hq18 : q = 18
 ·subst hq18
  have hI : zQK d (.mk (18 : Nat) a b l1 l2) = zDm d (zEs (18 : Nat) a b) ++ (lsT (d + 1) l1 ++ (zDm d [zHg] ++ (lsT (d + 1) l2 ++ zDm d [zER]))) := by
   unfold zQK
   rw [if_pos (show ((18 : Nat) : Int) = 18 from rfl)]
  rw [hI] at hst hsp
  simp only [zYF] at hsp
  have ca := ih l1 (d + 1) _ G1 (by omega) f1 (by omega) hb1 (by have := hk3.1; simp only [zYF] at this; omega) hkl3 hks3 (by simp only [zYF]; omega)
  rw [<- zAh,show ((d + 1 : Nat) : Int) = (d : Int) + 1 from rfl] at ca
  repeat' (simp -implicitDefEqProofs (disch := omega) only [g0,g3,g7,g8,m1,hks3,push_cast,↓reduceIte,Nat.reduceEqDiff,reduceCtorEq,Nat.reduceAdd,Nat.reduceLeDiff,Int.reduceAdd])
  refine zAb ca ?_
  rintro x G2 ⟨rfl,hb2,hk4⟩
  have m2 := hk4.2.2 G.length [int (18 : Nat),int a,int b,.sl 5 (zBy l1),.sl 5 (zBy l2)] (by omega) m1
  have hkl4 := hk4.2.2 rl _ hrl hkl3
  have hks4 := hk4.2.2 rs _ hrs hks3
  have hn2 : n0 <= G2.length := by have := hk3.1; have := hk4.1; simp only [zYF] at *; omega
  repeat' (simp -implicitDefEqProofs (disch := omega) only [g0,g2,g10,hkl4,push_cast,↓reduceIte,Nat.reduceEqDiff,reduceCtorEq,Nat.reduceAdd,Nat.reduceLeDiff,Nat.reduceLT,zYp])
  refine zAb (zIA n0 r _ d [zHg] G2 hb2 hn2 (by omega) (by simp) (by simp only [zYF,zDI,zHg,zYs,zYw] at hsp ⊢; omega)) ?_
  rintro x G3 ⟨rfl,hb3,hk5⟩
  have m3 := hk5.2.2 G.length [int (18 : Nat),int a,int b,.sl 5 (zBy l1),.sl 5 (zBy l2)] (by omega) m2
  have hkl5 := hk5.2.2 rl _ hrl hkl4
  have hks5 := hk5.2.2 rs _ hrs hks4
  have hn3 : n0 <= G3.length := by have := hk5.1; omega
  have cb := ih l2 (d + 1) _ G3 (by omega) f2 (by omega) hb3 hn3 hkl5 hks5 (by simp only [zYF]; omega)
  rw [<- zAh,show ((d + 1 : Nat) : Int) = (d : Int) + 1 from rfl] at cb
  repeat' (simp -implicitDefEqProofs (disch := omega) only [g0,g3,g9,hks5,push_cast,↓reduceIte,Nat.reduceEqDiff,reduceCtorEq,Nat.reduceAdd,Nat.reduceLeDiff])
  refine zAb cb ?_
  rintro x G4 ⟨rfl,hb4,hk6⟩
  have m4 := hk6.2.2 G.length [int (18 : Nat),int a,int b,.sl 5 (zBy l1),.sl 5 (zBy l2)] (by omega) m3
  have hkl6 := hk6.2.2 rl _ hrl hkl5
  have hks6 := hk6.2.2 rs _ hrs hks5
  have hn4 : n0 <= G4.length := by have := hk6.1; omega
  repeat' (simp -implicitDefEqProofs (disch := omega) only [g0,g2,hkl6,push_cast,↓reduceIte,Nat.reduceEqDiff,reduceCtorEq,Nat.reduceAdd,Nat.reduceLeDiff,Nat.reduceLT,zYp])
  refine zAb (zIA n0 r _ d [zER] G4 hb4 hn4 (by omega) (by simp) (by simp only [zYF,zDI,zER,zYs,zYw] at hsp ⊢; omega)) ?_
  rintro x G5 ⟨rfl,hb5,hk7⟩
  repeat' (simp -implicitDefEqProofs (disch := omega) only [g16,push_cast,↓reduceIte,Nat.reduceEqDiff])
  refine .mk (j + 1) ⟨g0,g2,g3,g14,g15,rfl,hlt,?_,hK.trans ((Kp.app n0 r _ _ (by omega)).trans (hk3.trans (hk4.trans (hk5.trans (hk6.trans hk7)))))⟩ (by omega)
  rw [hst]
  simpa only [zY8] using hb5
 ·repeat' (simp -implicitDefEqProofs (disch := omega) only [g16,g7,m1,zU,push_cast,↓reduceIte,Nat.reduceEqDiff,Nat.reduceAdd,Nat.reduceLeDiff])
  exact .mk (j + 1) ⟨g0,g2,g3,g14,g15,rfl,hlt,by rw [hst,<- zY8]; unfold zQK; rw [if_neg (by omega),if_neg (by omega),zY1]; exact hb1,hK.trans ((Kp.app n0 r _ _ (by omega)).trans hk3)⟩ (by omega)
def zJo (q : Pr) : List Int := q.par :: q.slots :: q.res :: q.outs
def zIk (q : Pr) : Ln := zEx :: q.name :: (zJo q).map Lib.itoa
def prT (q : Pr) : Wd := zDm 0 (zIk q) ++ (lsT 1 q.body ++ zDm 0 [zER])
def zDV : List Pr->Wd
 | [] => []
 | q :: l => prT q ++ zDV l
theorem zGh : ∀ l m : List Pr,zDV (l ++ m) = zDV l ++ zDV m
 | [],m => by simp [zDV]
 | x :: l,m => by simp [zDV,zGh l m]
theorem zG6 {xs : List Pr} {j : Nat} (h : j < xs.length) : zDV (xs.take (j + 1)) = zDV (xs.take j) ++ prT (xs.getD j default) := by
 rw [zA0 h,zGh]
 simp [zDV]
theorem zJO {xs : List Pr} {j : Nat} (h : j < xs.length) : (zDV (xs.take j)).length + (prT (xs.getD j default)).length <= (zDV xs).length := by
 have e : xs = xs.take (j + 1) ++ xs.drop (j + 1) := (zZv _ _).symm
 have := congrArg (fun l => (zDV l).length) e
 simp only [zGh,zG6 h,zYF] at this
 omega
structure FmP (N : Int->Prop) (q : Pr) : Prop where
 nm : q.name.length <= 1048576
 os : q.outs.length <= 100000
 nums : ∀ n ∈ zJo q,N n
 body : zQZ N q.body
 cnt : zQ q.body <= 900000
set_option maxHeartbeats 8000000 in
theorem zPL {N : Int->Prop} (hN : zKR N) (ps : List Pr) (hs : zDY ps) (hv : zBM ps = true) (hp : ∀ q ∈ ps,FmP N q) (hl : (zDV ps).length <= 50000000000000) (H : zB) : zBd 13 [.agg [zAU ps]] H (str (zDV ps)) := by
 refine ACall.drop (R := fun x => x = str (zDV ps)) ?_
 refine enter Tryz.func13 L13f_ok (zYu rfl) ?_
 have cV := fun H => zD8 ps hs H
 rw [hv] at cV
 repeat' (first | refine zA (cV _) ?_ | simp -implicitDefEqProofs (disch := omega) only [L13f,zAz,push_cast,↓reduceIte,Nat.reduceEqDiff,Nat.reduceAdd,Nat.reduceLeDiff,zYp])
 refine zW (fun (j : Nat) e' G => e' 3 = .ptr (H.length + 1) 0 0/\e' 4 = .ptr (H.length + 2) 0 0/\e' 5 = .ptr (H.length + 3) 0 0/\e' 17 = zAU ps/\e' 18 = int ps.length/\e' 19 = int j/\j <= ps.length/\BSt H.length (H.length + 1) (zDV (ps.take j)) G/\G[H.length + 2]? = some (zNs (H.length + 1))/\G[H.length + 3]? = some (zNr (H.length + 2) (H.length + 3))/\H.length + 4 <= G.length/\∀ i,i < H.length->G[i]? = H[i]?) (fun j => ps.length - j) 0 ?_ ?_
 ·refine ⟨rfl,rfl,rfl,rfl,rfl,rfl,zYO _,⟨by omega,.inl ⟨?_,rfl⟩⟩,?_,?_,by simp,fun i hi => zYD hi⟩
  ·rw [zA4]; rfl
  ·rw [zA4]; rfl
  ·rw [zA4]; rfl
 rintro j e' G ⟨g3,g4,g5,g17,g18,g19,hj,hB,k1,k2,hG,hfr⟩
 by_cases hlt : j < ps.length
 rotate_left
 ·have e : j = ps.length := by omega
  subst e
  rw [zzai] at hB
  repeat' (simp -implicitDefEqProofs (disch := omega) only [g3,g18,g19,zT,push_cast,↓reduceIte,Nat.reduceEqDiff])
  refine zAb (zRi H.length (H.length + 1) _ G hB (by omega)) ?_
  rintro x G2 ⟨rfl,hk⟩
  repeat' (simp -implicitDefEqProofs (disch := omega) only [push_cast])
  exact zEJ (by have := hk.1; omega) fun i hi => (hk.2.1 i hi).trans (hfr i hi)
 have hpl := hs.1
 have hmem := zAf hlt
 have hst := zG6 hlt
 have hsp := zJO hlt
 obtain ⟨p1,p2,p3,p4,p5⟩ := hp _ hmem
 have hrow : (ps.map prR).getD j [] = prR (ps.getD j default) := zBe hlt
 generalize hqe : ps.getD j default = q at *
 have hrG := hB.lt
 repeat' (first | refine zYt (by omega) ?_ | simp -implicitDefEqProofs (disch := omega) only [g17,g18,g19,hrow,prR,zI,push_cast,↓reduceIte,Nat.reduceEqDiff,Nat.reduceAdd,Nat.reduceLeDiff,Nat.reduceLT,Int.reduceAdd,zYp])
 have hnl : (zJo q).length = q.outs.length + 3 := rfl
 have hnr : (zJo q).map iR = [int q.par] :: [int q.slots] :: [int q.res] :: q.outs.map iR := rfl
 have hph : zIk q = zEx :: q.name :: (zJo q).map Lib.itoa := rfl
 generalize hnsd : zJo q = ns at *
 refine zW (fun (k : Nat) e2 G2 => e2 3 = .ptr (H.length + 1) 0 0/\e2 4 = .ptr (H.length + 2) 0 0/\e2 5 = .ptr (H.length + 3) 0 0/\e2 17 = zAU ps/\e2 18 = int ps.length/\e2 19 = int j/\e2 7 = .ptr G.length 0 0/\e2 8 = .os (G.length + 1) k 0 (k + 2)/\e2 35 = .os (G.length + 2) 1 0 ns.length/\e2 36 = int ns.length/\e2 37 = int k/\k <= ns.length/\G2 = G ++ .box [str q.name,int q.par,int q.slots,int q.res,.sl 1 (q.outs.map iR),.sl 5 (q.body.map zAq)] :: .arr k 1 ((zEx :: q.name :: (ns.take k).map Lib.itoa).map sR) :: .arr 1 1 (ns.map iR) :: []) (fun k => ns.length - k) 0 ?_ ?_
 ·refine ⟨g3,g4,g5,g17,g18,g19,rfl,rfl,?_,?_,rfl,zYO _,?_⟩
  ·show AV.os (G.length + 2) 1 0 (3 + q.outs.length) = AV.os (G.length + 2) 1 0 ns.length
   rw [hnl,zzaw 3]
  ·show int _ = int _
   congr 1
   omega
  ·rw [hnr]; rfl
 rintro k e2 G2 ⟨g3,g4,g5,g17,g18,g19,g7,g8,g35,g36,g37,hk,rfl⟩
 by_cases hkl : k < ns.length
 ·have hnk := p3 _ (zAf hkl)
  have hts := zA0 (l := ns) (j := k) hkl
  have hfin : List.take (k + 2) ((zEx :: q.name :: (ns.take k).map Lib.itoa).map sR) ++ [sR (Lib.itoa (ns.getD k default))] = (zEx :: q.name :: (ns.take (k + 1)).map Lib.itoa).map sR := by
   rw [hts,zYN (by simp; omega)]
   simp
  have hrl2 : ((zEx :: q.name :: (ns.take k).map Lib.itoa).map sR).length = k + 2 := by simp; omega
  generalize hRk : (zEx :: q.name :: (ns.take k).map Lib.itoa).map sR = Rk at *
  repeat' (first | refine zYt (by omega) ?_ | refine zA (hN.call _ hnk _) ?_ | simp -implicitDefEqProofs (disch := omega) only [g8,g35,g36,g37,zL,iR,hrl2,zY0,zI,push_cast,↓reduceIte,Nat.reduceEqDiff,reduceCtorEq,Nat.reduceLeDiff,Nat.reduceLT,zYp])
  exact .mk (k + 1) ⟨g3,g4,g5,g17,g18,g19,g7,rfl,g35,g36,rfl,hkl,congrArg (fun z => G ++ HO.box [str q.name,int q.par,int q.slots,int q.res,.sl 1 (q.outs.map iR),.sl 5 (q.body.map zAq)] :: HO.arr (k + 1) 1 z :: HO.arr 1 1 (ns.map iR) :: []) hfin⟩ (by omega)
 have hkn : k = ns.length := by omega
 have hall : List.take (k + 2) ((zEx :: q.name :: (ns.take k).map Lib.itoa).map sR) = (zIk q).map sR := by
  rw [zYN (by simp; omega),zYN (by omega),hph]
 have hrl2 : ((zEx :: q.name :: (ns.take k).map Lib.itoa).map sR).length = k + 2 := by simp; omega
 have hcl : zFj ((zEx :: q.name :: (ns.take k).map Lib.itoa).map sR) = true := zAM (fun _ => rfl) _
 generalize hRk : (zEx :: q.name :: (ns.take k).map Lib.itoa).map sR = Rk at *
 have hGr : ∀ X,(G ++ X)[H.length + 2]? = some (zNs (H.length + 1)) := fun X => by rw [zYD (by omega)]; exact k1
 have hGs : ∀ X,(G ++ X)[H.length + 3]? = some (zNr (H.length + 2) (H.length + 3)) := fun X => by rw [zYD (by omega)]; exact k2
 have hhl : (zIk q).length = ns.length + 2 := by rw [hph]; simp
 have hhw := zKq (ws := zIk q) (k := 1048576) fun w hw => by
  rw [hph] at hw
  simp only [zY5,zZl] at hw
  rcases hw with rfl | rfl | ⟨n,hn,rfl⟩
  ·simp [zEx]
  ·exact p1
  ·have := hN.len n (p3 n hn); omega
 have hhw2 : zDI (zIk q) <= 100005 * 1048577 := zZL hhw (zZa _ (by omega))
 repeat' (simp -implicitDefEqProofs (disch := omega) only [g4,g8,g36,g37,hGr,hall,zT,push_cast,↓reduceIte,Nat.reduceEqDiff,Nat.reduceAdd,Nat.reduceLeDiff])
 refine ⟨⟨by omega,hcl⟩,?_⟩
 refine zAb (zIA H.length (H.length + 1) _ 0 (zIk q) _ (hB.app _) (by simp; omega) (by omega) (by omega) (by omega)) ?_
 rintro x G1 ⟨rfl,hb1,hk3⟩
 have m1 := hk3.2.2 G.length [str q.name,int q.par,int q.slots,int q.res,.sl 1 (q.outs.map iR),.sl 5 (q.body.map zAq)] (by omega) (by simp)
 have hl3 := hk3.2.2 (H.length + 2) _ (by omega) (hGr _)
 have hs3 := hk3.2.2 (H.length + 3) _ (by omega) (hGs _)
 have hn1 := hk3.1
 simp only [zYF] at hn1
 have hI : prT q = zDm 0 (zIk q) ++ (lsT 1 q.body ++ zDm 0 [zER]) := rfl
 rw [hI] at hst hsp
 simp only [zYF] at hsp
 have cb := zU1 hN H.length (H.length + 1) (H.length + 2) (H.length + 3) (by omega) (by omega) (zQ q.body + 1) q.body 1 _ G1 (by omega) p4 (by omega) hb1 (by omega) hl3 hs3 (by simp only [zYF]; omega)
 repeat' (simp -implicitDefEqProofs (disch := omega) only [g5,g7,m1,hs3,push_cast,↓reduceIte,Nat.reduceEqDiff,Nat.reduceAdd,Nat.reduceLeDiff])
 refine zAb cb ?_
 rintro x G2 ⟨rfl,hb2,hk4⟩
 have m2 := hk4.2.2 G.length [str q.name,int q.par,int q.slots,int q.res,.sl 1 (q.outs.map iR),.sl 5 (q.body.map zAq)] (by omega) m1
 have hl4 := hk4.2.2 (H.length + 2) _ (by omega) hl3
 have hs4 := hk4.2.2 (H.length + 3) _ (by omega) hs3
 have hn2 := hk4.1
 repeat' (simp -implicitDefEqProofs (disch := omega) only [g4,hl4,push_cast,↓reduceIte,Nat.reduceEqDiff,reduceCtorEq,Nat.reduceAdd,Nat.reduceLeDiff,Nat.reduceLT,zYp])
 refine zAb (zIA H.length (H.length + 1) _ 0 [zER] G2 hb2 (by omega) (by omega) (by simp) (by simp only [zYF,zDI,zER,zYs,zYw] at hsp ⊢; omega)) ?_
 rintro x G3 ⟨rfl,hb3,hk5⟩
 have hl5 := hk5.2.2 (H.length + 2) _ (by omega) hl4
 have hs5 := hk5.2.2 (H.length + 3) _ (by omega) hs4
 have hn3 := hk5.1
 repeat' (simp -implicitDefEqProofs (disch := omega) only [g19,push_cast,↓reduceIte,Nat.reduceEqDiff])
 refine .mk (j + 1) ⟨g3,g4,g5,g17,g18,rfl,hlt,?_,hl5,hs5,by omega,fun i hi => ?_⟩ (by omega)
 ·rw [hst]
  simpa only [zY8] using hb3
 ·rw [hk5.2.1 i hi,hk4.2.1 i hi,hk3.2.1 i hi,zYD (by omega)]
  exact hfr i hi
def wC : AV := .agg [.sl 6 [[str [102],int 1,int 1,int 1,zAl,.sl 5 [[int 1,int 0,int 0,.sl 5 [],.sl 5 []],[int 0,int 0,int 0,.sl 5 [],.sl 5 []],[int 14,int 0,int 0,.sl 5 [],.sl 5 []],[int 18,int 0,int 0,.sl 5 [[int 1,int 0,int 0,.sl 5 [],.sl 5 []],[int 0,int 3,int 0,.sl 5 [],.sl 5 []],[int 12,int 0,int 0,.sl 5 [],.sl 5 []]],.sl 5 [[int 0,int 0,int 0,.sl 5 [],.sl 5 []]]],[int 21,int 0,int 0,.sl 5 [],.sl 5 []]]]]]
def wps : List Pr := [⟨[102],1,1,1,[],[.mk 1 0 0 [] [],.mk 0 0 0 [] [],.mk 14 0 0 [] [],.mk 18 0 0 [.mk 1 0 0 [] [],.mk 0 3 0 [] [],.mk 12 0 0 [] []] [.mk 0 0 0 [] []],.mk 21 0 0 [] []]⟩]
theorem wSml : zDY wps := ⟨by decide,by decide,fun q hq => by
 simp only [wps,zZI] at hq
 subst hq
 exact ⟨by decide,by decide,by decide⟩⟩
theorem zP8 : zBM wps = true := zFl.2 ⟨by decide,fun k hk => by
 have hk : k < 1 := hk
 have : k = 0 := by omega
 subst this
 exact ⟨⟨by kernel_rfl,fun j hj => absurd hj (Nat.not_lt_zero j)⟩,⟨by decide,by decide,by decide,by decide,by decide,by decide,.inr rfl,by intro s hs; cases hs⟩,by decide,by decide,by kernel_rfl⟩⟩
theorem AV.Le.row {sz : Nat} {xs ys : List (List AV)} (hl : xs.length = ys.length) (hs : ∀ (i : Nat) (x y : List AV),xs[i]? = some x->ys[i]? = some y->y.length = x.length/\∀ (j : Nat) (a b : AV),x[j]? = some a->y[j]? = some b->AV.Le a b) : AV.Le (.sl sz xs) (.sl sz ys) := fun w M ρ n v hv => by
 cases hv with
 | slE =>
  cases ys with
  | nil => exact .slE _ _ _ _
  | cons _ _ => cases hl
 | slN _ _ _ b o cap c hm hb hcap hsz hcell hrep =>
  have hx : ∀ (i j : Nat) (x : List AV) (y : AV),ys[i]? = some x->x[j]? = some y->∃ x' y',xs[i]? = some x'/\x'[j]? = some y'/\AV.Le y' y := by
   intro i j y b hy hb
   have hi := (zYr.1 hy).1
   have hx := zYK (l := xs) (show i < xs.length by omega)
   obtain ⟨h1,h2⟩ := hs i _ y hx hy
   have hj := (zYr.1 hb).1
   have hxj := zYK (l := xs[i]'(by omega)) (show j < (xs[i]'(by omega)).length by omega)
   exact ⟨_,_,hx,hxj,h2 j _ b hxj hb⟩
  rw [hl]
  refine .slN _ _ _ b o cap c hm hb (by omega) (fun y hy => ?_) (fun i j x y hx' hy => ?_) fun i j x y hx' hy => ?_
  ·obtain ⟨i,hi,rfl⟩ := zZd.1 hy
   have hx := zYK (l := xs) (show i < xs.length by omega)
   rw [(hs i _ _ hx (zYK hi)).1]
   exact hsz _ (zzaq _)
  ·obtain ⟨x',y',h1,h2,h3⟩ := hx i j x y hx' hy
   exact hcell i j x' y' h1 h2
  ·obtain ⟨x',y',h1,h2,h3⟩ := hx i j x y hx' hy
   exact h3 _ _ _ _ _ (hrep i j x' y' h1 h2)
theorem wLe : AV.Le wC (.agg [zAU wps]) := by
 refine AV.Le.agg rfl fun i x y hx hy => ?_
 match i,hx,hy with
 | 0,rfl,rfl =>
  refine AV.Le.row rfl fun i x y hx hy => ?_
  match i,hx,hy with
  | 0,rfl,rfl =>
   refine ⟨rfl,fun j a b ha hb => ?_⟩
   match j,ha,hb with
   | 0,rfl,rfl => exact AV.Le.refl _
   | 1,rfl,rfl => exact AV.Le.refl _
   | 2,rfl,rfl => exact AV.Le.refl _
   | 3,rfl,rfl => exact AV.Le.refl _
   | 4,rfl,rfl => exact AV.Le.nil _
   | 5,rfl,rfl => exact AV.Le.refl _
theorem zTG {k : FuncId} {H : zB} {R : AV->zB->Prop} (h : ACall Tryz.prog k [.agg [zAU wps]] H R) : ACall Tryz.prog k [wC] H R := by
 refine ACall.args h rfl fun i x y hx hy => ?_
 match i,hx,hy with
 | 0,rfl,rfl => exact wLe
end Go.Proofs.YtbibhcmcjldhdaaGreatDoor
namespace Go.Proofs.YtbibhcmcjldhdaaGreatDoor
open Go Go.Ax
set_option maxRecDepth 100000
set_option linter.unusedSimpArgs false
set_option maxHeartbeats 4000000
noncomputable def zYa : Tr (Option LFn) := (tN (tN (tN (tN tL (tN tL (tN (tN tL (tE Tryz.f215 [] tL tL)) tL))) (tN (tN (tN tL (tN (tE Tryz.f163 [⟨29,5,(.pre 10 (.frz (.t 10)))⟩] tL tL) tL)) tL) tL)) (tN (tN (tN (tN tL (tN (tE Tryz.f161 [] tL tL) tL)) tL) tL) tL)) (tN (tN (tE Tryz.f8 [] (tN (tN tL (tN (tE Tryz.f160 [] tL tL) tL)) tL) (tN (tE Tryz.f40 [] tL tL) (tN tL (tE Tryz.f120 [] tL tL)))) (tN (tN tL (tN (tN tL (tE Tryz.f212 [] tL tL)) tL)) tL)) (tN (tN (tN (tN (tE Tryz.f66 [] tL tL) (tN (tE Tryz.f162 [⟨7,12,.tail⟩,⟨8,12,.tail⟩,⟨9,12,.tail⟩,⟨10,12,.tail⟩,⟨17,12,.tail⟩,⟨18,12,.tail⟩,⟨23,12,.tail⟩] tL tL) tL)) tL) tL) (tN (tN tL (tN (tN tL (tE Tryz.f214 [] tL tL)) tL)) tL))))
theorem zFA : zLX Tryz.prog zYa := zH7 (hN (hN (hN (hN hL (hN hL (hN (hN hL (hE Tryz.func215 hL hL)) hL))) (hN (hN (hN hL (hN (hE Tryz.func163 hL hL) hL)) hL) hL)) (hN (hN (hN (hN hL (hN (hE Tryz.func161 hL hL) hL)) hL) hL) hL)) (hN (hN (hE Tryz.func8 (hN (hN hL (hN (hE Tryz.func160 hL hL) hL)) hL) (hN (hE Tryz.func40 hL hL) (hN hL (hE Tryz.func120 hL hL)))) (hN (hN hL (hN (hN hL (hE Tryz.func212 hL hL)) hL)) hL)) (hN (hN (hN (hN (hE Tryz.func66 hL hL) (hN (hE Tryz.func162 hL hL) hL)) hL) hL) (hN (hN hL (hN (hN hL (hE Tryz.func214 hL hL)) hL)) hL))))
def cwI0 : zGq := ⟨40,[int 0],str [48]⟩
theorem zSz : zBT Tryz.prog cwI0 := zA5 (l := []) (fun q hq => by simp at hq) zFA (m := 200) (d := 60) (by kernel_rfl) (by kernel_rfl) (by kernel_rfl)
def cwI1 : zGq := ⟨40,[int 1],str [49]⟩
theorem zSy : zBT Tryz.prog cwI1 := zA5 (l := []) (fun q hq => by simp at hq) zFA (m := 200) (d := 60) (by kernel_rfl) (by kernel_rfl) (by kernel_rfl)
def cwI3 : zGq := ⟨40,[int 3],str [51]⟩
theorem zSx : zBT Tryz.prog cwI3 := zA5 (l := []) (fun q hq => by simp at hq) zFA (m := 200) (d := 60) (by kernel_rfl) (by kernel_rfl) (by kernel_rfl)
def wN (n : Int) : Prop := n = 0\/n = 1\/n = 3
theorem wI0 : Lib.itoa 0 = [48] := by kernel_rfl
theorem wI1 : Lib.itoa 1 = [49] := by kernel_rfl
theorem wI3 : Lib.itoa 3 = [51] := by kernel_rfl
theorem zWX : zKR wN := ⟨fun n h H => by
  rcases h with rfl | rfl | rfl
  ·rw [wI0]; exact zSz H
  ·rw [wI1]; exact zSy H
  ·rw [wI3]; exact zSx H,
 fun n h => by
  rcases h with rfl | rfl | rfl
  ·rw [wI0]; decide
  ·rw [wI1]; decide
  ·rw [wI3]; decide⟩
theorem wFm : ∀ q ∈ wps,FmP wN q := fun q hq => by
 simp only [wps,zZI] at hq
 subst hq
 refine ⟨by decide,by decide,fun n hn => ?_,?_,by decide⟩
 ·simp only [zJo,zY5,zZM,or_false] at hn
  unfold wN; omega
 ·simp only [zQZ,FOk,zEi,zCl]
  simp [wN]
def wT : List UInt8 := [112,114,111,99,32,102,32,49,32,49,32,49,10,32,32,108,111,97,100,32,48,10,32,32,112,117,115,104,32,48,10,32,32,103,114,101,97,116,101,114,10,32,32,105,102,10,32,32,32,32,108,111,97,100,32,48,10,32,32,32,32,112,117,115,104,32,51,10,32,32,32,32,108,101,115,115,10,32,32,101,108,115,101,10,32,32,32,32,112,117,115,104,32,48,10,32,32,101,110,100,10,32,32,114,101,116,117,114,110,10,101,110,100,10]
theorem zTF : zDV wps = wT := by kernel_rfl
def zVn : zGq := ⟨14,[wC],bool true⟩
theorem zPW : zBT Tryz.prog zVn := fun H => zTG (by have h := zD8 wps wSml H; rw [zP8] at h; exact h)
def zVo : zGq := ⟨13,[wC],str wT⟩
theorem zPX : zBT Tryz.prog zVo := fun H => zTG (by have h := zPL zWX wps wSml zP8 wFm (by rw [zTF]; decide) H; rw [zTF] at h; exact h)
def zQN : zGq := ⟨20,[.agg [int 2,str [],int 0,int 48,.sl 5 [[int 5,str [102],int 0,int 48,.sl 5 [[int 6,str [],int 6,int 14,.sl 5 [[int 7,str [120],int 7,int 13,.sl 5 [[int 9,str [105,110,116],int 10,int 13,.sl 5 []]]]]],[int 9,str [98,111,111,108],int 16,int 20,.sl 5 []],[int 11,str [],int 21,int 48,.sl 5 [[int 17,str [],int 23,int 46,.sl 5 [[int 29,str [97,110,100],int 30,int 45,.sl 5 [[int 29,str [62],int 30,int 35,.sl 5 [[int 20,str [120],int 30,int 31,.sl 5 []],[int 24,str [48],int 34,int 35,.sl 5 []]]],[int 29,str [60],int 40,int 45,.sl 5 [[int 20,str [120],int 40,int 41,.sl 5 []],[int 24,str [51],int 44,int 45,.sl 5 []]]]]]]]]]]]],.sl 3 [[int 0,int 0,str []],[int 0,int 0,str []],[int 0,int 0,str []],[int 0,int 0,str []],[int 0,int 0,str []],[int 0,int 0,str []],[int 0,int 0,str []],[int 0,int 0,str []],[int 2,int 0,str []],[int 2,int 0,str []],[int 1,int 0,str []],[int 1,int 0,str []],[int 2,int 0,str []],[int 1,int 0,str []],[int 1,int 0,str []]],.sl 1 [[int (-1)],[int (-1)],[int (-1)],[int 0],[int (-1)],[int (-1)],[int (-1)],[int (-1)],[int (-1)],[int (-1)],[int 0],[int (-1)],[int (-1)],[int 0],[int (-1)]],.sl 2 [],.sl 9 [[str [102],int 1,int 1,int 2,int 0,str [],.sl 8 [[str [120],int 1,int 0,str [],int 0,int 3,bool false,bool false]],int 1,zAl]]]],.tup [.agg [.sl 6 [[str [102],int 1,int 1,int 1,zAl,.sl 5 [[int 1,int 0,int 0,.sl 5 [],.sl 5 []],[int 0,int 0,int 0,.sl 5 [],.sl 5 []],[int 14,int 0,int 0,.sl 5 [],.sl 5 []],[int 18,int 0,int 0,.sl 5 [[int 1,int 0,int 0,.sl 5 [],.sl 5 []],[int 0,int 3,int 0,.sl 5 [],.sl 5 []],[int 12,int 0,int 0,.sl 5 [],.sl 5 []]],.sl 5 [[int 0,int 0,int 0,.sl 5 [],.sl 5 []]]],[int 21,int 0,int 0,.sl 5 [],.sl 5 []]]]]],int 0]⟩
theorem zN4 : zBT Tryz.prog zQN := zA5 (l := [zVn]) (fun q hq => by
  simp only [zY5,zZM,or_false] at hq
  subst hq; exact zPW) zBS (m := 200) (d := 60) (by kernel_rfl) (by kernel_rfl) (by kernel_rfl)
def cwAw : zGq := ⟨8,[],bool true⟩
theorem zSA : zBT Tryz.prog cwAw := zA5 (l := [zG3,zQN,zVo]) (fun q hq => by
  simp only [zY5,zZM,or_false] at hq
  rcases hq with rfl | rfl | rfl
  ·exact zHJ
  ·exact zN4
  ·exact zPX) zFA (m := 200) (d := 60) (by kernel_rfl) (by kernel_rfl) (by kernel_rfl)
theorem zKM (H : zB) : zBd 8 [] H (bool true) := zSA H
set_option linter.unusedVariables false
theorem zGw (s : List UInt8) (H : zB) : zBd 4 [str s] H (bool true) := by
 refine ACall.drop (R := fun x => x = bool true) ?_
 refine enter Tryz.func4 L4_ok (zYu rfl) ?_
 by_cases h : 2000 < s.length
 ·repeat' (first | refine zA (zKM _) ?_ | simp -implicitDefEqProofs (disch := omega) only [L4,zI,push_cast,↓reduceIte,reduceCtorEq,Nat.reduceAdd])
  all_goals exact ⟨_,(zY1 _).symm⟩
 ·have c1 := fun H => zRT s (by omega) H
  have c2 := fun H => zRS s (by omega) H
  have c3 := fun H => zP0 (zAB s).1 (zMV s (by omega)) H
  repeat' (first | refine zA (zKM _) ?_ | refine zA (c1 _) ?_ | refine zA (c2 _) ?_ | refine zA (c3 _) ?_ | simp -implicitDefEqProofs (disch := omega) only [L4,zM,zAz,ga1,zT,push_cast,↓reduceIte,Nat.reduceEqDiff,reduceCtorEq,Nat.reduceAdd,Nat.reduceLeDiff,Nat.reduceLT,zYp])
  all_goals exact ⟨_,rfl⟩
end Go.Proofs.YtbibhcmcjldhdaaGreatDoor
namespace Go.Ax
open Go Go.RowKit Go.WideShapes Go.ChangeShapes
open Go.Proofs.YtbibhcmcjldhdaaGreatDoor
set_option linter.unusedSimpArgs false
set_option linter.unusedVariables false
mutual
def zU9 : DataW Unit->List Value
 | .lit (.int k n) => [.int k n]
 | .agg ps => zQL ps
 | _ => []
def zQL : List (DataW Unit)->List Value
 | [] => []
 | d :: l => zU9 d ++ zQL l
end
noncomputable def zU4 (P : Program) : List (String × DataW Unit)->World->World
 | [],w => w
 | (n,d) :: l,w => zU4 P l (match P.globalNamed n with
  | none => w
  | some g => { w with heap := w.heap.modify g fun
   | .cells _ t frozen => .cells (zU9 d).toArray t frozen
   | o => o })
theorem zPB {C : Checked} {k : FuncId} {fn : Func} {s : ChangeSpec} {F : Stop.Interp} {conds : List PathCond} {laid : List (String × DataW Unit)} {tb : TypeId} {S : List TypeId} {os : Os} {H : Type} {enc : TypeId × Value->H} {ts : List TypeId}
  (own : ownKnob C.prog.godebug = none) (started : os.Started) (noInit : C.prog.inits.idxOf? k = none) (hfn : C.prog.funcs[k]? = some fn)
  (witness : ∃ (w : World) (tape : Tape) (i : Input),w.os = os/\(w.forCall tape i).Shaped C.prog/\i.vars = []/\Input.okWide C.prog (w.forCall tape i) .any w.heap.size k i /\
   (OpenSpec.ofChange s).preRow enc C.prog fn conds false laid (w.forCall tape i).memory i.args/\(({} : Assume)).holds C.prog (lone (Frame.enter C.prog k i.args .normal) [] (w.forCall tape i)))
  (hv : s.vars = []) (hts : fn.params.toList = ts) (hf : fn.resultTypes = #[tb]) (htb : C.prog.underlying tb = some .bool) (hs : ∀ ds : List (DataW H),ds.length = ts.length->s.fn H ds = ⟨[.lit (.bool true)],ds,[]⟩)
  (hgl : zNC C.prog = true) (hl : laidOutB C.prog = true) (hr : ts.all (fun t => C.prog.readableRec t && decide (t < C.prog.types.size) && S.contains t) = true) (hS : zGG C.prog S = true)
  (law : ∀ l,zKQ C.prog ts l->∃ R : zB->Prop,ACall C.prog k (zDC C.prog ts l) [] fun x H' => x = bool true/\R H') :
  ReturnsInHanded {} C os k .any ((OpenSpec.ofChange s).preRow enc C.prog fn conds false laid) (((OpenSpec.ofChange s).at F).post enc C.prog fn false true false false) := by
 refine returnsInHanded_of_row (s := OpenSpec.ofChange s) own started noInit hfn witness ?_;intro W base args ds gs before hval hW _ hcnd _ hL hsh _;have hW' := hW;obtain ⟨p,q,hA,hV,rfl,hfz,hnd⟩ := hW;have hV' : DataW.TrodVars enc C.prog W (fun _ => true) s.vars gs q := hV;rw [hv] at hV';obtain ⟨rfl,rfl⟩ := trodVars_none hV';have hall : ∀ t ∈ ts,C.prog.readableRec t = true/\t < C.prog.types.size/\t ∈ S := fun t ht => by
  have := zYR.1 hr t ht
  simpa [and_assoc] using this
 rw [hts] at hA;obtain ⟨l,hl1,hl2,hl3⟩ := zKd hS (fun t ht => (hall t ht).2.2) (fun j t v ht hvv => ⟨_,_,hval j t v (by rw [<- zZn,hts]; exact ht) (by rw [<- zZn]; exact hvv)⟩) hA;obtain ⟨R,hlaw⟩ := law l hl1;have hrep : RepL W X0 (fun _ => {}) 0 (zDC C.prog ts l) args := ⟨by simpa using hl2,fun i x u hx hu => hl3 i x u hx (by rw [zZn]; exact hu)⟩;refine (hlaw.top hrep (zJG hgl hsh)).mono fun e W' ⟨v,x,H',ρ',he,hx,hrx,hb⟩ => ?_;obtain ⟨rfl,_⟩ := hx;have hvv := zAV hrx;subst hvv;subst he;have hlt : ∀ x ∈ p ++ [],x.block < W.heap.size := fun x hx => hW'.lt x hx;have hdl : ds.length = ts.length := by
  have aux : ∀ {ts : List TypeId} {vs : List Value} {ds : List (DataW H)} {ps : List MemPlace},DataW.TrodAll enc C.prog W 0 (fun _ => true) true ts vs ds ps->ds.length = ts.length := by
   intro ts;induction ts with
   | nil => intro vs ds ps h; obtain ⟨_,rfl,_⟩ := trodAll_nil h; rfl
   | cons t ts ih => intro vs ds ps h; obtain ⟨v,vs1,d,ds1,a,b,rfl,rfl,rfl,h1,h2⟩ := trodAll_cons h; simp [ih h2]
  exact aux hA
 refine ⟨_,rfl,zPk (s := s) hW' hv hf htb (hs ds hdl) (fun sp hsp => ?_) hb⟩;rw [hts,zY1];exact zH8 hl (fun t ht => ⟨(hall t ht).1,(hall t ht).2.1⟩) hA (fun x hx => hb.same (hlt x (by simpa using hx))) (fun x hx => hsp x (by simpa using hx))
end Go.Ax
