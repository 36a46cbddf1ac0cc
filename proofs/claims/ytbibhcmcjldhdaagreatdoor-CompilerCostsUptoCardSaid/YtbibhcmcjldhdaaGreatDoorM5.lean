/- Parts, merged by a program (wip/tools/merge2.py): Bd1 Bd2 Ff Fm Fm1 Ax37 Ax38 Ax39 Fm2 Mc3 Mc4 Mc5 Mc6 Mc7 Mc8 Mc9 Mc10 Mc10a Mc10b. -/
import Derived.Test.YtbibhcmcjldhdaaGreatDoorM4
import Derived.Shelf.Strings.Builder1
import Derived.KernelRfl
import Derived.Test.YtbibhcmcjldhdaaGreatDoorChecked
import Derived.RecoverIn
import Derived.Lib.ItoaNum
namespace Go.Proofs.YtbibhcmcjldhdaaGreatDoor
open Go Go.Ax Go.RowKit Go.Shelf
set_option maxRecDepth 100000
set_option linter.unusedSimpArgs false
set_option linter.unusedVariables false
set_option maxHeartbeats 4000000
def bldRen : Go.Shelf.Ren := ⟨fun | 240 => 61 | 276 => 115 | 169 => 41 | n => n, fun | 70 => 79 | 72 => 82 | 164 => 191 | 37 => 80 | 127 => 124 | n => n, fun | n => n⟩
theorem cpLay : Go.Proofs.Lays.n240 Tryz.prog bldRen := {
 mixed := by kernel_rfl
 f240 := Tryz.func61.trans (congrArg some (by kernel_rfl))
 f276 := Tryz.func115.trans (congrArg some (by kernel_rfl))
 t0 := Tryz.underlying0
 a0 := Tryz.isAgg0
 z0 := Tryz.sizeOf0
 v0 := Tryz.zeroValue0
 t4 := Tryz.underlying4
 a4 := Tryz.isAgg4
 z4 := Tryz.sizeOf4
 v4 := Tryz.zeroValue4
 t9 := Tryz.underlying9
 a9 := Tryz.isAgg9
 z9 := Tryz.sizeOf9
 v9 := Tryz.zeroValue9
 t20 := Tryz.underlying20
 a20 := Tryz.isAgg20
 z20 := Tryz.sizeOf20
 v20 := Tryz.zeroValue20
 t70 := Tryz.underlying79
 a70 := Tryz.isAgg79
 z70 := Tryz.sizeOf79
 v70 := Tryz.zeroValue79
 t72 := Tryz.underlying82
 a72 := Tryz.isAgg82
 z72 := Tryz.sizeOf82
 v72 := Tryz.zeroValue82
 t164 := Tryz.underlying191
 a164 := Tryz.isAgg191
 z164 := Tryz.sizeOf191
 v164 := Tryz.zeroValue191 }
theorem cpX : Go.Proofs.Builder.X72 Tryz.prog bldRen := { sizeBuilder := by kernel_rfl, liesBuilder := by kernel_rfl }
theorem repL1 {w : World} {M : Nat → Prop} {ρ : Nat → Ax.Loc} {n : Nat} {x : AV} {vs : Array Value} (h : RepL w M ρ n [x] vs) : ∃ a, vs = #[a] ∧ Rep w M ρ n x a := by
 obtain ⟨h1, h2⟩ := h
 match vs, h1 with
 | ⟨[a]⟩, _ => exact ⟨a, rfl, h2 0 x a rfl rfl⟩
theorem same_setCell (w : World) (a : Addr) (v : Value) : Same w (w.setCell a v) := ⟨rfl, rfl, rfl, by simp [World.setCell]⟩
abbrev bT : TypeId := 82
theorem copyFresh (r : Nat) (y : AV) (H : zC) (hr : H[r]? = some (.box [.bnil bT, y])) : ACall Tryz.prog 61 [.ptr r 0 0] H fun x H' => x = .tup [] ∧ H' = H.set r (.box [.ptr r 0 0, y]) := by
 refine ⟨⟨_, Tryz.func61, by kernel_rfl, by kernel_rfl⟩, fun X ρ w vs hrel hargs => ?_⟩
 obtain ⟨a, rfl, ha⟩ := repL1 hargs
 obtain ⟨hrl, b, c, e, fr, hblk, rfl, hh, hl, hfr, hver, hrep⟩ := zCG hrel ha hr rfl
 obtain ⟨rfl, rfl⟩ := box_bn hrel hr hblk hh bT rfl
 obtain ⟨c0, c1, rfl⟩ : ∃ c0 c1, c = #[c0, c1] := by
  match c, hl with
  | ⟨[a, b]⟩, _ => exact ⟨a, b, rfl⟩
 obtain ⟨h0, h0'⟩ := hrep 0 (.bnil bT) c0 rfl rfl
 obtain ⟨h1, h1'⟩ := hrep 1 y c1 rfl rfl
 cases h0
 refine (Go.Proofs.Any.Builder_copyCheck_fresh cpLay cpX b w (zAH hh 0) (by simp [World.shape?, hh]; rfl) (by simp [World.frozen?, hh])).mono ?_
 rintro en w' ⟨rfl, rfl⟩
 obtain ⟨ρ', hρ, g1, g2⟩ := hrel.setAt (w' := w.setCell ⟨b, 0, none⟩ (.pointer (some ⟨b, 0, none⟩))) hrl (ρ r) (.box [.ptr r 0 0, y]) (same_setCell _ _ _) (.inl rfl) (fun b o hb => .inl ⟨o, hb⟩)
  (fun b' _ hne => Below.heap_setCell _ _ _ _ (fun e => hne 0 (by rw [e]; exact hblk)))
  (fun ρ' hρ' hf => by
   refine ⟨hver, b, #[.pointer (some ⟨b, 0, none⟩), c1], bT, (0, 0), hblk, by simp [World.setCell, Array.getElem?_modify, hh], rfl, ⟨.inl rfl, fun t ht => by cases ht⟩, fun j z u hz hu => ?_⟩
   match j with
   | 0 =>
    cases hz; cases hu
    refine ⟨.ptr _ _ _ _ _ hrl (Nat.zero_le _) rfl fun _ => ⟨b, 0, ?_, rfl⟩, rfl⟩
    rw [hρ']
    simpa using hblk
   | 1 => cases hz; cases hu; exact ⟨h1.nextN hf, h1'⟩
   | j + 2 => cases hz)
 exact ⟨_, _, _, ρ', rfl, ⟨rfl, rfl⟩, g1, .tup _ _ _ rfl fun i x u hx => by simp at hx, g2⟩
theorem copyUsed (r : Nat) (y : AV) (H : zC) (hr : H[r]? = some (.box [.ptr r 0 0, y])) : ACall Tryz.prog 61 [.ptr r 0 0] H fun x H' => x = .tup [] ∧ H' = H := by
 refine ⟨⟨_, Tryz.func61, by kernel_rfl, by kernel_rfl⟩, fun X ρ w vs hrel hargs => ?_⟩
 obtain ⟨a, rfl, ha⟩ := repL1 hargs
 obtain ⟨hrl, b, c, e, fr, hblk, rfl, hh, hl, hfr, hver, hrep⟩ := zCG hrel ha hr rfl
 obtain ⟨c0, c1, rfl⟩ : ∃ c0 c1, c = #[c0, c1] := by
  match c, hl with
  | ⟨[a, b]⟩, _ => exact ⟨a, b, rfl⟩
 obtain ⟨h0, h0'⟩ := hrep 0 (.ptr r 0 0) c0 rfl rfl
 have hc0 : c0 = .pointer (some ⟨b, 0, none⟩) := by
  cases h0 with
  | ptr _ _ _ _ _ _ _ _ hp =>
   obtain ⟨b', o', e1, rfl⟩ := hp (by rw [hver])
   rw [hblk] at e1
   cases e1
   rfl
 subst hc0
 refine (Go.Proofs.Any.Builder_copyCheck_used cpLay cpX b w (zAH hh 0)).mono ?_
 rintro en w' ⟨rfl, rfl⟩
 exact ⟨_, _, _, ρ, rfl, ⟨rfl, rfl⟩, hrel, .tup _ _ _ rfl fun i x u hx => by simp at hx, Fut.refl _ _ _⟩
end Go.Proofs.YtbibhcmcjldhdaaGreatDoor
namespace Go.Proofs.YtbibhcmcjldhdaaGreatDoor
open Go Go.Ax Go.RowKit
set_option maxRecDepth 100000
set_option linter.unusedSimpArgs false
set_option linter.unusedVariables false
set_option maxHeartbeats 4000000
abbrev u8T : TypeId := 5
def BSt (n0 r : Nat) (l : List UInt8) (H : zC) : Prop := n0 ≤ r ∧ ((H[r]? = some (.box [.bnil bT, zBv]) ∧ l = []) ∨ (H[r]? = some (.box [.ptr r 0 0, zBv]) ∧ l = []) ∨ ∃ k v, n0 ≤ k ∧ l ≠ [] ∧ H[r]? = some (.box [.ptr r 0 0, .os k v 0 l.length]) ∧ H[k]? = some (.barr u8T v l))
def Kp (n0 r : Nat) (H H' : zC) : Prop := H.length ≤ H'.length ∧ (∀ i, i < n0 → H'[i]? = H[i]?) ∧ ∀ i cs, i ≠ r → H[i]? = some (.box cs) → H'[i]? = some (.box cs)
theorem Kp.refl (n0 r : Nat) (H : zC) : Kp n0 r H H := ⟨Nat.le_refl _, fun _ _ => rfl, fun _ _ _ h => h⟩
theorem Kp.trans {n0 r : Nat} {A B C : zC} (h : Kp n0 r A B) (k : Kp n0 r B C) : Kp n0 r A C := ⟨Nat.le_trans h.1 k.1, fun i hi => (k.2.1 i hi).trans (h.2.1 i hi), fun i cs hi hc => k.2.2 i cs hi (h.2.2 i cs hi hc)⟩
theorem writeC (n0 r : Nat) (l s : List UInt8) (H : zC) (hb : BSt n0 r l H) (hn : n0 ≤ H.length) (hl : l.length + s.length ≤ 140737488355328) :
  ACall Tryz.prog 34 [.ptr r 0 0, str s] H fun x H' => x = .tup [int s.length, .v .nilIface] ∧ BSt n0 r (l ++ s) H' ∧ Kp n0 r H H' := by
 obtain ⟨hr0, ⟨hr, rfl⟩ | ⟨hr, rfl⟩ | ⟨k, v, hk0, hl0, hr, hk⟩⟩ := hb
 ·have hlt : r < H.length := (List.getElem?_eq_some_iff.1 hr).1
  refine enter Tryz.func34 L34_ok (Nat.le_of_ble_eq_true rfl) ?_
  simp -implicitDefEqProofs (disch := omega) only [L34, zL, zV, zAf, zAB, zAa, zX, push_cast, ↓reduceIte, Nat.reduceEqDiff, reduceCtorEq, Nat.reduceAdd, Nat.reduceSub, Nat.reduceMul, Nat.reduceLeDiff, Nat.reduceLT, Nat.reduceMod, Nat.reduceDiv, Int.reduceToNat, Int.reduceLT, Int.reduceLE, Int.reduceEq, Int.reduceAdd, Int.reduceSub, Int.reduceNeg, Int.reduceMul, Bool.and_self]
  refine zAv (copyFresh r zBv H hr) ?_
  rintro x H' ⟨rfl, rfl⟩
  have h1 : (H.set r (.box [.ptr r 0 0, zBv]))[r]? = some (.box [.ptr r 0 0, zBv]) := by rw [List.getElem?_set_self hlt]
  have h2 : ∀ (A B : HO) l, (H.set r A ++ l).set r B = H.set r B ++ l := fun A B l => by rw [List.set_append_left _ _ (by simpa using hlt), List.set_set]
  have h3 : ∀ (A : HO) l, (H.set r A ++ l)[r]? = some A := fun A l => by rw [List.getElem?_append_left (by simpa using hlt), List.getElem?_set_self hlt]
  have h4 : ∀ (A : HO), (H.set r A).length = H.length := fun A => List.length_set ..
  have h5 : ∀ (A B : HO), (H.set r A).set r B = H.set r B := fun A B => List.set_set ..
  simp only [List.length_nil, Nat.zero_add] at hl
  by_cases hs : s = []
  ·subst hs
   repeat' (simp -implicitDefEqProofs (disch := omega) only [h1, h5, splice, List.length_nil, push_cast, ↓reduceIte, Nat.reduceEqDiff, reduceCtorEq, Nat.reduceAdd, Nat.reduceLeDiff, Bool.and_self])
   refine ⟨⟨hr0, .inr (.inl ⟨h1, rfl⟩)⟩, by simp, fun i hi => ?_, fun i cs hi hc => ?_⟩
   ·rw [List.getElem?_set_ne (by omega)]
   ·rw [List.getElem?_set_ne (fun e => hi e.symm)]; exact hc
  ·repeat' (first | refine And.intro (by omega) ?_ | simp -implicitDefEqProofs (disch := omega) only [h1, h2, h3, h4, splice, rAppendBZ_ne u8T hs, push_cast, ↓reduceIte, Nat.reduceEqDiff, reduceCtorEq, Nat.reduceAdd, Nat.reduceLeDiff, Bool.and_self])
   refine ⟨⟨hr0, .inr (.inr ⟨H.length, 0, hn, by simpa using hs, ?_, ?_⟩)⟩, ?_, ?_, ?_⟩
   ·rw [List.getElem?_append_left (by simpa using hlt), List.getElem?_set_self hlt]
   ·rw [List.getElem?_append_right (by simp)]; simp
   ·simp
   ·intro i hi
    rw [List.getElem?_append_left (by simp; omega), List.getElem?_set_ne (by omega)]
   ·intro i cs hi hc
    have := (List.getElem?_eq_some_iff.1 hc).1
    rw [List.getElem?_append_left (by simpa using this), List.getElem?_set_ne (fun e => hi e.symm)]
    exact hc
 ·have hlt : r < H.length := (List.getElem?_eq_some_iff.1 hr).1
  refine enter Tryz.func34 L34_ok (Nat.le_of_ble_eq_true rfl) ?_
  simp -implicitDefEqProofs (disch := omega) only [L34, zL, zV, zAf, zAB, zAa, zX, push_cast, ↓reduceIte, Nat.reduceEqDiff, reduceCtorEq, Nat.reduceAdd, Nat.reduceSub, Nat.reduceMul, Nat.reduceLeDiff, Nat.reduceLT, Nat.reduceMod, Nat.reduceDiv, Int.reduceToNat, Int.reduceLT, Int.reduceLE, Int.reduceEq, Int.reduceAdd, Int.reduceSub, Int.reduceNeg, Int.reduceMul, Bool.and_self]
  refine zAv (copyUsed r zBv H hr) ?_
  rintro x H' ⟨rfl, hH⟩
  rw [hH]
  clear hH H'
  have h3 : ∀ l, (H ++ l)[r]? = some (HO.box [.ptr r 0 0, zBv]) := fun l => by rw [List.getElem?_append_left hlt]; exact hr
  have h2 : ∀ (B : HO) l, (H ++ l).set r B = H.set r B ++ l := fun B l => by rw [List.set_append_left _ _ hlt]
  simp only [List.length_nil, Nat.zero_add] at hl
  by_cases hs : s = []
  ·subst hs
   repeat' (simp -implicitDefEqProofs (disch := omega) only [hr, splice, List.length_nil, push_cast, ↓reduceIte, Nat.reduceEqDiff, reduceCtorEq, Nat.reduceAdd, Nat.reduceLeDiff, Bool.and_self])
   refine ⟨⟨hr0, .inr (.inl ⟨by rw [List.getElem?_set_self hlt], rfl⟩)⟩, by simp, fun i hi => ?_, fun i cs hi hc => ?_⟩
   ·rw [List.getElem?_set_ne (by omega)]
   ·rw [List.getElem?_set_ne (fun e => hi e.symm)]; exact hc
  ·repeat' (first | refine And.intro (by omega) ?_ | simp -implicitDefEqProofs (disch := omega) only [hr, h2, h3, splice, rAppendBZ_ne u8T hs, push_cast, ↓reduceIte, Nat.reduceEqDiff, reduceCtorEq, Nat.reduceAdd, Nat.reduceLeDiff, Bool.and_self])
   refine ⟨⟨hr0, .inr (.inr ⟨H.length, 0, hn, by simpa using hs, ?_, ?_⟩)⟩, ?_, ?_, ?_⟩
   ·rw [List.getElem?_append_left (by simpa using hlt), List.getElem?_set_self hlt]
   ·rw [List.getElem?_append_right (by simp)]; simp
   ·simp
   ·intro i hi
    rw [List.getElem?_append_left (by simp; omega), List.getElem?_set_ne (by omega)]
   ·intro i cs hi hc
    have := (List.getElem?_eq_some_iff.1 hc).1
    rw [List.getElem?_append_left (by simpa using this), List.getElem?_set_ne (fun e => hi e.symm)]
    exact hc
 ·have hlt : r < H.length := (List.getElem?_eq_some_iff.1 hr).1
  have hkl : k < H.length := (List.getElem?_eq_some_iff.1 hk).1
  have hne : r ≠ k := fun e => by subst e; rw [hr] at hk; cases hk
  refine enter Tryz.func34 L34_ok (Nat.le_of_ble_eq_true rfl) ?_
  simp -implicitDefEqProofs (disch := omega) only [L34, zL, zV, zAf, zAB, zAa, zX, push_cast, ↓reduceIte, Nat.reduceEqDiff, reduceCtorEq, Nat.reduceAdd, Nat.reduceSub, Nat.reduceMul, Nat.reduceLeDiff, Nat.reduceLT, Nat.reduceMod, Nat.reduceDiv, Int.reduceToNat, Int.reduceLT, Int.reduceLE, Int.reduceEq, Int.reduceAdd, Int.reduceSub, Int.reduceNeg, Int.reduceMul, Bool.and_self]
  refine zAv (copyUsed r _ H hr) ?_
  rintro x H' ⟨rfl, hH⟩
  rw [hH]
  clear hH H'
  have h2 : ∀ A : HO, (H.set k A)[r]? = some (.box [.ptr r 0 0, .os k v 0 l.length]) := fun A => by rw [List.getElem?_set_ne (fun e => hne e.symm)]; exact hr
  repeat' (first | refine And.intro (by omega) ?_ | simp -implicitDefEqProofs (disch := omega) only [hr, hk, h2, splice, push_cast, ↓reduceIte, Nat.reduceEqDiff, reduceCtorEq, Nat.reduceAdd, Nat.reduceLeDiff, Bool.and_self])
  refine ⟨⟨hr0, .inr (.inr ⟨k, v + 1, hk0, by simp [hl0], ?_, ?_⟩)⟩, ?_, ?_, ?_⟩
  ·rw [List.getElem?_set_self (by simpa using hlt), List.length_append]
  ·rw [List.getElem?_set_ne hne, List.getElem?_set_self hkl]
  ·simp
  ·intro i hi
   rw [List.getElem?_set_ne (by omega), List.getElem?_set_ne (by omega)]
  ·intro i cs hi hc
   have hik : k ≠ i := fun e => by subst e; rw [hk] at hc; cases hc
   rw [List.getElem?_set_ne (fun e => hi e.symm), List.getElem?_set_ne hik]
   exact hc
theorem strLay : Go.Proofs.Lays.n169 Tryz.prog bldRen := {
 mixed := by kernel_rfl
 f169 := Tryz.func41.trans (congrArg some (by kernel_rfl))
 t0 := Tryz.underlying0
 a0 := Tryz.isAgg0
 z0 := Tryz.sizeOf0
 v0 := Tryz.zeroValue0
 t3 := Tryz.underlying3
 a3 := Tryz.isAgg3
 z3 := Tryz.sizeOf3
 v3 := Tryz.zeroValue3
 t9 := Tryz.underlying9
 a9 := Tryz.isAgg9
 z9 := Tryz.sizeOf9
 v9 := Tryz.zeroValue9
 t37 := Tryz.underlying80
 a37 := Tryz.isAgg80
 z37 := Tryz.sizeOf80
 v37 := Tryz.zeroValue80
 t70 := Tryz.underlying79
 a70 := Tryz.isAgg79
 z70 := Tryz.sizeOf79
 v70 := Tryz.zeroValue79
 t72 := Tryz.underlying82
 a72 := Tryz.isAgg82
 z72 := Tryz.sizeOf82
 v72 := Tryz.zeroValue82
 t127 := Tryz.underlying124
 a127 := Tryz.isAgg124
 z127 := Tryz.sizeOf124
 v127 := Tryz.zeroValue124 }
theorem run_unsafeString_at {P : Program} (w : World) (pt it ty e : TypeId) (hp : P.underlying pt = some (.pointer e)) (g o cells : Nat) (hsh : w.shape? g = some (e, cells)) (hc : P.cellsOf e = 1) (l : List UInt8) (h0 : l ≠ []) (hn : o + l.length ≤ cells) (h63 : l.length ≤ 9223372036854775807)
  (hlies : liesAt P P.depth e (cells / P.cellsOf e) o e l.length = true)
  (hcell : ∀ j x, l[j]? = some x → w.cell? ((⟨g, o, none⟩ : Addr).add j) = some (.int .u8 x.toNat)) :
  (Builtin.unsafeString_ #[pt, it] ty #[.pointer (some ⟨g, o, none⟩), .int .i64 l.length]).run P w = .ok (.string ⟨l.toArray⟩) (w.freeze ⟨g, o, none⟩ l.length) := by
 have hl : l.length ≠ 0 := by simpa using h0
 have hlb := Go.Lib.run_loadBytes (P := P) w l ⟨g, o, none⟩ .empty hcell
 have h63' : ¬ (9223372036854775807 : Int) < (l.length : Int) := by omega
 have hdef : Builtin.unsafeString_ #[pt, it] ty #[.pointer (some ⟨g, o, none⟩), .int .i64 l.length] =
   (do
    let n ← asInt (.int .i64 l.length)
    if n < 0 then runtimePanic (.error "unsafe.String: len out of range")
    if n > IntKind.i64.max then unsupported (.unsafePointer "String: a length above the largest int")
    if n = 0 then pure (.string .empty)
    else if ← variablesAt ⟨g, o, none⟩ (← elemOf pt) n.toNat then do
     let s ← loadBytes ⟨g, o, none⟩ .empty n.toNat
     freeze ⟨g, o, none⟩ n.toNat
     pure (.string s)
    else unsupported (.unsafePointer "String: not so many bytes at ptr")) := rfl
 rw [hdef]
 have hmax : IntKind.i64.max = 9223372036854775807 := rfl
 have hneg : ¬ (l.length : Int) < 0 := by omega
 simp [asInt, asIntOf, hmax, h63', hneg, hl, variablesAt, hsh, elemOf, run_underlying hp, hlies, hlb]
theorem lies_bytes {P : Program} {e : TypeId} (hc : P.cellsOf e = 1) (count o n : Nat) (hn : o + n ≤ count) : liesAt P P.depth e count o e n = true := by
 have hd : P.depth = (2 * (P.types.size + Made.depth) + 1) + 1 := rfl
 rw [hd]
 simp only [liesAt, Bool.or_eq_true]
 left
 rw [hd]
 simp [rowAt, hc, sameLayout]
 try omega
theorem string_walk (b : Nat) (p v : Value) (l : List UInt8) (w : World) {T : TypeId} {fr0 : Nat × Nat} (hbk : w.heap[b]? = some (.cells #[p, v] T fr0))
    (hv : (v = .slice none 0 0 ∧ l = []) ∨ (l ≠ [] ∧ ∃ g o cap cur fr, v = .slice (some ⟨g, o, none⟩) l.length cap ∧ l.length ≤ cap ∧ w.heap[g]? = some (.cells cur u8T fr) ∧ o + l.length ≤ cur.size ∧ l.length ≤ 140737488355328 ∧ ∀ (i : Nat) (x : UInt8), l[i]? = some x → cur[o + i]? = some (.int .u8 x.toNat))) :
    Calls Tryz.prog 41 #[.pointer (some ⟨b, 0, none⟩)] w fun e w' => e = .returned (.string (mkS l)) ∧ Same w w' ∧ ∀ k, k < w.heap.size → (∀ a n c, v = .slice (some a) n c → k ≠ a.block) → w'.heap[k]? = w.heap[k]? := by
  have L := strLay
  have mixed := L.mixed
  have t72 := L.t72; have a72 := L.a72; have z72 := L.z72; have v72 := L.v72; have u72 := run_underlying L.t72
  have t70 := L.t70; have a70 := L.a70; have z70 := L.z70; have v70 := L.v70; have u70 := run_underlying L.t70
  have t37 := L.t37; have a37 := L.a37; have z37 := L.z37; have v37 := L.v37; have u37 := run_underlying L.t37
  have t127 := L.t127; have a127 := L.a127; have z127 := L.z127; have v127 := L.v127; have u127 := run_underlying L.t127
  have t3 := L.t3; have a3 := L.a3; have z3 := L.z3; have v3 := L.v3; have u3 := run_underlying L.t3
  have t9 := L.t9; have a9 := L.a9; have z9 := L.z9; have v9 := L.v9; have u9 := run_underlying L.t9
  rcases hv with ⟨rfl, rfl⟩ | ⟨h0, g, o, cap, cur, fr, rfl, hlc, hg, hfit, hle, hcells⟩
  · have hUS : ∀ (W : World) (q : Option Addr), (Builtin.unsafeString_ #[(bldRen.t 127), (bldRen.t 3)] (bldRen.t 9) #[.pointer q, .int .i64 0]).run Tryz.prog W = .ok (.string .empty) W := fun W q => Go.Lib.run_unsafeString_none W _ _ _ q
    have c1 : w.drew.cell? ⟨b, 1, none⟩ = some (.slice none 0 0) := by
      have : w.drew.heap[b]? = some (.cells #[p, .slice none 0 0] T fr0) := hbk
      rw [Go.Lib.cell_of_heap this]; rfl
    have hSD : (Builtin.unsafeSliceData_ #[(bldRen.t 37)] (bldRen.t 127) #[.slice none 0 0]).run Tryz.prog w.drew = .ok (.pointer none) w.drew := rfl
    go_enter L.f169, Go.Proofs.Body.n169_ntmps bldRen
    go_wp2
    go_region_o
    all_goals (go_wp2; go_ret; exact ⟨rfl, Same.drew _, fun _ _ _ => rfl⟩)
  · have hcl : Tryz.prog.cellsOf u8T = 1 := by kernel_rfl
    have hl0 : l.length ≠ 0 := by simpa using h0
    have c1 : w.drew.cell? ⟨b, 1, none⟩ = some (.slice (some ⟨g, o, none⟩) l.length cap) := by
      have : w.drew.heap[b]? = some (.cells #[p, .slice (some ⟨g, o, none⟩) l.length cap] T fr0) := hbk
      rw [Go.Lib.cell_of_heap this]; rfl
    have hSD : (Builtin.unsafeSliceData_ #[(bldRen.t 37)] (bldRen.t 127) #[.slice (some ⟨g, o, none⟩) l.length cap]).run Tryz.prog w.drew = .ok (.pointer (some ⟨g, o, none⟩)) w.drew :=
      Go.Lib.run_unsafeSliceData_row _ _ _ _ _ _ (by omega)
    have hUS : (Builtin.unsafeString_ #[(bldRen.t 127), (bldRen.t 3)] (bldRen.t 9) #[.pointer (some ⟨g, o, none⟩), .int .i64 l.length]).run Tryz.prog w.drew = .ok (.string ⟨l.toArray⟩) (w.drew.freeze ⟨g, o, none⟩ l.length) := by
      have hg' : w.drew.heap[g]? = some (.cells cur u8T fr) := hg
      refine run_unsafeString_at w.drew _ _ _ u8T L.t127 g o cur.size (by simp [World.shape?, hg']) hcl l h0 hfit (by omega) (lies_bytes hcl _ _ _ (by rw [hcl]; simpa using hfit)) ?_
      intro j x hx
      rw [Addr.add_lit, zAH hg']
      exact hcells j x hx
    go_enter L.f169, Go.Proofs.Body.n169_ntmps bldRen
    go_wp2
    go_region_o
    all_goals (go_wp2; go_ret; refine ⟨rfl, ?_, fun k _ hk => ?_⟩)
    all_goals first
      | (unfold World.freeze; rw [if_neg hl0]; exact ⟨rfl, rfl, rfl, by simp⟩)
      | (unfold World.freeze
         rw [if_neg hl0]
         simp only [Array.getElem?_modify]
         rw [if_neg (fun e => hk _ _ _ rfl e.symm)]
         rfl)
theorem stringC (n0 r : Nat) (l : List UInt8) (H : zC) (hb : BSt n0 r l H) (hl : l.length ≤ 140737488355328) : ACall Tryz.prog 41 [.ptr r 0 0] H fun x H' => x = str l ∧ Kp n0 r H H' := by
 refine ⟨⟨_, Tryz.func41, by kernel_rfl, by kernel_rfl⟩, fun X ρ w vs hrel hargs => ?_⟩
 obtain ⟨a, rfl, ha⟩ := repL1 hargs
 have nilcase : ∀ x0, H[r]? = some (.box [x0, zBv]) → l = [] → Calls Tryz.prog 41 #[a] w fun e w' => ∃ v x H' ρ', e = .returned v ∧ (x = str l ∧ Kp n0 r H H') ∧ HRel w' X ρ' H' ∧ Rep w' (Mut X ρ' H'.length) ρ' H'.length x v ∧ Fut w ρ H.length w' ρ' H'.length := by
  intro x0 hr hl0
  obtain ⟨hrl, b, c, e, fr, hblk, rfl, hh, hcl, hfr, hver, hrep⟩ := zCG hrel ha hr rfl
  obtain ⟨c0, c1, rfl⟩ : ∃ c0 c1, c = #[c0, c1] := by
   match c, hcl with
   | ⟨[a, b]⟩, _ => exact ⟨a, b, rfl⟩
  have h1 := rep_vx' (hrep 1 zBv c1 rfl rfl).1
  subst h1
  refine (string_walk b c0 _ l w hh (.inl ⟨rfl, hl0⟩)).mono ?_
  rintro en w' ⟨rfl, hs, hk⟩
  obtain ⟨g1, g2⟩ := hrel.more hs fun k hk' => hk k hk' fun a n c hc => by cases hc
  exact ⟨_, _, H, ρ, rfl, ⟨rfl, Kp.refl _ _ _⟩, g1, .v _ _, g2⟩
 obtain ⟨hr0, ⟨hr, hl0⟩ | ⟨hr, hl0⟩ | ⟨k, v, hk0, hl0, hr, hk⟩⟩ := hb
 ·exact nilcase _ hr hl0
 ·exact nilcase _ hr hl0
 ·obtain ⟨hrl, b, c, e, fr, hblk, rfl, hh, hcl, hfr, hver, hrep⟩ := zCG hrel ha hr rfl
  obtain ⟨c0, c1, rfl⟩ : ∃ c0 c1, c = #[c0, c1] := by
   match c, hcl with
   | ⟨[a, b]⟩, _ => exact ⟨a, b, rfl⟩
  have h1 := (hrep 1 (.os k v 0 l.length) c1 rfl rfl).1
  obtain ⟨hkl, hver', hsz', hext, ⟨a, cap, rfl, hlc, hcap⟩, hbk⟩ := os_barr hrel h1 hk rfl
  have hll : l.length ≠ 0 := by simpa using hl0
  rcases hcap with hc0 | ⟨g, o, hg, rfl, he⟩
  ·omega
  rw [hg] at hbk
  obtain ⟨cur, fr2, hh2, hsize, hfr2, hcells⟩ := hbk
  rw [hsz'] at he
  simp only [Nat.zero_mul, Nat.add_zero, Nat.zero_add, Nat.mul_one] at he hh
  refine (string_walk b c0 _ l w hh (.inr ⟨hl0, g, o, cap, cur, fr2, rfl, hlc, hh2, by omega, hl, hcells⟩)).mono ?_
  rintro en w' ⟨rfl, hs, hkp⟩
  obtain ⟨ρ', hρ, g1, g2⟩ := hrel.setAt (w' := w') hkl (ρ k) .dead hs (.inl rfl) (fun b o hb => .inl ⟨o, hb⟩)
   (fun b' hb' hne => hkp b' hb' fun a n c hc => by
    cases hc
    exact fun e => hne o (by rw [e]; exact hg))
   (fun ρ' hρ' hf => trivial)
  refine ⟨_, _, H.set k .dead, ρ', rfl, ⟨rfl, by simp, fun i hi => ?_, fun i cs hi hc => ?_⟩, g1, .v _ _, g2⟩
  ·rw [List.getElem?_set_ne (by omega)]
  ·rw [List.getElem?_set_ne (fun e => by subst e; rw [hk] at hc; cases hc)]
   exact hc
end Go.Proofs.YtbibhcmcjldhdaaGreatDoor
namespace Go.Proofs.YtbibhcmcjldhdaaGreatDoor
open Go Go.Ax
set_option maxRecDepth 100000
set_option maxHeartbeats 4000000
def L13f : LFn := ⟨59, [(.tmp 2)], (.seq (.ops [oX 1 (.box false (.t 0)), oX 2 (.mv (.c (.v (.string (mkS [])))))]) (.seq (.seq (.ops [oA 11 1 1, oX 12 (cF 14 [(.t 11)]), oX 13 (.not (.t 12))]) (.cond (.t 13) (.seq (.ops [oX 2 (.mv (.c (.v (.string (mkS [])))))]) .ret) .skip)) (.seq (.ops [oX 3 (.allocb 82 [(.v (.pointer none)), zBv])]) (.seq (.ops [oX 14 (.mkfn (.func 33) [] [(.t 3)]), oX 4 (.alloc [(.v .nilFunc)]), oS 1 4 14]) (.seq (.ops [oX 5 (.alloc [(.v .nilFunc)])]) (.seq (.ops [oX 15 (.mkfn (.func 37) [] [(.t 4), (.t 5)]), oS 1 5 15]) (.seq (.seq (.ops [oD 16 0 1, oL 17 16, oX 18 (.len .slc (.t 17)), oX 19 (.mv (kI 0))]) (.block 0 (.loop (.seq (.ops [oX 20 (bI .lss (.t 19) (.t 18))]) (.seq (.cond (.t 20) .skip (.exit 0)) (.seq (.block 1 (.seq (.ops [oI 21 6 17 19, oA 22 6 21, oX 7 (.alloc [(.v (.string (mkS []))), (int 0), (int 0), (int 0), zBv, zBv]), oS 6 7 22]) (.seq (.ops [oD 23 0 7, oL 24 23, oX 25 (.bsl false 1 2 [(.v (.string (mkS [])))] [(0, (.c (.v (.string (mkS [112, 114, 111, 99]))))), (1, (.t 24))]), oM 8 25]) (.seq (.seq (.ops [oD 26 1 7, oL 27 26, oD 28 2 7, oL 29 28, oD 30 3 7, oL 31 30, oX 32 (.bsl false 1 3 [(int 0)] [(0, (.t 27)), (1, (.t 29)), (2, (.t 31))]), oD 33 4 7, oL 34 33, oX 35 (.append 1 8 (.t 32) (.t 34)), oX 36 (.len .slc (.t 35)), oX 37 (.mv (kI 0))]) (.block 2 (.loop (.seq (.ops [oX 38 (bI .lss (.t 37) (.t 36))]) (.seq (.cond (.t 38) .skip (.exit 2)) (.seq (.block 3 (.seq (.ops [oI 39 1 35 37, oL 40 39, oM 10 40]) (.ops [oM 41 8, oM 42 10, oX 43 (cF 40 [(.t 42)]), oX 44 (.bsl true 1 1 [(.v (.string (mkS [])))] [(0, (.t 43))]), oX 45 (.append 1 16 (.t 41) (.t 44)), oM 8 45]))) (.ops [oX 46 (bI .add (.t 37) (kI 1)), oM 37 46]))))))) (.seq (.ops [oL 47 4, oM 48 8, oX 48 (.frz (.t 48)), oX 49 (.call (.t 47) [(kI 0), (.t 48)])]) (.seq (.ops [oL 50 5, oD 51 5 7, oL 52 51, oX 53 (.call (.t 50) [(kI 1), (.t 52)])]) (.ops [oL 54 4, oX 55 (.bsl true 1 1 [(.v (.string (mkS [])))] [(0, (.c (.v (.string (mkS [101, 110, 100])))))]), oX 56 (.call (.t 54) [(kI 0), (.t 55)])]))))))) (.ops [oX 57 (bI .add (.t 19) (kI 1)), oM 19 57]))))))) (.seq (.ops [oX 58 (cF 41 [(.t 3)]), oM 2 58]) .ret))))))))⟩
theorem L13f_ok : zAy Tryz.prog Tryz.f13 [⟨16, 2, (.pre 48 (.frz (.t 48)))⟩, ⟨3, 0, .imm⟩, ⟨14, 3, .imm⟩, ⟨18, 1, .imm⟩] = some L13f := by kernel_rfl
def L33f : LFn := ⟨12, [], (.ops [oM 5 0, oX 6 (cF 35 [(.c (.v (.string (mkS [32, 32])))), (.t 5)]), oM 7 1, oX 8 (cF 36 [(.t 7), (.c (.v (.string (mkS [32]))))]), oX 9 (.bin .str .add (.t 6) (.t 8)), oX 10 (.bin .str .add (.t 9) (.c (.v (.string (mkS [10]))))), oX 11 (cF 34 [(.t 2), (.t 10)])])⟩
theorem L33f_ok : zAy Tryz.prog Tryz.f33 [] = some L33f := by kernel_rfl
def L37f : LFn := ⟨89, [], (.seq (.ops [oM 14 1, oX 15 (.len .slc (.t 14)), oX 16 (.mv (kI 0))]) (.block 0 (.loop (.seq (.ops [oX 17 (bI .lss (.t 16) (.t 15))]) (.seq (.cond (.t 17) .skip (.exit 0)) (.seq (.block 1 (.seq (.ops [oI 18 5 14 16, oA 19 5 18, oX 7 (.alloc [(int 0), (int 0), (int 0), zBv, zBv]), oS 5 7 19]) (.seq (.draw [oD 20 3 7, oL 21 20, oD 22 4 7, oL 23 22, oM 8 21, oM 9 23, oX 10 (.mv (.c (.v (.string (mkS [101, 108, 115, 101])))))] []) (.seq (.seq (.ops [oD 24 0 7, oL 25 24, oX 26 (bI .eql (.t 25) (kI 19))]) (.cond (.t 26) (.draw [oD 27 4 7, oL 28 27, oD 29 3 7, oL 30 29, oM 8 28, oM 9 30, oX 10 (.mv (.c (.v (.string (mkS [100, 111])))))] []) .skip)) (.seq (.draw [oX 31 (cF 38 []), oD 32 0 7, oL 33 32, oI 34 1 31 33, oL 35 34] [oX 36 (.bsl false 1 1 [(.v (.string (mkS [])))] [(0, (.t 35))]), oM 11 36]) (.seq (.seq (.drawA [oD 37 1 7, oL 38 37, oD 39 2 7, oL 40 39, oX 41 (.bsl true 1 2 [(int 0)] [(0, (.t 38)), (1, (.t 40))]), oD 42 0 7, oL 43 42, oX 44 (cF 39 [(.t 43)]), oX 45 (.slicev .slc 1 (.t 41) none (some (.t 44))), oX 46 (.len .slc (.t 45)), oX 47 (.mv (kI 0))] [] []) (.block 2 (.loop (.seq (.ops [oX 48 (bI .lss (.t 47) (.t 46))]) (.seq (.cond (.t 48) .skip (.exit 2)) (.seq (.block 3 (.seq (.ops [oI 49 1 45 47, oL 50 49, oM 13 50]) (.ops [oM 51 11, oM 52 13, oX 53 (cF 40 [(.t 52)]), oX 54 (.bsl true 1 1 [(.v (.string (mkS [])))] [(0, (.t 53))]), oX 55 (.append 1 16 (.t 51) (.t 54)), oM 11 55]))) (.ops [oX 56 (bI .add (.t 47) (kI 1)), oM 47 56]))))))) (.seq (.ops [oL 57 2, oM 58 0, oM 59 11, oX 59 (.frz (.t 59)), oX 60 (.call (.t 57) [(.t 58), (.t 59)])]) (.seq (.ops [oD 61 0 7, oL 62 61, oX 63 (bI .eql (.t 62) (kI 18)), oM 64 63, oF 65 64 (.faddr 0 (.t 7)), oF 66 64 (.load false 1 (.t 65)), oF 67 64 (bI .eql (.t 66) (kI 19)), oP 68 64 (kB true) (.t 67)]) (.cond (.t 68) (.seq (.ops [oL 69 3, oM 70 0, oX 71 (bI .add (.t 70) (kI 1)), oM 72 8, oX 73 (.call (.t 69) [(.t 71), (.t 72)])]) (.seq (.ops [oL 74 2, oM 75 0, oM 76 10, oX 77 (.bsl true 1 1 [(.v (.string (mkS [])))] [(0, (.t 76))]), oX 78 (.call (.t 74) [(.t 75), (.t 77)])]) (.seq (.ops [oL 79 3, oM 80 0, oX 81 (bI .add (.t 80) (kI 1)), oM 82 9, oX 83 (.call (.t 79) [(.t 81), (.t 82)])]) (.ops [oL 84 2, oM 85 0, oX 86 (.bsl true 1 1 [(.v (.string (mkS [])))] [(0, (.c (.v (.string (mkS [101, 110, 100])))))]), oX 87 (.call (.t 84) [(.t 85), (.t 86)])])))) .skip))))))))) (.ops [oX 88 (bI .add (.t 16) (kI 1)), oM 16 88])))))))⟩
theorem L37f_ok : zAy Tryz.prog Tryz.f37 [⟨12, 3, (.pre 59 (.frz (.t 59)))⟩, ⟨7, 4, .imm⟩, ⟨7, 8, .imm⟩, ⟨10, 3, .imm⟩, ⟨15, 3, .imm⟩, ⟨17, 2, .imm⟩, ⟨6, 5, .tail⟩, ⟨7, 0, (.drw [])⟩] = some L37f := by kernel_rfl
def L3 : LFn := ⟨83, [(.tmp 6)], (.seq (.ops [oX 3 (.box false (.t 0)), oX 6 (.mv (kB false))]) (.seq (.seq (.ops [oA 11 1 3, oX 12 (cF 6 [(.t 11)]), oX 13 (.not (.t 12)), oM 14 13, oF 15 14 (.load true 1 (.t 3)), oF 16 14 (cF 7 [(.t 15)]), oF 17 14 (.not (.t 16)), oP 18 14 (kB true) (.t 17), oM 19 18, oF 20 19 (.mv (.t 1)), oF 21 19 (bI .lss (.t 20) (kI 0)), oP 22 19 (kB true) (.t 21), oM 23 22, oF 24 23 (.mv (.t 1)), oF 25 23 (.faddr 0 (.t 3)), oF 26 23 (.load false 1 (.t 25)), oF 27 23 (.len .slc (.t 26)), oF 28 23 (bI .geq (.t 24) (.t 27)), oP 29 23 (kB true) (.t 28), oM 30 29, oF 31 30 (.mv (.t 2)), oF 32 30 (bI .lss (.t 31) (kI 0)), oP 33 30 (kB true) (.t 32), oM 34 33, oF 35 34 (.mv (.t 2)), oF 36 34 (bI .geq (.t 35) (kI 8)), oP 37 34 (kB true) (.t 36)]) (.cond (.t 37) (.seq (.ops [oX 38 (cF 8 []), oM 6 38]) .ret) .skip)) (.seq (.ops [oA 40 1 3, oM 41 1, oM 42 2, oX 43 (cF 9 [(.t 40), (.t 41), (.t 42)]), oM 39 43, oE 44 39 0, oE 45 39 1, oM 7 44, oM 8 45]) (.seq (.ops [oA 47 1 3, oM 48 1, oM 49 2, oX 50 (bI .add (.t 49) (kI 1)), oX 51 (cF 9 [(.t 47), (.t 48), (.t 50)]), oM 46 51, oE 52 46 0, oE 53 46 1, oM 9 52, oM 10 53]) (.seq (.ops [oM 54 8, oX 55 (bI .eql (.t 54) (kI 0)), oM 56 55, oT 57 56 (.mv (.t 10)), oT 58 56 (bI .eql (.t 57) (kI 0)), oP 59 56 (.t 58) (kB false), oM 60 59, oT 61 60 (.mv (.t 7)), oT 62 60 (.mv (.t 9)), oT 63 60 (bI .leq (.t 61) (.t 62)), oP 64 60 (.t 63) (kB false), oM 65 64, oT 66 65 (.mv (.t 9)), oT 67 65 (bI .leq (.t 66) (kI 67108865)), oP 68 65 (.t 67) (kB false), oM 69 68, oT 70 69 (.mv (.t 7)), oT 71 69 (.faddr 0 (.t 3)), oT 72 69 (.load false 1 (.t 71)), oT 73 69 (.mv (.t 1)), oT 74 69 (.iaddr 6 (.t 72) (.t 73)), oT 75 69 (.faddr 5 (.t 74)), oT 76 69 (.load false 1 (.t 75)), oT 77 69 (.len .slc (.t 76)), oT 78 69 (bI .geq (.t 70) (.t 77)), oP 79 69 (.t 78) (kB false), oM 80 79, oT 81 80 (cF 8 []), oP 82 80 (.t 81) (kB false), oM 6 82]) .ret)))))⟩
theorem L3_ok : zAy Tryz.prog Tryz.f3 [] = some L3 := by kernel_rfl
def L6 : LFn := ⟨47, [(.tmp 2)], (.seq (.ops [oX 1 (.box false (.t 0)), oX 2 (.mv (kB false))]) (.seq (.ops [oX 3 (.mv (kI 0))]) (.seq (.seq (.ops [oX 4 (.mv (kI 0))]) (.block 0 (.loop (.seq (.seq (.ops [oM 5 4, oD 6 0 1, oL 7 6, oX 8 (.len .slc (.t 7)), oX 9 (bI .lss (.t 5) (.t 8))]) (.cond (.t 9) .skip (.exit 0))) (.seq (.block 1 (.seq (.ops [oM 12 3, oD 13 0 1, oL 14 13, oM 15 4, oI 16 6 14 15, oD 17 5 16, oL 18 17, oX 19 (cF 15 [(.t 18)]), oX 20 (bI .add (.t 12) (.t 19)), oM 3 20]) (.seq (.ops [oD 21 0 1, oL 22 21, oM 23 4, oI 24 6 22 23, oD 25 0 24, oL 26 25, oX 27 (.len .str (.t 26)), oX 28 (bI .gtr (.t 27) (kI 60)), oM 29 28, oF 30 29 (.faddr 0 (.t 1)), oF 31 29 (.load false 1 (.t 30)), oF 32 29 (.mv (.t 4)), oF 33 29 (.iaddr 6 (.t 31) (.t 32)), oF 34 29 (.faddr 4 (.t 33)), oF 35 29 (.load false 1 (.t 34)), oF 36 29 (.len .slc (.t 35)), oF 37 29 (bI .gtr (.t 36) (kI 200)), oP 38 29 (kB true) (.t 37)]) (.cond (.t 38) (.seq (.ops [oX 2 (.mv (kB false))]) .ret) .skip)))) (.ops [oM 10 4, oX 11 (bI .add (.t 10) (kI 1)), oM 4 11])))))) (.seq (.ops [oD 39 0 1, oL 40 39, oX 41 (.len .slc (.t 40)), oX 42 (bI .leq (.t 41) (kI 20)), oM 43 42, oT 44 43 (.mv (.t 3)), oT 45 43 (bI .leq (.t 44) (kI 500)), oP 46 43 (.t 45) (kB false), oM 2 46]) .ret))))⟩
theorem L6_ok : zAy Tryz.prog Tryz.f6 [] = some L6 := by kernel_rfl
def L7 : LFn := ⟨130, [(.tmp 2)], (.seq (.ops [oX 1 (.box false (.t 0)), oX 2 (.mv (kB false))]) (.seq (.seq (.ops [oD 8 0 1, oL 9 8, oX 10 (.len .slc (.t 9)), oX 11 (bI .gtr (.t 10) (kI 8))]) (.cond (.t 11) (.seq (.ops [oX 2 (.mv (kB false))]) .ret) .skip)) (.seq (.ops [oX 3 (.mv (kI 0))]) (.seq (.seq (.ops [oX 4 (.mv (kI 0))]) (.block 0 (.loop (.seq (.seq (.ops [oM 12 4, oD 13 0 1, oL 14 13, oX 15 (.len .slc (.t 14)), oX 16 (bI .lss (.t 12) (.t 15))]) (.cond (.t 16) .skip (.exit 0))) (.seq (.block 1 (.seq (.ops [oD 19 0 1, oL 20 19, oM 21 4, oI 22 6 20 21, oA 23 6 22, oX 5 (.alloc [(.v (.string (mkS []))), (int 0), (int 0), (int 0), zBv, zBv]), oS 6 5 23]) (.seq (.seq (.ops [oX 6 (.mv (kI 0))]) (.block 2 (.loop (.seq (.seq (.ops [oM 24 6, oM 25 4, oX 26 (bI .lss (.t 24) (.t 25))]) (.cond (.t 26) .skip (.exit 2))) (.seq (.block 3 (.seq (.draw [oD 29 0 1, oL 30 29, oM 31 6, oI 32 6 30 31, oD 33 0 32, oL 34 33, oD 35 0 5, oL 36 35, oX 37 (.bin .str .eql (.t 34) (.t 36))] []) (.cond (.t 37) (.seq (.ops [oX 2 (.mv (kB false))]) .ret) .skip))) (.ops [oM 27 6, oX 28 (bI .add (.t 27) (kI 1)), oM 6 28])))))) (.seq (.seq (.ops [oD 38 0 5, oL 39 38, oX 40 (cF 16 [(.t 39)]), oX 41 (.not (.t 40)), oM 42 41, oF 43 42 (.faddr 1 (.t 5)), oF 44 42 (.load false 1 (.t 43)), oF 45 42 (bI .lss (.t 44) (kI 0)), oP 46 42 (kB true) (.t 45), oM 47 46, oF 48 47 (.faddr 1 (.t 5)), oF 49 47 (.load false 1 (.t 48)), oF 50 47 (.faddr 2 (.t 5)), oF 51 47 (.load false 1 (.t 50)), oF 52 47 (bI .gtr (.t 49) (.t 51)), oP 53 47 (kB true) (.t 52), oM 54 53, oF 55 54 (.faddr 2 (.t 5)), oF 56 54 (.load false 1 (.t 55)), oF 57 54 (bI .gtr (.t 56) (kI 1024)), oP 58 54 (kB true) (.t 57), oM 59 58, oF 60 59 (.faddr 3 (.t 5)), oF 61 59 (.load false 1 (.t 60)), oF 62 59 (bI .lss (.t 61) (kI (-1))), oP 63 59 (kB true) (.t 62), oM 64 63, oF 65 64 (.faddr 3 (.t 5)), oF 66 64 (.load false 1 (.t 65)), oF 67 64 (bI .gtr (.t 66) (kI 128)), oP 68 64 (kB true) (.t 67), oM 69 68, oF 70 69 (.faddr 4 (.t 5)), oF 71 69 (.load false 1 (.t 70)), oF 72 69 (.len .slc (.t 71)), oF 73 69 (bI .gtr (.t 72) (kI 128)), oP 74 69 (kB true) (.t 73), oM 75 74, oF 76 75 (.faddr 3 (.t 5)), oF 77 75 (.load false 1 (.t 76)), oF 78 75 (bI .neq (.t 77) (kI (-1))), oF 79 75 (.mv (.t 78)), oT 80 79 (.faddr 4 (.t 5)), oT 81 79 (.load false 1 (.t 80)), oT 82 79 (.len .slc (.t 81)), oT 83 79 (bI .gtr (.t 82) (kI 0)), oF 84 75 (.pick (.t 79) (.t 83) (kB false)), oP 85 75 (kB true) (.t 84)]) (.cond (.t 85) (.seq (.ops [oX 2 (.mv (kB false))]) .ret) .skip)) (.seq (.seq (.ops [oX 7 (.mv (kI 0))]) (.block 4 (.loop (.seq (.seq (.ops [oM 86 7, oD 87 4 5, oL 88 87, oX 89 (.len .slc (.t 88)), oX 90 (bI .lss (.t 86) (.t 89))]) (.cond (.t 90) .skip (.exit 4))) (.seq (.block 5 (.seq (.draw [oD 93 4 5, oL 94 93, oM 95 7, oI 96 1 94 95, oL 97 96, oX 98 (bI .lss (.t 97) (kI 0)), oM 99 98, oF 100 99 (.faddr 4 (.t 5)), oF 101 99 (.load false 1 (.t 100)), oF 102 99 (.mv (.t 7)), oF 103 99 (.iaddr 1 (.t 101) (.t 102)), oF 104 99 (.load false 1 (.t 103)), oF 105 99 (.faddr 2 (.t 5)), oF 106 99 (.load false 1 (.t 105)), oF 107 99 (bI .geq (.t 104) (.t 106)), oP 108 99 (kB true) (.t 107)] []) (.cond (.t 108) (.seq (.ops [oX 2 (.mv (kB false))]) .ret) .skip))) (.ops [oM 91 7, oX 92 (bI .add (.t 91) (kI 1)), oM 7 92])))))) (.seq (.ops [oM 109 3, oD 110 5 5, oL 111 110, oX 112 (cF 15 [(.t 111)]), oX 113 (bI .add (.t 109) (.t 112)), oM 3 113]) (.seq (.ops [oM 114 3, oX 115 (bI .gtr (.t 114) (kI 32768)), oM 116 115, oF 117 116 (.faddr 5 (.t 5)), oF 118 116 (.load false 1 (.t 117)), oF 119 116 (cF 17 [(.t 118)]), oF 120 116 (bI .gtr (.t 119) (kI 256)), oP 121 116 (kB true) (.t 120), oM 122 121, oF 123 122 (.load true 1 (.t 1)), oF 124 122 (.mv (.t 4)), oF 125 122 (.faddr 5 (.t 5)), oF 126 122 (.load false 1 (.t 125)), oF 127 122 (cF 18 [(.t 123), (.t 124), (.t 126), (kB true)]), oF 128 122 (bI .neq (.t 127) (kI 0)), oP 129 122 (kB true) (.t 128)]) (.cond (.t 129) (.seq (.ops [oX 2 (.mv (kB false))]) .ret) .skip)))))))) (.ops [oM 17 4, oX 18 (bI .add (.t 17) (kI 1)), oM 4 18])))))) (.seq (.ops [oX 2 (.mv (kB true))]) .ret)))))⟩
theorem L7_ok : zAy Tryz.prog Tryz.f7 [] = some L7 := by kernel_rfl
def L9 : LFn := ⟨55, [(.tmp 6), (.tmp 7)], (.seq (.ops [oX 3 (.box false (.t 0)), oX 6 (.mv (kI 0)), oX 7 (.mv (kI 0))]) (.seq (.block 0 (.seq (.ops [oA 12 1 3, oX 13 (cF 14 [(.t 12)]), oX 14 (.not (.t 13)), oM 11 14]) (.cond (.t 11) (.seq (.ops [oX 6 (.mv (kI 0)), oX 7 (.mv (kI 1))]) .ret) (.seq (.ops [oM 16 1, oX 17 (bI .lss (.t 16) (kI 0)), oM 18 17, oF 19 18 (.mv (.t 1)), oF 20 18 (.faddr 0 (.t 3)), oF 21 18 (.load false 1 (.t 20)), oF 22 18 (.len .slc (.t 21)), oF 23 18 (bI .geq (.t 19) (.t 22)), oP 24 18 (kB true) (.t 23), oM 15 24]) (.cond (.t 15) (.seq (.ops [oX 6 (.mv (kI 0)), oX 7 (.mv (kI 7))]) .ret) (.seq (.ops [oM 26 2, oX 27 (bI .lss (.t 26) (kI 0)), oM 28 27, oF 29 28 (.mv (.t 2)), oF 30 28 (bI .gtr (.t 29) (kI 8)), oP 31 28 (kB true) (.t 30), oM 25 31]) (.cond (.t 25) (.seq (.ops [oX 6 (.mv (kI 0)), oX 7 (.mv (kI 2))]) .ret) .skip))))))) (.seq (.ops [oX 8 (.mv (.c zBv)), oX 8 (.own 1 (.t 8))]) (.seq (.seq (.ops [oD 32 0 3, oL 33 32, oM 34 1, oX 35 (bI .add (.t 34) (kI 1)), oX 36 (.slice .slc 6 (.t 33) none (some (.t 35))), oX 37 (.len .slc (.t 36)), oX 38 (.mv (kI 0))]) (.block 1 (.loop (.seq (.ops [oX 39 (bI .lss (.t 38) (.t 37))]) (.seq (.cond (.t 39) .skip (.exit 1)) (.seq (.block 2 (.seq (.ops [oI 40 6 36 38, oA 41 6 40, oX 10 (.alloc [(.v (.string (mkS []))), (int 0), (int 0), (int 0), zBv, zBv]), oS 6 10 41]) (.ops [oM 42 8, oD 43 5 10, oL 44 43, oM 45 2, oM 46 8, oX 47 (cF 21 [(.t 44), (.t 45), (.t 46)]), oX 48 (.bsl true 1 1 [(int 0)] [(0, (.t 47))]), oX 49 (.append 1 8 (.t 42) (.t 48)), oM 8 49]))) (.ops [oX 50 (bI .add (.t 38) (kI 1)), oM 38 50]))))))) (.seq (.ops [oM 51 8, oM 52 1, oI 53 1 51 52, oL 54 53, oM 6 54, oX 7 (.mv (kI 0))]) .ret)))))⟩
theorem L9_ok : zAy Tryz.prog Tryz.f9 [⟨11, 6, .imm⟩, ⟨7, 1, (.pre 8 (.own 1 (.t 8)))⟩] = some L9 := by kernel_rfl
def L14 : LFnD := ⟨108, [(.cell 2 false 1)], (.seq (.ops [oX 1 (.box false (.t 0)), oX 2 (.alloc [(.v (.bool false))])]) (.cut [oX 8 (.mkfn (.func 42) [] [(.t 2)])] (.t 8) [] (.seq (.seq (.ops [oD 9 0 1]) (.seq (.ops [oL 10 9]) (.seq (.ops [oX 11 (.len .slc (.t 10))]) (.seq (.ops [oX 12 (bI .leq (.t 11) (kI 8))]) (.seq (.ops []) (.seq (.callp (some 13) (.c (.fn (.func 25) [] [])) [(.t 12)]) (.ops []))))))) (.seq (.ops [oA 14 1 1, oX 15 (.build [zBv, (int 0), (int 0)] [(0, (1, (.t 14)))]), oX 16 (.box false (.t 15)), oM 3 16]) (.seq (.seq (.ops [oD 17 0 1, oL 18 17, oX 19 (.len .slc (.t 18)), oX 20 (.mv (kI 0))]) (.block 0 (.loop (.seq (.ops [oX 21 (bI .lss (.t 20) (.t 19))]) (.seq (.cond (.t 21) .skip (.exit 0)) (.seq (.block 1 (.seq (.ops [oM 22 20, oI 23 6 18 20, oA 24 6 23, oX 5 (.alloc [(.v (.string (mkS []))), (int 0), (int 0), (int 0), zBv, zBv]), oM 4 22, oS 6 5 24]) (.seq (.ops [oM 25 3, oM 26 4, oK 27 25, oD 28 1 27, oS 1 28 26]) (.seq (.seq (.ops [oD 29 0 5]) (.seq (.ops [oL 30 29]) (.seq (.ops [oX 31 (cF 43 [(.t 30)])]) (.seq (.ops [oM 32 31]) (.seq (.ops [oT 33 32 (.faddr 0 (.t 1))]) (.seq (.ops [oT 34 32 (.load false 1 (.t 33))]) (.seq (.ops [oT 35 32 (.mv (.t 4))]) (.seq (.ops [oT 36 32 (.slice .slc 6 (.t 34) none (some (.t 35)))]) (.seq (.ops [oT 37 32 (.mkfn (.func 45) [] [(.t 5)])]) (.seq (.ops [oT 38 32 (cF 44 [(.t 36), (.t 37)])]) (.seq (.ops [oT 39 32 (.not (.t 38))]) (.seq (.ops [oP 40 32 (.t 39) (kB false)]) (.seq (.ops []) (.seq (.callp (some 41) (.c (.fn (.func 25) [] [])) [(.t 40)]) (.ops []))))))))))))))) (.seq (.seq (.ops [oD 42 1 5]) (.seq (.ops [oL 43 42]) (.seq (.ops [oX 44 (bI .geq (.t 43) (kI 0))]) (.seq (.ops [oM 45 44]) (.seq (.ops [oT 46 45 (.faddr 1 (.t 5))]) (.seq (.ops [oT 47 45 (.load false 1 (.t 46))]) (.seq (.ops [oT 48 45 (.faddr 2 (.t 5))]) (.seq (.ops [oT 49 45 (.load false 1 (.t 48))]) (.seq (.ops [oT 50 45 (bI .leq (.t 47) (.t 49))]) (.seq (.ops [oP 51 45 (.t 50) (kB false)]) (.seq (.ops [oM 52 51]) (.seq (.ops [oT 53 52 (.faddr 2 (.t 5))]) (.seq (.ops [oT 54 52 (.load false 1 (.t 53))]) (.seq (.ops [oT 55 52 (bI .leq (.t 54) (kI 1024))]) (.seq (.ops [oP 56 52 (.t 55) (kB false)]) (.seq (.ops [oM 57 56]) (.seq (.ops [oT 58 57 (.faddr 3 (.t 5))]) (.seq (.ops [oT 59 57 (.load false 1 (.t 58))]) (.seq (.ops [oT 60 57 (bI .geq (.t 59) (kI (-1)))]) (.seq (.ops [oP 61 57 (.t 60) (kB false)]) (.seq (.ops [oM 62 61]) (.seq (.ops [oT 63 62 (.faddr 3 (.t 5))]) (.seq (.ops [oT 64 62 (.load false 1 (.t 63))]) (.seq (.ops [oT 65 62 (bI .leq (.t 64) (kI 128))]) (.seq (.ops [oP 66 62 (.t 65) (kB false)]) (.seq (.ops []) (.seq (.callp (some 67) (.c (.fn (.func 25) [] [])) [(.t 66)]) (.ops [])))))))))))))))))))))))))))) (.seq (.seq (.ops [oD 68 4 5]) (.seq (.ops [oL 69 68]) (.seq (.ops [oX 70 (.len .slc (.t 69))]) (.seq (.ops [oX 71 (bI .leq (.t 70) (kI 128))]) (.seq (.ops [oM 72 71]) (.seq (.ops [oT 73 72 (.faddr 3 (.t 5))]) (.seq (.ops [oT 74 72 (.load false 1 (.t 73))]) (.seq (.ops [oT 75 72 (bI .eql (.t 74) (kI (-1)))]) (.seq (.ops [oT 76 72 (.mv (.t 75))]) (.seq (.ops [oF 77 76 (.faddr 4 (.t 5))]) (.seq (.ops [oF 78 76 (.load false 1 (.t 77))]) (.seq (.ops [oF 79 76 (.len .slc (.t 78))]) (.seq (.ops [oF 80 76 (bI .eql (.t 79) (kI 0))]) (.seq (.ops [oT 81 72 (.pick (.t 76) (kB true) (.t 80))]) (.seq (.ops [oP 82 72 (.t 81) (kB false)]) (.seq (.ops []) (.seq (.callp (some 83) (.c (.fn (.func 25) [] [])) [(.t 82)]) (.ops [])))))))))))))))))) (.seq (.seq (.ops [oD 84 4 5, oL 85 84, oX 86 (.len .slc (.t 85)), oX 87 (.mv (kI 0))]) (.block 2 (.loop (.seq (.ops [oX 88 (bI .lss (.t 87) (.t 86))]) (.seq (.cond (.t 88) .skip (.exit 2)) (.seq (.block 3 (.seq (.ops [oI 89 1 85 87, oL 90 89, oM 7 90]) (.seq (.ops [oM 91 7]) (.seq (.ops [oX 92 (bI .geq (.t 91) (kI 0))]) (.seq (.ops [oM 93 92]) (.seq (.ops [oT 94 93 (.mv (.t 7))]) (.seq (.ops [oT 95 93 (.faddr 2 (.t 5))]) (.seq (.ops [oT 96 93 (.load false 1 (.t 95))]) (.seq (.ops [oT 97 93 (bI .lss (.t 94) (.t 96))]) (.seq (.ops [oP 98 93 (.t 97) (kB false)]) (.seq (.ops []) (.seq (.callp (some 99) (.c (.fn (.func 25) [] [])) [(.t 98)]) (.ops []))))))))))))) (.ops [oX 100 (bI .add (.t 87) (kI 1)), oM 87 100]))))))) (.seq (.ops [oM 101 3]) (.seq (.ops [oD 102 5 5]) (.seq (.ops [oL 103 102]) (.seq (.ops []) (.seq (.callp (some 104) (.c (.fn (.func 46) [] [])) [(.t 101), (.t 103), (kB true), (kI 1)]) (.seq (.ops [oX 105 (bI .eql (.t 104) (kI 0))]) (.seq (.ops []) (.seq (.callp (some 106) (.c (.fn (.func 25) [] [])) [(.t 105)]) (.ops [])))))))))))))))) (.ops [oX 107 (bI .add (.t 20) (kI 1)), oM 20 107]))))))) (.seq (.ops [oN (.store 1 (.t 2) (kB true))]) .ret))))))⟩
theorem L14_ok : lowFnD Tryz.prog Tryz.f14 [⟨2, 4, .cut⟩, ⟨8, 12, .cut⟩, ⟨9, 25, .cut⟩, ⟨10, 15, .cut⟩, ⟨14, 8, .cut⟩, ⟨16, 3, .cut⟩, ⟨16, 5, .cut⟩] = some L14 := by kernel_rfl
def L15 : LFn := ⟨28, [(.tmp 2)], (.seq (.ops [oX 2 (.mv (kI 0))]) (.seq (.ops [oX 3 (.mv (kI 0))]) (.seq (.seq (.ops [oX 4 (.mv (kI 0))]) (.block 0 (.loop (.seq (.seq (.ops [oM 5 4, oM 6 0, oX 7 (.len .slc (.t 6)), oX 8 (bI .lss (.t 5) (.t 7))]) (.cond (.t 8) .skip (.exit 0))) (.seq (.block 1 (.draw [oM 11 3, oX 12 (bI .add (.t 11) (kI 1)), oM 13 0, oM 14 4, oI 15 5 13 14, oD 16 3 15, oL 17 16, oX 18 (cF 15 [(.t 17)]), oX 19 (bI .add (.t 12) (.t 18)), oM 20 0, oM 21 4, oI 22 5 20 21, oD 23 4 22, oL 24 23, oX 25 (cF 15 [(.t 24)]), oX 26 (bI .add (.t 19) (.t 25)), oM 3 26] [])) (.ops [oM 9 4, oX 10 (bI .add (.t 9) (kI 1)), oM 4 10])))))) (.seq (.ops [oM 27 3, oM 2 27]) .ret))))⟩
theorem L15_ok : zAy Tryz.prog Tryz.f15 [] = some L15 := by kernel_rfl
def L17 : LFn := ⟨28, [(.tmp 2)], (.seq (.ops [oX 2 (.mv (kI 0))]) (.seq (.ops [oX 3 (.mv (kI 0))]) (.seq (.seq (.ops [oX 4 (.mv (kI 0))]) (.block 0 (.loop (.seq (.seq (.ops [oM 5 4, oM 6 0, oX 7 (.len .slc (.t 6)), oX 8 (bI .lss (.t 5) (.t 7))]) (.cond (.t 8) .skip (.exit 0))) (.seq (.block 1 (.draw [oM 11 3, oM 12 0, oM 13 4, oI 14 5 12 13, oD 15 3 14, oL 16 15, oX 17 (cF 17 [(.t 16)]), oX 18 (bI .add (kI 1) (.t 17)), oM 19 0, oM 20 4, oI 21 5 19 20, oD 22 4 21, oL 23 22, oX 24 (cF 17 [(.t 23)]), oX 25 (bI .add (kI 1) (.t 24)), oX 26 (.max3 (.t 11) (.t 18) (.t 25)), oM 3 26] [])) (.ops [oM 9 4, oX 10 (bI .add (.t 9) (kI 1)), oM 4 10])))))) (.seq (.ops [oM 27 3, oM 2 27]) .ret))))⟩
theorem L17_ok : zAy Tryz.prog Tryz.f17 [] = some L17 := by kernel_rfl
def L18 : LFn := ⟨200, [(.tmp 8)], (.seq (.ops [oX 4 (.box false (.t 0)), oX 8 (.mv (kI 0))]) (.seq (.ops [oD 17 0 4, oL 18 17, oM 19 1, oI 20 6 18 19, oA 21 6 20, oX 9 (.alloc [(.v (.string (mkS []))), (int 0), (int 0), (int 0), zBv, zBv]), oS 6 9 21]) (.seq (.ops [oX 10 (.mv (kI 0))]) (.seq (.seq (.ops [oX 11 (.mv (kI 0))]) (.block 0 (.loop (.seq (.seq (.ops [oM 22 11, oM 23 2, oX 24 (.len .slc (.t 23)), oX 25 (bI .lss (.t 22) (.t 24))]) (.cond (.t 25) .skip (.exit 0))) (.seq (.block 1 (.seq (.ops [oM 28 2, oM 29 11, oI 30 5 28 29, oA 31 5 30, oX 12 (.alloc [(int 0), (int 0), (int 0), zBv, zBv]), oS 5 12 31]) (.seq (.ops [oX 13 (.mv (kI 0)), oX 14 (.mv (kI 0))]) (.seq (.seq (.ops [oA 32 5 12, oD 33 2 9, oL 34 33, oX 35 (cF 50 [(.t 32), (.t 34)]), oX 36 (.not (.t 35))]) (.cond (.t 36) (.seq (.ops [oX 8 (.mv (kI (-1)))]) .ret) .skip)) (.seq (.block 2 (.seq (.ops [oD 38 0 12, oL 39 38, oX 40 (bI .eql (.t 39) (kI 0)), oM 41 40, oF 42 41 (.faddr 0 (.t 12)), oF 43 41 (.load false 1 (.t 42)), oF 44 41 (bI .eql (.t 43) (kI 1)), oP 45 41 (kB true) (.t 44), oM 37 45]) (.cond (.t 37) (.ops [oX 14 (.mv (kI 1))]) (.seq (.ops [oD 47 0 12, oL 48 47, oX 49 (bI .eql (.t 48) (kI 2)), oM 50 49, oF 51 50 (.faddr 0 (.t 12)), oF 52 50 (.load false 1 (.t 51)), oF 53 50 (bI .eql (.t 52) (kI 22)), oP 54 50 (kB true) (.t 53), oM 46 54]) (.cond (.t 46) (.ops [oX 13 (.mv (kI 1)), oX 14 (.mv (kI (-1)))]) (.seq (.ops [oD 56 0 12, oL 57 56, oX 58 (bI .eql (.t 57) (kI 3)), oM 59 58, oF 60 59 (.faddr 0 (.t 12)), oF 61 59 (.load false 1 (.t 60)), oF 62 59 (bI .eql (.t 61) (kI 16)), oP 63 59 (kB true) (.t 62), oM 64 63, oF 65 64 (.faddr 0 (.t 12)), oF 66 64 (.load false 1 (.t 65)), oF 67 64 (bI .eql (.t 66) (kI 17)), oP 68 64 (kB true) (.t 67), oM 55 68]) (.cond (.t 55) (.ops [oX 13 (.mv (kI 1))]) (.seq (.ops [oD 70 0 12, oL 71 70, oX 72 (bI .eql (.t 71) (kI 4)), oM 69 72]) (.cond (.t 69) (.ops [oX 13 (.mv (kI 2)), oX 14 (.mv (kI (-2)))]) (.seq (.ops [oD 74 0 12, oL 75 74, oX 76 (bI .geq (.t 75) (kI 5)), oM 77 76, oT 78 77 (.faddr 0 (.t 12)), oT 79 77 (.load false 1 (.t 78)), oT 80 77 (bI .leq (.t 79) (kI 15)), oP 81 77 (.t 80) (kB false), oM 73 81]) (.cond (.t 73) (.ops [oX 13 (.mv (kI 2)), oX 14 (.mv (kI (-1)))]) (.seq (.ops [oD 83 0 12, oL 84 83, oX 85 (bI .eql (.t 84) (kI 18)), oM 82 85]) (.cond (.t 82) (.seq (.seq (.ops [oM 86 10, oX 87 (bI .lss (.t 86) (kI 1))]) (.cond (.t 87) (.seq (.ops [oX 8 (.mv (kI (-1)))]) .ret) .skip)) (.seq (.draw [oA 88 1 4, oM 89 1, oD 90 3 12, oL 91 90, oM 92 3, oM 93 92, oT 94 93 (.mv (.t 10)), oT 95 93 (bI .eql (.t 94) (kI 1)), oP 96 93 (.t 95) (kB false), oX 97 (cF 18 [(.t 88), (.t 89), (.t 91), (.t 96)]), oA 98 1 4, oM 99 1, oD 100 4 12, oL 101 100, oM 102 3, oM 103 102, oT 104 103 (.mv (.t 10)), oT 105 103 (bI .eql (.t 104) (kI 1)), oP 106 103 (.t 105) (kB false), oX 107 (cF 18 [(.t 98), (.t 99), (.t 101), (.t 106)]), oM 15 97, oM 16 107] []) (.seq (.seq (.ops [oM 108 15, oX 109 (bI .lss (.t 108) (kI 0)), oM 110 109, oF 111 110 (.mv (.t 15)), oF 112 110 (.mv (.t 16)), oF 113 110 (bI .neq (.t 111) (.t 112)), oP 114 110 (kB true) (.t 113)]) (.cond (.t 114) (.seq (.ops [oX 8 (.mv (kI (-1)))]) .ret) .skip)) (.ops [oM 115 15, oX 116 (bI .sub (.t 115) (kI 1)), oM 14 116])))) (.seq (.ops [oD 118 0 12, oL 119 118, oX 120 (bI .eql (.t 119) (kI 19)), oM 117 120]) (.cond (.t 117) (.seq (.ops [oM 121 3, oX 122 (.not (.t 121)), oM 123 122, oF 124 123 (.mv (.t 10)), oF 125 123 (bI .neq (.t 124) (kI 0)), oP 126 123 (kB true) (.t 125), oM 127 126, oF 128 127 (.load true 1 (.t 4)), oF 129 127 (.mv (.t 1)), oF 130 127 (.faddr 4 (.t 12)), oF 131 127 (.load false 1 (.t 130)), oF 132 127 (cF 18 [(.t 128), (.t 129), (.t 131), (kB false)]), oF 133 127 (bI .neq (.t 132) (kI 1)), oP 134 127 (kB true) (.t 133), oM 135 134, oF 136 135 (.load true 1 (.t 4)), oF 137 135 (.mv (.t 1)), oF 138 135 (.faddr 3 (.t 12)), oF 139 135 (.load false 1 (.t 138)), oF 140 135 (cF 18 [(.t 136), (.t 137), (.t 139), (kB true)]), oF 141 135 (bI .neq (.t 140) (kI 0)), oP 142 135 (kB true) (.t 141)]) (.cond (.t 142) (.seq (.ops [oX 8 (.mv (kI (-1)))]) .ret) .skip)) (.seq (.ops [oD 144 0 12, oL 145 144, oX 146 (bI .eql (.t 145) (kI 20)), oM 143 146]) (.cond (.t 143) (.seq (.seq (.ops [oD 147 1 12, oL 148 147, oX 149 (bI .lss (.t 148) (kI 0)), oM 150 149, oF 151 150 (.faddr 1 (.t 12)), oF 152 150 (.load false 1 (.t 151)), oF 153 150 (.mv (.t 1)), oF 154 150 (bI .geq (.t 152) (.t 153)), oP 155 150 (kB true) (.t 154)]) (.cond (.t 155) (.seq (.ops [oX 8 (.mv (kI (-1)))]) .ret) .skip)) (.seq (.ops [oD 156 0 4, oL 157 156, oD 158 1 12, oL 159 158, oI 160 6 157 159, oD 161 1 160, oL 162 161, oM 13 162]) (.ops [oD 163 0 4, oL 164 163, oD 165 1 12, oL 166 165, oI 167 6 164 166, oA 168 6 167, oX 169 (cF 51 [(.t 168)]), oM 170 13, oX 171 (bI .sub (.t 169) (.t 170)), oM 14 171]))) (.seq (.ops [oD 173 0 12, oL 174 173, oX 175 (bI .eql (.t 174) (kI 21)), oM 172 175]) (.cond (.t 172) (.seq (.seq (.ops [oM 176 3, oX 177 (.not (.t 176)), oM 178 177, oF 179 178 (.mv (.t 10)), oF 180 178 (.faddr 3 (.t 9)), oF 181 178 (.load false 1 (.t 180)), oF 182 178 (.max2 (.t 181) (kI 0)), oF 183 178 (bI .neq (.t 179) (.t 182)), oP 184 178 (kB true) (.t 183)]) (.cond (.t 184) (.seq (.ops [oX 8 (.mv (kI (-1)))]) .ret) .skip)) (.ops [oM 185 10, oX 186 (.neg (.t 185)), oM 14 186])) .skip))))))))))))))))))) (.seq (.seq (.ops [oM 187 10, oM 188 13, oX 189 (bI .lss (.t 187) (.t 188)), oM 190 189, oF 191 190 (.mv (.t 10)), oF 192 190 (.mv (.t 14)), oF 193 190 (bI .add (.t 191) (.t 192)), oF 194 190 (bI .gtr (.t 193) (kI 1024)), oP 195 190 (kB true) (.t 194)]) (.cond (.t 195) (.seq (.ops [oX 8 (.mv (kI (-1)))]) .ret) .skip)) (.ops [oM 196 10, oM 197 14, oX 198 (bI .add (.t 196) (.t 197)), oM 10 198]))))))) (.ops [oM 26 11, oX 27 (bI .add (.t 26) (kI 1)), oM 11 27])))))) (.seq (.ops [oM 199 10, oM 8 199]) .ret)))))⟩
theorem L18_ok : zAy Tryz.prog Tryz.f18 [] = some L18 := by kernel_rfl
def L21 : LFn := ⟨69, [(.tmp 6)], (.seq (.ops [oX 6 (.mv (kI 0))]) (.seq (.ops [oX 7 (.mv (kI 0))]) (.seq (.seq (.ops [oM 11 0, oX 12 (.len .slc (.t 11)), oX 13 (.mv (kI 0))]) (.block 0 (.loop (.seq (.ops [oX 14 (bI .lss (.t 13) (.t 12))]) (.seq (.cond (.t 14) .skip (.exit 0)) (.seq (.block 1 (.seq (.ops [oI 15 5 11 13, oA 16 5 15, oX 9 (.alloc [(int 0), (int 0), (int 0), zBv, zBv]), oS 5 9 16]) (.seq (.ops [oX 10 (.mv (kI 1))]) (.seq (.seq (.ops [oD 17 0 9, oL 18 17]) (.block 2 (.seq (.ops [oX 20 (bI .eql (.t 18) (kI 18)), oM 19 20]) (.cond (.t 19) (.drawA [oM 21 10, oD 22 3 9, oL 23 22, oM 24 1, oM 25 2, oN (.mv (.c .any)), oD 27 4 9, oL 28 27, oM 29 1, oM 30 2, oN (.mv (.c .any)), oN (.mv (.c .any)), oN (.mv (.c .any)), oN (.mv (.c .any))] [(oX 26 (cF 21 [(.t 23), (.t 24), (.t 25)]), [6, 7]), (oX 31 (cF 21 [(.t 28), (.t 29), (.t 30)]), []), (oX 32 (.max2 (.t 26) (.t 31)), []), (oX 33 (bI .add (.t 21) (.t 32)), []), (oM 10 33, [])] []) (.seq (.ops [oX 35 (bI .eql (.t 18) (kI 19)), oM 34 35]) (.cond (.t 34) (.drawA [oM 36 10, oM 37 1, oX 38 (bI .add (.t 37) (kI 1)), oD 39 4 9, oL 40 39, oM 41 1, oM 42 2, oX 43 (.callh (.c (.fn (.func 21) [] [])) [(.t 40), (.t 41), (.t 42)]), oX 44 (bI .mul (.t 38) (.t 43)), oM 45 1, oD 46 3 9, oL 47 46, oM 48 1, oM 49 2, oX 50 (.callh (.c (.fn (.func 21) [] [])) [(.t 47), (.t 48), (.t 49)]), oX 51 (bI .mul (.t 45) (.t 50)), oX 52 (bI .add (.t 44) (.t 51)), oX 53 (bI .add (.t 36) (.t 52)), oM 10 53] [] []) (.seq (.ops [oX 55 (bI .eql (.t 18) (kI 20)), oM 54 55]) (.cond (.t 54) (.ops [oM 56 10, oM 57 2, oD 58 1 9, oL 59 58, oI 60 1 57 59, oL 61 60, oX 62 (bI .add (.t 56) (.t 61)), oM 10 62]) .skip)))))))) (.ops [oM 63 7, oM 64 10, oX 65 (bI .add (.t 63) (.t 64)), oX 66 (.min2 (.t 65) (kI 67108865)), oM 7 66]))))) (.ops [oX 67 (bI .add (.t 13) (kI 1)), oM 13 67]))))))) (.seq (.ops [oM 68 7, oM 6 68]) .ret))))⟩
theorem L21_ok : zAy Tryz.prog Tryz.f21 [⟨10, 7, .imm⟩, ⟨10, 14, .imm⟩, ⟨8, 0, (.drw [5, 10, 11, 12, 13])⟩, ⟨10, 0, (.drw [])⟩] = some L21 := by kernel_rfl
def L25 : LFn := ⟨6, [], (.seq (.ops [oM 2 0, oX 3 (.not (.t 2))]) (.cond (.t 3) (.seq (.ops [oX 4 (.build [] [])]) (.seq (.ops []) (.pan 5 56 (.t 4)))) .skip))⟩
theorem L25_ok : zAy Tryz.prog Tryz.f25 [⟨1, 1, .cut⟩] = some L25 := by kernel_rfl
def L38 : LFn := ⟨2, [(.tmp 0)], (.seq (.ops [oX 0 (.mv (.c zBv))]) (.seq (.ops [oX 1 (.bsl false 1 23 [(.v (.string (mkS [])))] [(0, (.c (.v (.string (mkS [112, 117, 115, 104]))))), (1, (.c (.v (.string (mkS [108, 111, 97, 100]))))), (2, (.c (.v (.string (mkS [115, 116, 111, 114, 101]))))), (3, (.c (.v (.string (mkS [108, 111, 97, 100, 97, 116]))))), (4, (.c (.v (.string (mkS [115, 116, 111, 114, 101, 97, 116]))))), (5, (.c (.v (.string (mkS [97, 100, 100]))))), (6, (.c (.v (.string (mkS [115, 117, 98]))))), (7, (.c (.v (.string (mkS [109, 117, 108]))))), (8, (.c (.v (.string (mkS [100, 105, 118]))))), (9, (.c (.v (.string (mkS [109, 111, 100]))))), (10, (.c (.v (.string (mkS [101, 113, 117, 97, 108]))))), (11, (.c (.v (.string (mkS [117, 110, 101, 113, 117, 97, 108]))))), (12, (.c (.v (.string (mkS [108, 101, 115, 115]))))), (13, (.c (.v (.string (mkS [97, 116, 109, 111, 115, 116]))))), (14, (.c (.v (.string (mkS [103, 114, 101, 97, 116, 101, 114]))))), (15, (.c (.v (.string (mkS [97, 116, 108, 101, 97, 115, 116]))))), (16, (.c (.v (.string (mkS [110, 101, 103, 97, 116, 101]))))), (17, (.c (.v (.string (mkS [110, 111, 116]))))), (18, (.c (.v (.string (mkS [105, 102]))))), (19, (.c (.v (.string (mkS [108, 111, 111, 112]))))), (20, (.c (.v (.string (mkS [99, 97, 108, 108]))))), (21, (.c (.v (.string (mkS [114, 101, 116, 117, 114, 110]))))), (22, (.c (.v (.string (mkS [97, 115, 115, 101, 114, 116])))))]), oM 0 1, oX 0 (.frz (.t 0))]) .ret))⟩
theorem L38_ok : zAy Tryz.prog Tryz.f38 [⟨1, 2, (.pre 0 (.frz (.t 0)))⟩] = some L38 := by kernel_rfl
def L39 : LFn := ⟨12, [(.tmp 2)], (.seq (.ops [oX 2 (.mv (kI 0))]) (.seq (.seq (.ops [oM 3 0]) (.block 0 (.seq (.seq (.ops [oX 5 (bI .eql (.t 3) (kI 0)), oM 4 5]) (.cond (.t 4) .skip (.seq (.ops [oX 6 (bI .eql (.t 3) (kI 1)), oM 4 6]) (.cond (.t 4) .skip (.seq (.ops [oX 7 (bI .eql (.t 3) (kI 2)), oM 4 7]) (.cond (.t 4) .skip (.ops [oX 8 (bI .eql (.t 3) (kI 20)), oM 4 8]))))))) (.cond (.t 4) (.seq (.ops [oX 2 (.mv (kI 1))]) .ret) (.seq (.seq (.ops [oX 10 (bI .eql (.t 3) (kI 3)), oM 9 10]) (.cond (.t 9) .skip (.ops [oX 11 (bI .eql (.t 3) (kI 4)), oM 9 11]))) (.cond (.t 9) (.seq (.ops [oX 2 (.mv (kI 2))]) .ret) .skip)))))) (.seq (.ops [oX 2 (.mv (kI 0))]) .ret)))⟩
theorem L39_ok : zAy Tryz.prog Tryz.f39 [] = some L39 := by kernel_rfl
def L42 : LDef := ⟨10, [4], (.block 0 (.seq (.ops [oX 6 (.nili false (.t 4))]) (.cond (.t 6) (.ops [oM 1 4]) (.seq (.ops [oX 7 (.asrt 56 (.agg []) (.t 4)), oE 8 7 1, oE 9 7 0]) (.cond (.t 8) (.seq (.ops [oX 2 (.alloc []), oS 0 2 9]) (.ops [oN (.store 1 (.t 0) (kB false))])) (.seq (.ops [oM 3 4]) (.ops [oM 5 3, oN (.panicv (.t 5))])))))))⟩
theorem L42_ok : lowDef Tryz.prog Tryz.f42 [] = some L42 := by kernel_rfl
def L45 : LFn := ⟨9, [(.tmp 3)], (.seq (.ops [oX 2 (.box false (.t 0)), oX 3 (.mv (kB false))]) (.seq (.ops [oD 4 0 2, oL 5 4, oD 6 0 1, oL 7 6, oX 8 (.bin .str .eql (.t 5) (.t 7)), oM 3 8]) .ret))⟩
theorem L45_ok : zAy Tryz.prog Tryz.f45 [] = some L45 := by kernel_rfl
def L46 : LFn := ⟨282, [(.tmp 8)], (.seq (.ops [oX 8 (.mv (kI 0))]) (.seq (.seq (.ops [oM 21 3]) (.seq (.ops [oX 22 (bI .leq (.t 21) (kI 256))]) (.seq (.ops [oM 23 22]) (.seq (.ops [oF 24 23 (.mv (.t 1))]) (.seq (.ops [oF 25 23 (.len .slc (.t 24))]) (.seq (.ops [oF 26 23 (bI .eql (.t 25) (kI 0))]) (.seq (.ops [oP 27 23 (kB true) (.t 26)]) (.seq (.ops []) (.seq (.callp (some 28) (.c (.fn (.func 25) [] [])) [(.t 27)]) (.ops [])))))))))) (.seq (.draw [oM 29 0, oK 30 29, oD 31 0 30, oD 32 0 31, oL 33 32, oM 34 0, oK 35 34, oD 36 1 35, oL 37 36, oI 38 6 33 37, oA 39 6 38] [oX 9 (.alloc [(.v (.string (mkS []))), (int 0), (int 0), (int 0), zBv, zBv]), oS 6 9 39]) (.seq (.ops [oX 10 (.alloc [(int 0)]), oN (.store 1 (.t 10) (kI 0))]) (.seq (.ops [oX 40 (.mkfn (.func 73) [] [(.t 10)]), oM 11 40]) (.seq (.ops [oX 41 (.mkfn (.func 74) [] [(.t 9)]), oM 12 41]) (.seq (.seq (.ops [oM 42 1, oX 43 (.len .slc (.t 42)), oX 44 (.mv (kI 0))]) (.block 0 (.loop (.seq (.ops [oX 45 (bI .lss (.t 44) (.t 43))]) (.seq (.cond (.t 45) .skip (.exit 0)) (.seq (.block 1 (.seq (.ops [oI 46 5 42 44, oA 47 5 46, oX 14 (.alloc [(int 0), (int 0), (int 0), zBv, zBv]), oS 5 14 47]) (.seq (.ops [oM 48 0, oK 49 48, oD 50 2 49, oL 51 50, oX 52 (bI .add (.t 51) (kI 1)), oK 53 48, oD 54 2 53, oS 1 54 52]) (.seq (.seq (.ops [oM 55 0]) (.seq (.ops [oK 56 55]) (.seq (.ops [oD 57 2 56]) (.seq (.ops [oL 58 57]) (.seq (.ops [oX 59 (bI .leq (.t 58) (kI 32768))]) (.seq (.ops []) (.seq (.callp (some 60) (.c (.fn (.func 25) [] [])) [(.t 59)]) (.ops [])))))))) (.seq (.ops [oX 15 (.mv (kB false)), oX 16 (.mv (kB false)), oX 17 (.mv (kB false))]) (.seq (.seq (.ops [oD 61 0 14, oL 62 61]) (.block 2 (.seq (.ops [oX 75 (bI .eql (.t 62) (kI 0)), oM 74 75]) (.cond (.t 74) (.seq (.ops [oX 15 (.mv (kB true))]) (.seq (.seq (.ops [oD 76 1 14]) (.seq (.ops [oL 77 76]) (.seq (.ops [oX 78 (bI .geq (.t 77) (kI 0))]) (.seq (.ops [oM 79 78]) (.seq (.ops [oT 80 79 (.faddr 1 (.t 14))]) (.seq (.ops [oT 81 79 (.load false 1 (.t 80))]) (.seq (.ops [oT 82 79 (bI .leq (.t 81) (kI 999999999))]) (.seq (.ops [oP 83 79 (.t 82) (kB false)]) (.seq (.ops []) (.seq (.callp (some 84) (.c (.fn (.func 25) [] [])) [(.t 83)]) (.ops []))))))))))) (.seq (.ops [oM 85 11]) (.seq (.ops []) (.seq (.callp (some 86) (.t 85) [(kI 0), (kI 1)]) (.ops [])))))) (.seq (.ops [oX 88 (bI .eql (.t 62) (kI 1)), oM 87 88]) (.cond (.t 87) (.seq (.ops [oX 15 (.mv (kB true))]) (.seq (.seq (.ops [oM 89 12]) (.seq (.ops [oD 90 1 14]) (.seq (.ops [oL 91 90]) (.seq (.ops []) (.seq (.callp (some 92) (.t 89) [(.t 91)]) (.seq (.ops []) (.seq (.callp (some 93) (.c (.fn (.func 25) [] [])) [(.t 92)]) (.ops [])))))))) (.seq (.ops [oM 94 11]) (.seq (.ops []) (.seq (.callp (some 95) (.t 94) [(kI 0), (kI 1)]) (.ops [])))))) (.seq (.ops [oX 97 (bI .eql (.t 62) (kI 2)), oM 96 97]) (.cond (.t 96) (.seq (.ops [oX 15 (.mv (kB true))]) (.seq (.seq (.ops [oM 98 12]) (.seq (.ops [oD 99 1 14]) (.seq (.ops [oL 100 99]) (.seq (.ops []) (.seq (.callp (some 101) (.t 98) [(.t 100)]) (.seq (.ops []) (.seq (.callp (some 102) (.c (.fn (.func 25) [] [])) [(.t 101)]) (.ops [])))))))) (.seq (.ops [oM 103 11]) (.seq (.ops []) (.seq (.callp (some 104) (.t 103) [(kI 1), (kI (-1))]) (.ops [])))))) (.seq (.seq (.ops [oX 106 (bI .eql (.t 62) (kI 3)), oM 105 106]) (.cond (.t 105) .skip (.ops [oX 107 (bI .eql (.t 62) (kI 4)), oM 105 107]))) (.cond (.t 105) (.seq (.ops [oX 15 (.mv (kB true)), oX 16 (.mv (kB true))]) (.seq (.seq (.ops [oM 108 12]) (.seq (.ops [oD 109 1 14]) (.seq (.ops [oL 110 109]) (.seq (.ops []) (.seq (.callp (some 111) (.t 108) [(.t 110)]) (.seq (.ops [oM 112 111]) (.seq (.ops [oT 113 112 (.faddr 2 (.t 14))]) (.seq (.ops [oT 114 112 (.load false 1 (.t 113))]) (.seq (.ops [oT 115 112 (bI .geq (.t 114) (kI 1))]) (.seq (.ops [oP 116 112 (.t 115) (kB false)]) (.seq (.ops [oM 117 116]) (.seq (.ops [oT 118 117 (.faddr 2 (.t 14))]) (.seq (.ops [oT 119 117 (.load false 1 (.t 118))]) (.seq (.ops [oT 120 117 (.faddr 2 (.t 9))]) (.seq (.ops [oT 121 117 (.load false 1 (.t 120))]) (.seq (.ops [oT 122 117 (bI .leq (.t 119) (.t 121))]) (.seq (.ops [oP 123 117 (.t 122) (kB false)]) (.seq (.ops [oM 124 123]) (.seq (.ops [oT 125 124 (.mv (.t 12))]) (.seq (.ops [oT 126 124 (.faddr 1 (.t 14))]) (.seq (.ops [oT 127 124 (.load false 1 (.t 126))]) (.seq (.ops [oT 128 124 (.faddr 2 (.t 14))]) (.seq (.ops [oT 129 124 (.load false 1 (.t 128))]) (.seq (.ops [oT 130 124 (bI .add (.t 127) (.t 129))]) (.seq (.ops [oT 131 124 (bI .sub (.t 130) (kI 1))]) (.seq (.ops []) (.seq (.ti ⟨(some 132), (some (124, true)), (.call (.t 125) [(.t 131)])⟩) (.seq (.ops [oP 133 124 (.t 132) (kB false)]) (.seq (.ops []) (.seq (.callp (some 134) (.c (.fn (.func 25) [] [])) [(.t 133)]) (.ops []))))))))))))))))))))))))))))))) (.seq (.ops [oD 135 0 14, oL 136 135, oX 137 (bI .eql (.t 136) (kI 3))]) (.cond (.t 137) (.seq (.ops [oM 138 11]) (.seq (.ops []) (.seq (.callp (some 139) (.t 138) [(kI 1), (kI 0)]) (.ops [])))) (.seq (.ops [oM 140 11]) (.seq (.ops []) (.seq (.callp (some 141) (.t 140) [(kI 2), (kI (-2))]) (.ops [])))))))) (.seq (.seq (.ops [oX 143 (bI .eql (.t 62) (kI 16)), oM 142 143]) (.cond (.t 142) .skip (.ops [oX 144 (bI .eql (.t 62) (kI 17)), oM 142 144]))) (.cond (.t 142) (.seq (.ops [oM 145 11]) (.seq (.ops []) (.seq (.callp (some 146) (.t 145) [(kI 1), (kI 0)]) (.ops [])))) (.seq (.ops [oX 148 (bI .eql (.t 62) (kI 22)), oM 147 148]) (.cond (.t 147) (.seq (.ops [oM 149 11]) (.seq (.ops []) (.seq (.callp (some 150) (.t 149) [(kI 1), (kI (-1))]) (.ops [])))) (.seq (.ops [oX 152 (bI .eql (.t 62) (kI 18)), oM 151 152]) (.cond (.t 151) (.seq (.ops [oX 17 (.mv (kB true))]) (.seq (.seq (.ops [oM 153 11]) (.seq (.ops []) (.seq (.callp (some 154) (.t 153) [(kI 1), (kI (-1))]) (.ops [])))) (.seq (.ops [oM 155 2, oM 156 155, oT 157 156 (.load false 1 (.t 10)), oT 158 156 (bI .eql (.t 157) (kI 0)), oP 159 156 (.t 158) (kB false), oM 18 159]) (.seq (.seq (.ops [oM 160 0]) (.seq (.ops [oD 161 3 14]) (.seq (.ops [oL 162 161]) (.seq (.ops [oM 163 18]) (.seq (.ops [oM 164 3]) (.seq (.ops [oX 165 (bI .add (.t 164) (kI 1))]) (.seq (.ops []) (.seq (.callp (some 166) (.c (.fn (.func 46) [] [])) [(.t 160), (.t 162), (.t 163), (.t 165)]) (.seq (.ops [oM 19 166]) (.ops [])))))))))) (.seq (.seq (.ops [oM 167 0]) (.seq (.ops [oD 168 4 14]) (.seq (.ops [oL 169 168]) (.seq (.ops [oM 170 18]) (.seq (.ops [oM 171 3]) (.seq (.ops [oX 172 (bI .add (.t 171) (kI 1))]) (.seq (.ops []) (.seq (.callp (some 173) (.c (.fn (.func 46) [] [])) [(.t 167), (.t 169), (.t 170), (.t 172)]) (.seq (.ops [oM 174 19]) (.seq (.ops [oX 175 (bI .eql (.t 173) (.t 174))]) (.seq (.ops []) (.seq (.callp (some 176) (.c (.fn (.func 25) [] [])) [(.t 175)]) (.ops []))))))))))))) (.seq (.ops [oM 177 11]) (.seq (.ops [oM 178 19]) (.seq (.ops []) (.seq (.callp (some 179) (.t 177) [(kI 0), (.t 178)]) (.ops [])))))))))) (.seq (.ops [oX 181 (bI .eql (.t 62) (kI 19)), oM 180 181]) (.cond (.t 180) (.seq (.ops [oX 17 (.mv (kB true))]) (.seq (.ops [oL 182 10]) (.seq (.ops [oX 183 (bI .eql (.t 182) (kI 0))]) (.seq (.ops [oM 184 183]) (.seq (.ops [oT 185 184 (.mv (.t 2))]) (.seq (.ops [oP 186 184 (.t 185) (kB false)]) (.seq (.ops [oM 187 186]) (.seq (.ops [oT 188 187 (.mv (.t 0))]) (.seq (.ops [oT 189 187 (.faddr 3 (.t 14))]) (.seq (.ops [oT 190 187 (.load false 1 (.t 189))]) (.seq (.ops [oT 191 187 (.mv (.t 3))]) (.seq (.ops [oT 192 187 (bI .add (.t 191) (kI 1))]) (.seq (.ops []) (.seq (.ti ⟨(some 193), (some (187, true)), (cF 46 [(.t 188), (.t 190), (kB true), (.t 192)])⟩) (.seq (.ops [oT 194 187 (bI .eql (.t 193) (kI 0))]) (.seq (.ops [oP 195 187 (.t 194) (kB false)]) (.seq (.ops [oM 196 195]) (.seq (.ops [oT 197 196 (.mv (.t 0))]) (.seq (.ops [oT 198 196 (.faddr 4 (.t 14))]) (.seq (.ops [oT 199 196 (.load false 1 (.t 198))]) (.seq (.ops [oT 200 196 (.mv (.t 3))]) (.seq (.ops [oT 201 196 (bI .add (.t 200) (kI 1))]) (.seq (.ops []) (.seq (.ti ⟨(some 202), (some (196, true)), (cF 46 [(.t 197), (.t 199), (kB false), (.t 201)])⟩) (.seq (.ops [oT 203 196 (bI .eql (.t 202) (kI 1))]) (.seq (.ops [oP 204 196 (.t 203) (kB false)]) (.seq (.ops []) (.seq (.callp (some 205) (.c (.fn (.func 25) [] [])) [(.t 204)]) (.ops []))))))))))))))))))))))))))))) (.seq (.ops [oX 207 (bI .eql (.t 62) (kI 20)), oM 206 207]) (.cond (.t 206) (.seq (.ops [oX 15 (.mv (kB true))]) (.seq (.drawX [oD 208 1 14, oL 209 208, oX 210 (bI .geq (.t 209) (kI 0)), oM 211 210, oT 212 211 (.faddr 1 (.t 14)), oT 213 211 (.load false 1 (.t 212)), oT 214 211 (.mv (.t 0)), oT 215 211 (.nilchk (.t 214)), oT 216 211 (.faddr 1 (.t 215)), oT 217 211 (.load false 1 (.t 216)), oT 218 211 (bI .lss (.t 213) (.t 217)), oP 219 211 (.t 218) (kB false), oN (.mv (.c .any))] [(oX 220 (cF 25 [(.t 219)]), (true, []))] []) (.seq (.draw [oM 221 0, oK 222 221, oD 223 0 222, oD 224 0 223, oL 225 224, oD 226 1 14, oL 227 226, oI 228 6 225 227, oA 229 6 228] [oX 20 (.alloc [(.v (.string (mkS []))), (int 0), (int 0), (int 0), zBv, zBv]), oS 6 20 229]) (.drawX [oM 230 11, oD 231 1 20, oL 232 231, oA 233 6 20, oN (.mv (.c .any)), oD 235 1 20, oL 236 235, oN (.mv (.c .any)), oN (.mv (.c .any))] [(oX 234 (cF 75 [(.t 233)]), (false, [1, 2, 5, 6])), (oX 237 (bI .sub (.t 234) (.t 236)), (false, [1, 2])), (oX 238 (.call (.t 230) [(.t 232), (.t 237)]), (true, []))] [])))) (.seq (.ops [oX 240 (bI .eql (.t 62) (kI 21)), oM 239 240]) (.cond (.t 239) (.seq (.seq (.ops [oM 241 2]) (.seq (.ops [oM 242 241]) (.seq (.ops [oT 243 242 (.load false 1 (.t 10))]) (.seq (.ops [oT 244 242 (.faddr 3 (.t 9))]) (.seq (.ops [oT 245 242 (.load false 1 (.t 244))]) (.seq (.ops [oT 246 242 (.max2 (.t 245) (kI 0))]) (.seq (.ops [oT 247 242 (bI .eql (.t 243) (.t 246))]) (.seq (.ops [oP 248 242 (.t 247) (kB false)]) (.seq (.ops []) (.seq (.callp (some 249) (.c (.fn (.func 25) [] [])) [(.t 248)]) (.ops []))))))))))) (.ops [oN (.store 1 (.t 10) (kI 0))])) (.seq (.seq (.ops [oD 63 0 14]) (.seq (.ops [oL 64 63]) (.seq (.ops [oX 65 (bI .geq (.t 64) (kI 5))]) (.seq (.ops [oM 66 65]) (.seq (.ops [oT 67 66 (.faddr 0 (.t 14))]) (.seq (.ops [oT 68 66 (.load false 1 (.t 67))]) (.seq (.ops [oT 69 66 (bI .leq (.t 68) (kI 15))]) (.seq (.ops [oP 70 66 (.t 69) (kB false)]) (.seq (.ops []) (.seq (.callp (some 71) (.c (.fn (.func 25) [] [])) [(.t 70)]) (.ops []))))))))))) (.seq (.ops [oM 72 11]) (.seq (.ops []) (.seq (.callp (some 73) (.t 72) [(kI 2), (kI (-1))]) (.ops []))))))))))))))))))))))))))) (.seq (.ops [oM 250 15]) (.seq (.ops [oM 251 250]) (.seq (.ops [oF 252 251 (.faddr 1 (.t 14))]) (.seq (.ops [oF 253 251 (.load false 1 (.t 252))]) (.seq (.ops [oF 254 251 (bI .eql (.t 253) (kI 0))]) (.seq (.ops [oP 255 251 (kB true) (.t 254)]) (.seq (.ops [oM 256 255]) (.seq (.ops [oT 257 256 (.mv (.t 16))]) (.seq (.ops [oT 258 256 (.mv (.t 257))]) (.seq (.ops [oF 259 258 (.faddr 2 (.t 14))]) (.seq (.ops [oF 260 258 (.load false 1 (.t 259))]) (.seq (.ops [oF 261 258 (bI .eql (.t 260) (kI 0))]) (.seq (.ops [oT 262 256 (.pick (.t 258) (kB true) (.t 261))]) (.seq (.ops [oP 263 256 (.t 262) (kB false)]) (.seq (.ops [oM 264 263]) (.seq (.ops [oT 265 264 (.mv (.t 17))]) (.seq (.ops [oT 266 264 (.mv (.t 265))]) (.seq (.ops [oF 267 266 (.faddr 3 (.t 14))]) (.seq (.ops [oF 268 266 (.load false 1 (.t 267))]) (.seq (.ops [oF 269 266 (.len .slc (.t 268))]) (.seq (.ops [oF 270 266 (bI .eql (.t 269) (kI 0))]) (.seq (.ops [oF 271 266 (.mv (.t 270))]) (.seq (.ops [oT 272 271 (.faddr 4 (.t 14))]) (.seq (.ops [oT 273 271 (.load false 1 (.t 272))]) (.seq (.ops [oT 274 271 (.len .slc (.t 273))]) (.seq (.ops [oT 275 271 (bI .eql (.t 274) (kI 0))]) (.seq (.ops [oF 276 266 (.pick (.t 271) (.t 275) (kB false))]) (.seq (.ops [oT 277 264 (.pick (.t 266) (kB true) (.t 276))]) (.seq (.ops [oP 278 264 (.t 277) (kB false)]) (.seq (.ops []) (.seq (.callp (some 279) (.c (.fn (.func 25) [] [])) [(.t 278)]) (.ops [])))))))))))))))))))))))))))))))))))))) (.ops [oX 280 (bI .add (.t 44) (kI 1)), oM 44 280]))))))) (.seq (.ops [oL 281 10, oM 8 281]) .ret))))))))⟩
theorem L46_ok : zAy Tryz.prog Tryz.f46 [⟨1, 7, .cut⟩, ⟨10, 5, .cut⟩, ⟨17, 8, .cut⟩, ⟨18, 1, .cut⟩, ⟨21, 3, .cut⟩, ⟨21, 4, .cut⟩, ⟨22, 1, .cut⟩, ⟨25, 3, .cut⟩, ⟨25, 4, .cut⟩, ⟨26, 1, .cut⟩, ⟨30, 3, .cut⟩, ⟨30, 24, .cut⟩, ⟨30, 26, .cut⟩, ⟨32, 1, .cut⟩, ⟨33, 1, .cut⟩, ⟨36, 1, .cut⟩, ⟨38, 1, .cut⟩, ⟨41, 1, .cut⟩, ⟨43, 6, .cut⟩, ⟨44, 6, .cut⟩, ⟨44, 9, .cut⟩, ⟨45, 2, .cut⟩, ⟨48, 11, .cut⟩, ⟨48, 20, .cut⟩, ⟨48, 23, .cut⟩, ⟨51, 12, .cut⟩, ⟨53, 8, .cut⟩, ⟨55, 8, .cut⟩, ⟨13, 8, .cut⟩, ⟨14, 1, .cut⟩, ⟨57, 29, .cut⟩, ⟨2, 11, .tail⟩, ⟨51, 0, (.drw [12])⟩, ⟨52, 9, .tail⟩, ⟨53, 0, (.drw [4, 7, 8])⟩] = some L46 := by kernel_rfl
def L50 : LFn := ⟨106, [(.tmp 4)], (.seq (.ops [oX 2 (.box false (.t 0)), oX 4 (.mv (kB false))]) (.seq (.seq (.ops [oD 5 0 2, oL 6 5, oX 7 (bI .lss (.t 6) (kI 0)), oM 8 7, oF 9 8 (.faddr 0 (.t 2)), oF 10 8 (.load false 1 (.t 9)), oF 11 8 (bI .gtr (.t 10) (kI 22)), oP 12 8 (kB true) (.t 11)]) (.cond (.t 12) (.seq (.ops [oX 4 (.mv (kB false))]) .ret) .skip)) (.seq (.seq (.ops [oD 13 0 2, oL 14 13, oX 15 (bI .neq (.t 14) (kI 18)), oM 16 15, oT 17 16 (.faddr 0 (.t 2)), oT 18 16 (.load false 1 (.t 17)), oT 19 16 (bI .neq (.t 18) (kI 19)), oP 20 16 (.t 19) (kB false), oM 21 20, oT 22 21 (.faddr 3 (.t 2)), oT 23 21 (.load false 1 (.t 22)), oT 24 21 (.len .slc (.t 23)), oT 25 21 (bI .gtr (.t 24) (kI 0)), oT 26 21 (.mv (.t 25)), oF 27 26 (.faddr 4 (.t 2)), oF 28 26 (.load false 1 (.t 27)), oF 29 26 (.len .slc (.t 28)), oF 30 26 (bI .gtr (.t 29) (kI 0)), oT 31 21 (.pick (.t 26) (kB true) (.t 30)), oP 32 21 (.t 31) (kB false)]) (.cond (.t 32) (.seq (.ops [oX 4 (.mv (kB false))]) .ret) .skip)) (.seq (.seq (.ops [oD 33 0 2, oL 34 33]) (.block 0 (.seq (.ops [oX 36 (bI .eql (.t 34) (kI 0)), oM 35 36]) (.cond (.t 35) (.seq (.ops [oD 37 1 2, oL 38 37, oX 39 (bI .geq (.t 38) (kI 0)), oM 40 39, oT 41 40 (.faddr 1 (.t 2)), oT 42 40 (.load false 1 (.t 41)), oT 43 40 (bI .leq (.t 42) (kI 999999999)), oP 44 40 (.t 43) (kB false), oM 45 44, oT 46 45 (.faddr 2 (.t 2)), oT 47 45 (.load false 1 (.t 46)), oT 48 45 (bI .eql (.t 47) (kI 0)), oP 49 45 (.t 48) (kB false), oM 4 49]) .ret) (.seq (.seq (.ops [oX 51 (bI .eql (.t 34) (kI 1)), oM 50 51]) (.cond (.t 50) .skip (.ops [oX 52 (bI .eql (.t 34) (kI 2)), oM 50 52]))) (.cond (.t 50) (.seq (.ops [oD 53 1 2, oL 54 53, oX 55 (bI .geq (.t 54) (kI 0)), oM 56 55, oT 57 56 (.faddr 1 (.t 2)), oT 58 56 (.load false 1 (.t 57)), oT 59 56 (.mv (.t 1)), oT 60 56 (bI .lss (.t 58) (.t 59)), oP 61 56 (.t 60) (kB false), oM 62 61, oT 63 62 (.faddr 2 (.t 2)), oT 64 62 (.load false 1 (.t 63)), oT 65 62 (bI .eql (.t 64) (kI 0)), oP 66 62 (.t 65) (kB false), oM 4 66]) .ret) (.seq (.seq (.ops [oX 68 (bI .eql (.t 34) (kI 3)), oM 67 68]) (.cond (.t 67) .skip (.ops [oX 69 (bI .eql (.t 34) (kI 4)), oM 67 69]))) (.cond (.t 67) (.seq (.ops [oD 70 1 2, oL 71 70, oX 72 (bI .geq (.t 71) (kI 0)), oM 73 72, oT 74 73 (.faddr 2 (.t 2)), oT 75 73 (.load false 1 (.t 74)), oT 76 73 (bI .geq (.t 75) (kI 1)), oP 77 73 (.t 76) (kB false), oM 78 77, oT 79 78 (.faddr 1 (.t 2)), oT 80 78 (.load false 1 (.t 79)), oT 81 78 (.mv (.t 1)), oT 82 78 (bI .lss (.t 80) (.t 81)), oP 83 78 (.t 82) (kB false), oM 84 83, oT 85 84 (.faddr 2 (.t 2)), oT 86 84 (.load false 1 (.t 85)), oT 87 84 (.mv (.t 1)), oT 88 84 (.faddr 1 (.t 2)), oT 89 84 (.load false 1 (.t 88)), oT 90 84 (bI .sub (.t 87) (.t 89)), oT 91 84 (bI .leq (.t 86) (.t 90)), oP 92 84 (.t 91) (kB false), oM 4 92]) .ret) (.seq (.ops [oX 94 (bI .eql (.t 34) (kI 20)), oM 93 94]) (.cond (.t 93) (.seq (.ops [oD 95 2 2, oL 96 95, oX 97 (bI .eql (.t 96) (kI 0)), oM 4 97]) .ret) .skip)))))))))) (.seq (.ops [oD 98 1 2, oL 99 98, oX 100 (bI .eql (.t 99) (kI 0)), oM 101 100, oT 102 101 (.faddr 2 (.t 2)), oT 103 101 (.load false 1 (.t 102)), oT 104 101 (bI .eql (.t 103) (kI 0)), oP 105 101 (.t 104) (kB false), oM 4 105]) .ret)))))⟩
theorem L50_ok : zAy Tryz.prog Tryz.f50 [] = some L50 := by kernel_rfl
def L51 : LFn := ⟨11, [(.tmp 2)], (.seq (.ops [oX 1 (.box false (.t 0)), oX 2 (.mv (kI 0))]) (.seq (.seq (.ops [oD 3 3 1, oL 4 3, oX 5 (bI .geq (.t 4) (kI 0))]) (.cond (.t 5) (.seq (.ops [oD 6 3 1, oL 7 6, oM 2 7]) .ret) .skip)) (.seq (.ops [oD 8 4 1, oL 9 8, oX 10 (.len .slc (.t 9)), oM 2 10]) .ret)))⟩
theorem L51_ok : zAy Tryz.prog Tryz.f51 [] = some L51 := by kernel_rfl
def L73 : LFn := ⟨15, [], (.seq (.seq (.ops [oL 5 2]) (.seq (.ops [oM 6 0]) (.seq (.ops [oX 7 (bI .geq (.t 5) (.t 6))]) (.seq (.ops []) (.seq (.callp (some 8) (.c (.fn (.func 25) [] [])) [(.t 7)]) (.ops [])))))) (.seq (.ops [oL 9 2, oM 10 1, oX 11 (bI .add (.t 9) (.t 10)), oS 1 2 11]) (.seq (.ops [oL 12 2]) (.seq (.ops [oX 13 (bI .leq (.t 12) (kI 1024))]) (.seq (.ops []) (.seq (.callp (some 14) (.c (.fn (.func 25) [] [])) [(.t 13)]) (.ops [])))))))⟩
theorem L73_ok : zAy Tryz.prog Tryz.f73 [⟨0, 3, .cut⟩, ⟨2, 2, .cut⟩] = some L73 := by kernel_rfl
def L74 : LFn := ⟨12, [(.tmp 3)], (.seq (.ops [oX 3 (.mv (kB false))]) (.seq (.ops [oM 4 0, oX 5 (bI .geq (.t 4) (kI 0)), oM 6 5, oT 7 6 (.mv (.t 0)), oT 8 6 (.faddr 2 (.t 1)), oT 9 6 (.load false 1 (.t 8)), oT 10 6 (bI .lss (.t 7) (.t 9)), oP 11 6 (.t 10) (kB false), oM 3 11]) .ret))⟩
theorem L74_ok : zAy Tryz.prog Tryz.f74 [] = some L74 := by kernel_rfl
def L75 : LFn := ⟨11, [(.tmp 2)], (.seq (.ops [oX 1 (.box false (.t 0)), oX 2 (.mv (kI 0))]) (.seq (.seq (.ops [oD 3 3 1, oL 4 3, oX 5 (bI .geq (.t 4) (kI 0))]) (.cond (.t 5) (.seq (.ops [oD 6 3 1, oL 7 6, oM 2 7]) .ret) .skip)) (.seq (.ops [oD 8 4 1, oL 9 8, oX 10 (.len .slc (.t 9)), oM 2 10]) .ret)))⟩
theorem L75_ok : zAy Tryz.prog Tryz.f75 [] = some L75 := by kernel_rfl
end Go.Proofs.YtbibhcmcjldhdaaGreatDoor
namespace Go.Proofs.YtbibhcmcjldhdaaGreatDoor
open Go Go.Ax Go.RowKit
set_option maxRecDepth 100000
set_option linter.unusedSimpArgs false
set_option linter.unusedVariables false
set_option maxHeartbeats 4000000
def zC8 (d : Nat) (ws : Ln) : Wd := Lib.repeatL [32, 32] d ++ (Lib.join ws [32] ++ [10])
theorem strRepC (s : List UInt8) (c : Nat) (hc : c ≤ 9223372036854775807) (hl : s.length * c ≤ 140737488355328) (H : zC) :
  ACall Tryz.prog 35 [str s, int c] H fun x H' => x = str (Lib.repeatL s c) ∧ H' = H := by
 refine ⟨⟨_, Tryz.func35, by kernel_rfl, by kernel_rfl⟩, fun X ρ w vs hrel hargs => ?_⟩
 obtain ⟨a, b, rfl, ha, hb⟩ := repL_two hargs
 have ha := rep_vx ha
 have hb := rep_vx hb
 subst ha
 subst hb
 refine (Tryz.strings_Repeat (mkS s) c w hc (by rw [size_mkS]; exact hl)).mono ?_
 rintro e w' ⟨rfl, hbel⟩
 obtain ⟨f1, f2⟩ := hrel.more ⟨hbel.os, hbel.tape, hbel.output, hbel.size⟩ hbel.block
 exact ⟨_, _, H, ρ, rfl, ⟨rfl, rfl⟩, f1, .v _ _, f2⟩
def lnLen : Ln → Nat
 | [] => 0
 | w :: l => w.length + 1 + lnLen l
theorem fjoin_len : ∀ l : Ln, (Lib.join l [32]).length ≤ lnLen l
 | [] => by simp [Lib.join, lnLen]
 | [w] => by rw [Lib.join_one]; simp [lnLen]
 | w :: x :: l => by
  have := fjoin_len (x :: l)
  have e : Lib.join (w :: x :: l) [32] = w ++ 32 :: Lib.join (x :: l) [32] := by simp [Lib.join, List.intercalate, List.intersperse]
  rw [e]
  simp only [List.length_append, List.length_cons, lnLen] at this ⊢
  omega
theorem lineT_len (d : Nat) (ws : Ln) : (zC8 d ws).length ≤ 2 * d + lnLen ws + 1 := by
 have := fjoin_len ws
 unfold zC8
 simp only [List.length_append, Lib.repeatL_length, List.length_cons, List.length_nil]
 omega
theorem lineC (n0 r : Nat) (l : List UInt8) (d : Nat) (ws : Ln) (H : zC) (hb : BSt n0 r l H) (hn : n0 ≤ H.length) (hd : d ≤ 1000000) (hw : ws.length ≤ 1000000) (hl : l.length + (lnLen ws + 2 * d + 1) ≤ 140737488355328) :
  ACall Tryz.prog 33 [int d, .sl 1 (ws.map fun x => [str x]), .ptr r 0 0] H fun x H' => x = .tup [] ∧ BSt n0 r (l ++ zC8 d ws) H' ∧ Kp n0 r H H' := by
 have hj := fjoin_len ws
 have hlt := lineT_len d ws
 refine enter Tryz.func33 L33f_ok (Nat.le_of_ble_eq_true rfl) ?_
 have cR := fun H => strRepC [32, 32] d (by omega) (by simp only [List.length_cons, List.length_nil]; omega) H
 have cJ := fun H => joinC ws [32] (by omega) (by omega) H
 repeat' (first | refine zA (cR _) ?_ | refine zA (cJ _) ?_ | simp -implicitDefEqProofs (disch := omega) only [L33f, push_cast, ↓reduceIte, Nat.reduceEqDiff, reduceCtorEq, Nat.reduceAdd])
 have hr := Lib.repeatL_length [32, 32] d
 simp only [List.length_cons, List.length_nil] at hr
 refine ⟨by omega, by omega, ?_⟩
 refine zAv (writeC n0 r l (zC8 d ws) H hb hn (by omega)) ?_
 rintro x G ⟨rfl, h1, h2⟩
 repeat' (simp -implicitDefEqProofs (disch := omega) only [push_cast])
 exact ⟨by simp [zAQ], rfl, h1, h2⟩
theorem wordsFC (H : zC) : ACall Tryz.prog 38 [] H fun x H' => x = .sl 1 (opsW.map fun w => [str w]) ∧ H' = H := by
 refine ACall.drop (R := fun x => x = .sl 1 (opsW.map fun w => [str w])) ?_
 refine enter Tryz.func38 L38_ok (Nat.le_of_ble_eq_true rfl) ?_
 simp -implicitDefEqProofs (disch := omega) only [L38, zB, zO, zF, zI, zB8, zY, zBF, zBG, zBE, zBl, opsW, zL, zV, zAf, zAB, zAa, zX, push_cast, ↓reduceIte, Nat.reduceEqDiff, reduceCtorEq, Nat.reduceAdd, Nat.reduceSub, Nat.reduceMul, Nat.reduceLeDiff, Nat.reduceLT, Nat.reduceMod, Nat.reduceDiv, Int.reduceToNat, Int.reduceLT, Int.reduceLE, Int.reduceEq, Int.reduceAdd, Int.reduceSub, Int.reduceNeg, Int.reduceMul, Bool.and_self]
 all_goals exact ⟨_, rfl⟩
theorem operandsFC (o : Nat) (H : zC) : ACall Tryz.prog 39 [int o] H fun x H' => x = int (argsN o) ∧ H' = H := by
 refine ACall.drop (R := fun x => x = int (argsN o)) ?_
 refine enter Tryz.func39 L39_ok (Nat.le_of_ble_eq_true rfl) ?_
 unfold argsN
 by_cases h0 : o = 0
 ·repeat' (first | refine And.intro (by omega) ?_ | simp -implicitDefEqProofs (disch := omega) only [L39, zAa, push_cast, ↓reduceIte, reduceCtorEq, Nat.reduceAdd, Int.reduceAdd] | split)
  all_goals exact ⟨[], (List.append_nil _).symm⟩
 by_cases h1 : o = 1
 ·repeat' (first | refine And.intro (by omega) ?_ | simp -implicitDefEqProofs (disch := omega) only [L39, zAa, zX, push_cast, ↓reduceIte, Nat.reduceEqDiff, reduceCtorEq, Nat.reduceAdd, Int.reduceAdd] | split)
  all_goals exact ⟨[], (List.append_nil _).symm⟩
 by_cases h2 : o = 2
 ·repeat' (first | refine And.intro (by omega) ?_ | simp -implicitDefEqProofs (disch := omega) only [L39, zAa, zX, push_cast, ↓reduceIte, Nat.reduceEqDiff, reduceCtorEq, Nat.reduceAdd, Int.reduceAdd] | split)
  all_goals exact ⟨[], (List.append_nil _).symm⟩
 by_cases h3 : o = 20
 ·repeat' (first | refine And.intro (by omega) ?_ | simp -implicitDefEqProofs (disch := omega) only [L39, zAa, zX, push_cast, ↓reduceIte, Nat.reduceEqDiff, reduceCtorEq, Nat.reduceAdd, Int.reduceAdd] | split)
  all_goals exact ⟨[], (List.append_nil _).symm⟩
 by_cases h4 : o = 3
 ·repeat' (first | refine And.intro (by omega) ?_ | simp -implicitDefEqProofs (disch := omega) only [L39, zAa, zX, push_cast, ↓reduceIte, Nat.reduceEqDiff, reduceCtorEq, Nat.reduceAdd, Int.reduceAdd] | split)
  all_goals exact ⟨[], (List.append_nil _).symm⟩
 by_cases h5 : o = 4
 ·repeat' (first | refine And.intro (by omega) ?_ | simp -implicitDefEqProofs (disch := omega) only [L39, zAa, zX, push_cast, ↓reduceIte, Nat.reduceEqDiff, reduceCtorEq, Nat.reduceAdd, Int.reduceAdd] | split)
  all_goals exact ⟨[], (List.append_nil _).symm⟩
 repeat' (first | refine And.intro (by omega) ?_ | simp -implicitDefEqProofs (disch := omega) only [L39, zX, push_cast, ↓reduceIte, Nat.reduceEqDiff, reduceCtorEq, Nat.reduceAdd] | split)
 all_goals exact ⟨[], (List.append_nil _).symm⟩
end Go.Proofs.YtbibhcmcjldhdaaGreatDoor
namespace Go.Ax
open Go Go.RowKit
set_option linter.unusedSimpArgs false
set_option linter.unusedVariables false
section
variable {P : Program} {w w0 w1 : World} {X : Nat → Prop} {ρ ρ0 ρ1 : Nat → Loc} {H H1 : zC} {e e1 : Env} {a a1 : Act} {n n0 : Nat}
def mdOf : Option Value → FrameMode
 | none => .returning
 | some z => .panicking [{ v := z, recovered := false }]
def zCp : Option Value → FrameMode
 | none => .returning
 | some z => .panicking [{ v := z, recovered := true }]
theorem settle_after (m : Option Value) : settle (zCp m) = .returning := by cases m <;> rfl
def ADef (P : Program) (k : FuncId) (args : List AV) (m : Option Value) (H : zC) (K : zC → Prop) : Prop :=
 ∀ X ρ w vs, HRel w X ρ H → RepL w (Mut X ρ H.length) ρ H.length args vs →
  CallsDIn Fence.wide 0 P k vs (mdOf m) w fun en u' w' => ∃ v H' ρ', en = .returned v ∧ u' = zCp m ∧ K H' ∧ HRel w' X ρ' H' ∧ Fut w ρ H.length w' ρ' H'.length
def postD (P : Program) (res : List RV) (R : AV → zC → Prop) (k : FuncId) (args : List AV) : Out → Env → zC → Prop
 | .exit _, _, _ => False
 | .pan v, e, H => ADef P k args (some v) H fun H' => (zAQ e H' res).ok ∧ R (zAQ e H' res).x H'
 | _, e, H => ADef P k args none H fun H' => (zAQ e H' res).ok ∧ R (zAQ e H' res).x H'
def wpD (P : Program) (res : List RV) (R : AV → zC → Prop) : LD → Env → zC → Prop
 | .seq a b, e, H => zZ P [.code a] (fun o e' H' => o = .normal ∧ wpD P res R b e' H') .normal e H
 | .cut los f args body, e, H => zZ P [.ops los] (fun o e1 H1 => o = .normal ∧ ∃ k first caps, ev e1 f = .fn (.func k) first caps ∧ Enter P k ∧ zZ P [.code body] (postD P res R k (first ++ args.map (ev e1) ++ caps)) .normal e1 H1) .normal e H
theorem RepL.nextN {w' : World} {ρ' : Nat → Loc} {n n' : Nat} {xs : List AV} {us : Array Value} (hf : Fut w ρ n w' ρ' n') (h : RepL w (Mut X ρ n) ρ n xs us) : RepL w' (Mut X ρ' n') ρ' n' xs us :=
 ⟨h.1, fun i x u hx hu => (h.2 i x u hx hu).nextN hf⟩
theorem opsD_sound {B : DB} {ops : Array Oper} {Q : Exit → Act → World → Prop} {K : FuncId → List AV → Env → zC → Prop}
  (hQ : ∀ k dargs e1 H1 a1 w1 ρ1 d vs, K k dargs e1 H1 → a1.tmps.size = n → HRel w1 X ρ1 H1 → ER w1 X ρ1 H1 n e1 a1 → Fut w0 ρ0 n0 w1 ρ1 H1.length → Mk B w0 w1 ρ1 H1.length a1.defers → RepL w1 (Mut X ρ1 H1.length) ρ1 H1.length dargs vs →
   (∃ fv cap, d.target = .fn fv cap) → (∀ w', (invoke d.target d.args).run P w' = .ok (.enter k vs) w') → Q .normal { a1 with defers := d :: a1.defers } w1) :
  ∀ (l : List Oper) (los : List LO) (f : LX) (args : List LX) (e : Env) (H : zC) (a : Act) (w : World), lowOpsD P n ops l = some (los, f, args) →
   (zAu P los e H fun e1 H1 => ∃ k first caps, ev e1 f = .fn (.func k) first caps ∧ Enter P k ∧ K k (first ++ args.map (ev e1) ++ caps) e1 H1) → St B X w0 ρ0 n0 n e H a w → wpListIn (WR none) 0 P ops Q l a w
 | [], los, f, args, e, H, a, w, hl, h, hst => by cases hl
 | [o], los, f, args, e, H, a, w, hl, h, hst => by
  have hl0 : (lowDop n o).map (fun p => (([] : List LO), p.1, p.2)) = some (los, f, args) := hl
  clear hl
  obtain ⟨⟨f', args'⟩, hl, hp⟩ := zAr hl0
  clear hl0
  simp only [Prod.mk.injEq] at hp
  obtain ⟨rfl, rfl, rfl⟩ := hp
  unfold lowDop at hl
  split at hl
  ·rename_i fo ao ts ho hg hd
   split at hl
   ·rename_i g m hf hm
    simp only [Option.some.injEq, Prod.mk.injEq] at hl
    obtain ⟨rfl, rfl⟩ := hl
    obtain ⟨k, first, caps, hfv, ⟨fn, hfn, hbody, hname⟩, hK⟩ := h
    obtain ⟨h2, ρ, hrel, he, hfu, hmk⟩ := hst
    have rf := zAc he hf
    obtain ⟨hlen, hrep⟩ := zCd he _ _ hm
    rw [hfv] at rf
    generalize hfe : a.eval fo = fv at rf
    cases rf with
    | fn _ _ _ _ fs us h1 h2' h3 h4 =>
     have hrl : RepL w (Mut X ρ H.length) ρ H.length (first ++ m.map (ev e) ++ caps) (fs ++ ao.map a.eval ++ us) := by
      refine ⟨by simp [h1, h2', hlen], fun i x u hx hu => ?_⟩
      rw [List.append_assoc, List.getElem?_append] at hx
      rw [Array.append_assoc, Array.getElem?_append] at hu
      by_cases hi : i < first.length
      ·rw [if_pos hi] at hx
       rw [if_pos (by omega)] at hu
       exact h3 i x u hx hu
      ·rw [if_neg hi, List.getElem?_append] at hx
       rw [if_neg (by omega), Array.getElem?_append] at hu
       simp only [List.length_map, Array.size_map] at hx hu
       have hl2 : m.length = ao.size := by simpa using hlen
       by_cases hj : i - first.length < m.length
       ·rw [if_pos hj] at hx
        rw [if_pos (by omega)] at hu
        exact hrep (i - first.length) x u hx (by rw [← h1] at hu; simpa using hu)
       ·rw [if_neg hj] at hx
        rw [if_neg (by omega)] at hu
        exact h4 (i - first.length - m.length) x u hx (by rw [← h1, ← hl2] at hu; exact hu)
     obtain ⟨d, hrun, htar, hinv⟩ : ∃ d, (execOp a.eval o).run P w = .ok (.defer d) w ∧ (∃ fv cap, d.target = .fn fv cap) ∧ ∀ w', (invoke d.target d.args).run P w' = .ok (.enter k (fs ++ ao.map a.eval ++ us)) w' := by
      refine ⟨{ target := .fn (.func k) us, args := fs ++ ao.map a.eval }, ?_, ⟨_, _, rfl⟩, fun w' => ?_⟩
      ·unfold execOp
       rw [ho]
       simp only [resolve, hfe, Deferred.ofValue, Sem.run_bind, Sem.run_pure, Result.andThen_ok]
      ·simp only [invoke, callFunc, Sem.run_bind, Sem.run_pure, Result.andThen_ok, run_program, hfn, hname, Bool.false_eq_true, if_false, hbody]
     unfold wpListIn
     rw [zBO hg, if_pos rfl]
     refine ⟨fun _ _ => trivial, ?_⟩
     show o.uponIn _ _ _ _ _ _ ((Oper.semAt none a.eval o).run P w)
     rw [Oper.semAt_none, hrun, Oper.uponIn_defer, hd]
     exact hQ k _ e H a w ρ d _ hK h2 hrel he hfu hmk hrl htar hinv
   ·cases hl
  ·cases hl
 | o :: o2 :: l, los, f, args, e, H, a, w, hl, h, hst => by
  unfold lowOpsD at hl
  simp only at hl
  split at hl
  ·rename_i lo p h1 h2
   obtain ⟨m, f', args'⟩ := p
   simp only [Option.some.injEq, Prod.mk.injEq] at hl
   obtain ⟨rfl, rfl, rfl⟩ := hl
   have := zA9 (r := none) (m0 := 0) h1 h hst (next := wpListIn (WR none) 0 P ops Q (o2 :: l)) (Q := Q) fun e'' H'' a'' w'' hK hs'' => opsD_sound hQ (o2 :: l) m f' args' e'' H'' a'' w'' h2 hK hs''
   unfold wpListIn
   exact this
  ·cases hl
theorem lowD_sound {fn : Func} {hs : List Hn} {rs : List RV} {R : AV → zC → Prop} (hr : lowRs P n fn.results.toList = some rs) : ∀ (c : Code) (ld : LD) (e : Env) (H : zC) (a : Act) (w : World), lowD P n hs c = some ld → wpD P rs R ld e H → St ⟨[], True⟩ X w0 ρ0 n0 n e H a w →
  c.wpIn (WR none) 0 P (bodyPostM Fence.wide 0 P fn fun en w' => ∃ v x H' ρ', en = .returned v ∧ R x H' ∧ HRel w' X ρ' H' ∧ Rep w' (Mut X ρ' H'.length) ρ' H'.length x v ∧ Fut w0 ρ0 n0 w' ρ' H'.length) a w := by
 intro c
 induction c with
 | seq x y ihx ihy =>
  intro ld e H a w hl h hst
  unfold lowD at hl
  split at hl
  ·rename_i p hp
   obtain ⟨los, f, args⟩ := p
   cases hb : lowC P n hs y with
   | none => rw [hb] at hl; cases hl
   | some body =>
    rw [hb, Option.map_some, Option.some.injEq] at hl
    subst hl
    unfold cutOf at hp
    split at hp
    ·rename_i id ops
     have h : zAu P los e H fun e1 H1 => (Out.normal = .normal ∧ ∃ k first caps, ev e1 f = .fn (.func k) first caps ∧ Enter P k ∧ zZ P [.code body] (postD P rs R k (first ++ args.map (ev e1) ++ caps)) .normal e1 H1) := h
     have h : zAu P los e H fun e1 H1 => ∃ k first caps, ev e1 f = .fn (.func k) first caps ∧ Enter P k ∧ (fun k dargs e1 H1 => zZ P [.code body] (postD P rs R k dargs) .normal e1 H1) k (first ++ args.map (ev e1) ++ caps) e1 H1 := zBz h fun _ _ hh => hh.2
     refine wpIn_seq (wpIn_region_list (opsD_sound (K := fun k dargs e1 H1 => zZ P [.code body] (postD P rs R k dargs) .normal e1 H1) (fun k dargs e1 H1 a1 w1 ρ1 d vs hK hn1 hrel1 he1 hf1 hmk1 hrl1 htar hinv => ?_) ops.toList los f args e H a w hp h hst))
     refine code_sound (B := ⟨d :: a1.defers, True⟩) (X := X) (w0 := w1) (ρ0 := ρ1) (n0 := H1.length) (rd := none) (m0 := 0) (H := H1) (e := e1) y hb (.inl ⟨rfl, trivial⟩) hK ⟨hn1, ρ1, hrel1, he1, Fut.refl _ _ _, Mk.nil⟩ ?_
     intro o e' H' a' w' hk hst'
     obtain ⟨hn, ρ', g1, g2, g3, ds, d1, _, d2, d3⟩ := hst'
     obtain ⟨f1, f2, f3⟩ := pokes_ok ds d2 (fun D hD => ⟨(d3 D hD).1, (d3 D hD).2.2.2⟩) g1 g2 g3
     obtain ⟨fv, cap, htar⟩ := htar
     have go : ∀ m : Option Value, (ADef P k dargs m H' fun H'' => (zAQ e' H'' rs).ok ∧ R (zAQ e' H'' rs).x H'') → LeavesInM Fence.wide 0 P fn a'.tmps (fun en w' => ∃ v x H' ρ', en = .returned v ∧ R x H' ∧ HRel w' X ρ' H' ∧ Rep w' (Mut X ρ' H'.length) ρ' H'.length x v ∧ Fut w0 ρ0 n0 w' ρ' H'.length) a'.defers (mdOf m) w' := by
      intro m hd
      rw [d1]
      refine zB6 (by cases m <;> simp [mdOf]) ds w' d2 (fun D hD => (d3 D hD).2.2.2) ⟨by cases m <;> simp [mdOf], .inr ⟨fun hh => (by cases hh), fv, cap, k, vs, htar, hinv _, fun _ _ => trivial, ?_⟩⟩
      refine (hd X ρ' _ vs f1 (hrl1.nextN f3)).mono ?_
      rintro en u' w'' ⟨v, H'', ρ'', rfl, rfl, ⟨hok, hR⟩, q1, q2⟩
      have hm1 : Mk ⟨[], True⟩ w0 w'' ρ'' H''.length a1.defers := (hmk1.fut f3).fut q2
      obtain ⟨ds1, c1, _, c2, c3⟩ := hm1
      have he2 : ER w'' X ρ'' H'' n e' a' := fun t ht => (f2 t ht).nextN q2
      obtain ⟨p1, p2, p3⟩ := pokes_ok (w0 := w0) ds1 c2 (fun D hD => ⟨(c3 D hD).1, (c3 D hD).2.2.2⟩) q1 he2 ((hf1.trans f3).trans q2)
      show LeavesInM Fence.wide 0 P fn a'.tmps _ a1.defers (settle (zCp m)) w''
      rw [settle_after, c1]
      obtain ⟨_, v2, k3, k4⟩ := results_ok hr p1 p2 hok
      exact zB6 (by simp) ds1 w'' c2 (fun D hD => (c3 D hD).2.2.2) ⟨v2, k3, v2, _, H'', ρ'', rfl, hR, p1, k4, p3⟩
     cases o with
     | normal => exact go none hk
     | exit id => exact hk.elim
     | ret => exact go none hk
     | pan z => exact go (some z) hk
    ·cases hp
  ·split at hl
   ·rename_i la lb h1 h2
    simp only [Option.some.injEq] at hl
    subst hl
    refine wpIn_seq (code_sound x h1 (.inl ⟨rfl, trivial⟩) (h : awp P la e H _) hst fun o e' H' a' w' hk hs' => ?_)
    obtain ⟨rfl, hk⟩ := hk
    exact ihy lb e' H' a' w' h2 hk hs'
   ·cases hl
 | _ => intro ld e H a w hl; cases hl
theorem enterD {k : FuncId} {fn : Func} {hs : List Hn} {L : LFnD} {args : List AV} {R : AV → zC → Prop} (hf : P.funcs[k]? = some fn) (hl : lowFnD P fn hs = some L) (ha : args.length ≤ L.n)
  (h : wpD P L.res R L.body (envOf args 0) H) : ACall P k args H R := by
 unfold lowFnD at hl
 cases hb : fn.body with
 | none => simp [hb] at hl
 | some c =>
  cases hr : lowRs P fn.ntmps fn.results.toList with
  | none => simp [hb, hr] at hl
  | some rs =>
   simp only [hb, hr] at hl
   split at hl
   ·rename_i b hc
    split at hl
    ·rename_i hcond
     simp only [Option.some.injEq] at hl
     subst hl
     refine ⟨⟨fn, hf, by simp [hb], hcond.2⟩, fun X ρ w vs hrel hargs => (callsIn_wide (n := 0)).1 (callsIn_of_wp_marks hf hb trivial ?_)⟩
     have hvs : vs.size ≤ fn.ntmps := by rw [← hargs.1]; exact ha
     refine lowD_sound (X := X) (w0 := w) (ρ0 := ρ) (n0 := H.length) hr c b (envOf args 0) H _ w hc h ⟨by simp; omega, ρ, hrel, fun t ht => ?_, Fut.refl _ _ _, Mk.nil⟩
     rw [envOf_get, if_pos (Nat.zero_le _), Nat.sub_zero]
     by_cases htl : t < vs.size
     ·have hx : args[t]? = some (args[t]'(by rw [hargs.1]; exact htl)) := by simp
      rw [hx, Option.getD_some]
      refine hargs.2 t _ _ hx ?_
      simp [Array.getD_eq_getD_getElem?, Array.getElem?_append, htl]
     ·rw [List.getElem?_eq_none (by rw [hargs.1]; omega)]
      exact .any _ _
    ·cases hl
   ·cases hl
end
section
variable {P : Program} {w w0 w1 : World} {X : Nat → Prop} {ρ ρ0 ρ1 : Nat → Loc} {H H1 : zC} {e e1 : Env} {a a1 : Act} {n n0 : Nat}
def recV : Option Value → Value
 | none => .nilIface
 | some z => z
def recE (m : Option Value) (sl : List Nat) (e : Env) : Env := sl.foldl (fun e d => up e d (.v (recV m))) e
theorem recOp_run {o : Oper} {d : Nat} (h : recOp o = some d) (w : World) : o.guard = none ∧ o.dst = some d ∧ (execOp a.eval o).run P w = .ok .recover w := by
 unfold recOp at h
 split at h
 ·rename_i x y ho hg hd
  cases h
  refine ⟨hg, hd, ?_⟩
  unfold execOp
  rw [ho]
  rfl
 ·cases h
theorem movOp_run {o : Oper} {d d2 : Nat} (h : movOp d o = some d2) (w : World) : o.guard = none ∧ o.dst = some d2 ∧ (execOp a.eval o).run P w = .ok (.value (a.eval (.tmp d))) w := by
 unfold movOp at h
 split at h
 ·rename_i d' d2' ho hg hd
  split at h
  ·rename_i hdd
   cases h
   subst hdd
   refine ⟨hg, hd, ?_⟩
   unfold execOp
   rw [ho]
   rfl
  ·cases h
 ·rename_i d' d2' ho hg hd
  split at h
  ·rename_i hdd
   cases h
   subst hdd
   refine ⟨hg, hd, ?_⟩
   unfold execOp
   rw [ho]
   rfl
  ·cases h
 ·cases h
theorem recoverD_md {c₀ : Frame} {cs : List Frame} {m : Option Value} (h : c₀.mode = mdOf m) :
  (m = none ∧ recoverD (c₀ :: cs) = none ∧ c₀ :: cs = { c₀ with mode := zCp m } :: cs) ∨ (∃ z, m = some z ∧ recoverD (c₀ :: cs) = some (z, { c₀ with mode := zCp m } :: cs)) := by
 obtain ⟨f1, f2, f3, f4, md, f6, f7⟩ := c₀
 simp only at h
 subst h
 cases m with
 | none => exact .inl ⟨rfl, rfl, rfl⟩
 | some z => exact .inr ⟨z, rfl, rfl⟩
theorem enterDef {k : FuncId} {fn : Func} {hs : List Hn} {L : LDef} {args : List AV} {m : Option Value} {K : zC → Prop} (hf : P.funcs[k]? = some fn) (hl : lowDef P fn hs = some L) (ha : args.length ≤ L.n)
  (h : zZ P [.code L.body] (fun o _ H' => (o = .normal ∨ o = .ret) ∧ K H') .normal (recE m L.sl (envOf args 0)) H) : ADef P k args m H K := by
 unfold lowDef at hl
 split at hl
 ·rename_i id ops rest hb
  split at hl
  ·rename_i sl b hsl hc
   split at hl
   ·rename_i hcond
    obtain ⟨hnr, hres, hpar⟩ := hcond
    simp only [Option.some.injEq] at hl
    subst hl
    intro X ρ w vs hrel hargs
    have hvs : vs.size ≤ fn.ntmps := by rw [← hargs.1]; exact ha
    refine callsDIn_of_wpSIn hf hb trivial fun c₀ cs hm => ?_
    refine wpSIn_seq (wpSIn_region ?_)
    have hst0 : St ⟨[], False⟩ X w ρ H.length fn.ntmps (envOf args 0) H { tmps := vs ++ Array.replicate (fn.ntmps - vs.size) undef, defers := [] } w := by
     refine ⟨by simp; omega, ρ, hrel, fun t ht => ?_, Fut.refl _ _ _, Mk.nil⟩
     rw [envOf_get, if_pos (Nat.zero_le _), Nat.sub_zero]
     by_cases htl : t < vs.size
     ·have hx : args[t]? = some (args[t]'(by rw [hargs.1]; exact htl)) := by simp
      rw [hx, Option.getD_some]
      refine hargs.2 t _ _ hx ?_
      simp [Array.getD_eq_getD_getElem?, Array.getElem?_append, htl]
     ·rw [List.getElem?_eq_none (by rw [hargs.1]; omega)]
      exact .any _ _
    generalize ({ tmps := vs ++ Array.replicate (fn.ntmps - vs.size) undef, defers := [] } : Act) = a0 at hst0 ⊢
    generalize envOf args 0 = e0 at hst0 h
    have fin : ∀ (a' : Act), St ⟨[], False⟩ X w ρ H.length fn.ntmps (recE m sl e0) H a' w → rest.wpSIn Fence.wide 0 P (bodyPostS P fn c₀ cs fun en u' w' => ∃ v H' ρ', en = .returned v ∧ u' = zCp m ∧ K H' ∧ HRel w' X ρ' H' ∧ Fut w ρ H.length w' ρ' H'.length) a' ({ c₀ with mode := zCp m } :: cs) w := by
     intro a' hst
     refine wpSIn_of_wpIn rfl ?_
     refine code_sound (B := ⟨[], False⟩) (rd := none) (m0 := 0) rest hc (.inr hnr) h hst fun o e' H' a2 w' hk hs' => ?_
     obtain ⟨ho, hK⟩ := hk
     obtain ⟨hn, ρ', g1, g2, g3, ds, d1, d0, d2, d3⟩ := hs'
     have hds : ds = [] := d0.resolve_left (fun hh => hh)
     subst hds
     obtain ⟨_, v, k3, _⟩ := results_ok (rs := []) (by rw [hres]; rfl) g1 g2 (show (zAQ e' H' []).ok from fun r hr => by simp at hr)
     have hpost : a2.defers = [] ∧ ∃ u', ({ c₀ with mode := zCp m } :: cs : List Frame) = { c₀ with mode := u' } :: cs ∧ ∃ v, (results fn a2.tmps).run P w' = .ok v w' ∧ ∃ v' H' ρ', (Ending.returned v) = .returned v' ∧ u' = zCp m ∧ K H' ∧ HRel w' X ρ' H' ∧ Fut w ρ H.length w' ρ' H'.length :=
      ⟨by rw [d1]; rfl, zCp m, rfl, v, k3, v, H', ρ', rfl, rfl, hK, g1, g3⟩
     rcases ho with rfl | rfl <;> exact hpost
    have one : ∀ (o : Oper) (d : Nat), recOp o = some d → o.guard = none ∧ ∀ (Q : Exit → Act → List Frame → World → Prop) (ops : Array Oper) (l : List Nat) (i : Nat), ops[i]? = some o →
      (∀ a', St ⟨[], False⟩ X w ρ H.length fn.ntmps (up e0 d (.v (recV m))) H a' w → wpOpsSIn Fence.wide 0 P ops Q l a' ({ c₀ with mode := zCp m } :: cs) w) → wpOpsSIn Fence.wide 0 P ops Q (i :: l) a0 (c₀ :: cs) w := by
     intro o d hod
     refine ⟨(recOp_run (P := P) (a := a0) hod w).1, fun Q ops l i hi hk => ?_⟩
     obtain ⟨hg, hdst, hrun⟩ := recOp_run (P := P) (a := a0) hod w
     obtain ⟨hs1, ρ1, hrel1, he1, hfu1, hmk1⟩ := hst0
     have hput : St ⟨[], False⟩ X w ρ H.length fn.ntmps (up e0 d (.v (recV m))) H (a0.put (some d) (recV m)) w := St.put (d := some d) hmk1 hs1 he1 hfu1 hrel1 (.v _ _) (Fut.refl _ _ _)
     have hk := hk _ hput
     unfold wpOpsSIn
     rw [hi]
     refine ⟨fun _ _ => trivial, ?_⟩
     rw [if_pos (zBO hg _), hrun]
     rcases recoverD_md (cs := cs) hm with ⟨rfl, hr, he⟩ | ⟨z, rfl, hr⟩
     ·simp only [hr, hdst]
      rw [he]
      exact hk
     ·simp only [hr, hdst]
      exact hk
    unfold recOps at hsl
    split at hsl
    ·rename_i o ho
     obtain ⟨d, hd, rfl⟩ := zAr hsl
     obtain rfl : ops = #[o] := by apply Array.ext'; simpa using ho
     exact (one o d hd).2 _ _ [] 0 rfl fun a' hs' => fin a' hs'
    ·rename_i o o1 ho
     split at hsl
     ·rename_i d hd
      obtain ⟨d2, hd2, rfl⟩ := zAr hsl
      obtain rfl : ops = #[o, o1] := by apply Array.ext'; simpa using ho
      refine (one o d hd).2 _ _ [1] 0 rfl fun a' hs' => ?_
      obtain ⟨hg, hdst, hrun⟩ := movOp_run (P := P) (a := a') hd2 w
      obtain ⟨hs1, ρ1, hrel1, he1, hfu1, hmk1⟩ := hs'
      have hdn : d < fn.ntmps := by simp at hpar; exact hpar.1
      have hrep := he1 d hdn
      rw [up_same] at hrep
      have hput := St.put (d := some d2) hmk1 hs1 he1 hfu1 hrel1 hrep (Fut.refl _ _ _)
      unfold wpOpsSIn
      rw [show (#[o, o1] : Array Oper)[1]? = some o1 from rfl]
      refine ⟨fun _ _ => trivial, ?_⟩
      rw [if_pos (zBO hg _), hrun]
      simp only [hdst]
      exact fin _ hput
     ·cases hsl
    ·cases hsl
   ·cases hl
  ·cases hl
 ·cases hl
end
end Go.Ax
namespace Go.Ax
open Go
set_option linter.unusedSimpArgs false
set_option linter.unusedVariables false
section
variable {P : Program} {k : List Item} {Q : Out → Env → zC → Prop} {e : Env} {H : zC}
theorem aopsX_calm {hd : List LO} {e1 : Env} : ∀ {tl : List (LO × List Nat)} {e : Env} {H : zC} {K : Env → zC → Prop} {Z : Value → zC → Prop}, aopsX P hd e1 (tl.map fun p => (p.1, false, p.2)) e H K Z = zCZ P hd e1 tl e H K
 | [], _, _, _, _ => rfl
 | (o, js) :: tl, e, H, K, Z => by
  show aTI P false o e H (fun e' H' => zCR P hd e1 H' js ∧ aopsX P hd e1 (tl.map fun p => (p.1, false, p.2)) e' H' K Z) Z = zAu P [o] e H fun e' H' => zCR P hd e1 H' js ∧ zCZ P hd e1 tl e' H' K
  have : (fun e' H' => zCR P hd e1 H' js ∧ aopsX P hd e1 (tl.map fun p => (p.1, false, p.2)) e' H' K Z) = fun e' H' => zCR P hd e1 H' js ∧ zCZ P hd e1 tl e' H' K := by
   funext e' H'
   rw [aopsX_calm]
  rw [this]
  rfl
@[push_cast] theorem rk_drawA (hd : List LO) (tl : List (LO × List Nat)) (gs : List LO) : zZ P (.code (.drawA hd tl gs) :: k) Q .normal e H = zZ P (.opq hd [] :: .opx hd (tl.map fun p => (p.1, false, p.2)) gs e :: k) Q .normal e H := by
 show zAJ P hd e H (fun e1 => zCZ P hd e1 tl e1 H fun e' H' => zAu P gs e' H' (zZ P k Q .normal)) = zAJ P hd e H fun e' => zAu P [] e' H fun e1 H1 => aopsX P hd e1 (tl.map fun p => (p.1, false, p.2)) e1 H1 (fun e' H' => zAu P gs e' H' (zZ P k Q .normal)) fun v H' => zZ P k Q (.pan v) e H'
 simp only [aopsX_calm]
 rfl
attribute [push_cast] List.map_cons List.map_nil
@[push_cast] theorem wpD_seq (res : List RV) (R : AV → zC → Prop) (a : LCode) (b : LD) : wpD P res R (.seq a b) e H = zZ P [.code a] (fun o e' H' => o = .normal ∧ wpD P res R b e' H') .normal e H := rfl
@[push_cast] theorem wpD_cut (res : List RV) (R : AV → zC → Prop) (los : List LO) (f : LX) (args : List LX) (body : LCode) : wpD P res R (.cut los f args body) e H = zZ P [.ops los] (fun o e1 H1 => o = .normal ∧ ∃ k first caps, ev e1 f = .fn (.func k) first caps ∧ Enter P k ∧ zZ P [.code body] (postD P res R k (first ++ args.map (ev e1) ++ caps)) .normal e1 H1) .normal e H := rfl
theorem zN {d : Option Nat} {f : FuncId} {args : List AV} {v : Value} (h : ACallX P f args H (fun _ _ => False) fun z H' => z = v ∧ H' = H) (hk : zZ P k Q (.pan v) e H) : callXF P f args H e d k Q :=
 zG h (fun _ _ hh => hh.elim) fun z H' ⟨h1, h2⟩ => by subst h1; subst h2; exact hk
@[push_cast] theorem out_norm : (Out.normal = .normal) = True := by simp
end
end Go.Ax
namespace Go.Proofs.YtbibhcmcjldhdaaGreatDoor
open Go Go.Ax Go.RowKit
set_option maxRecDepth 100000
set_option linter.unusedSimpArgs false
set_option linter.unusedVariables false
set_option maxHeartbeats 4000000
structure ItoaOk (N : Int → Prop) : Prop where
 call : ∀ n, N n → ∀ H, ACall Tryz.prog 40 [int n] H fun x H' => x = str (Lib.itoa n) ∧ H' = H
 len : ∀ n, N n → (Lib.itoa n).length ≤ 20
def numsOf (o a b : Int) : List Int := [a, b].take (argsN o.toNat)
theorem argsN_le (n : Nat) : argsN n ≤ 2 := by
 unfold argsN
 split
 ·omega
 ·split <;> omega
theorem numsOf_len (o a b : Int) : (numsOf o a b).length = argsN o.toNat := by
 have := argsN_le o.toNat
 unfold numsOf; simp only [List.length_take, List.length_cons, List.length_nil]; omega
def headT (o a b : Int) : Ln := opsW.getD o.toNat [] :: (numsOf o a b).map Lib.itoa
mutual
def insT (d : Nat) : Ins → Wd
 | .mk o a b l m => zC8 d (headT o a b) ++ (if o = 18 then lsT (d + 1) l ++ (zC8 d [wElse] ++ (lsT (d + 1) m ++ zC8 d [wEnd])) else if o = 19 then lsT (d + 1) m ++ (zC8 d [wDo] ++ (lsT (d + 1) l ++ zC8 d [wEnd])) else [])
def lsT (d : Nat) : List Ins → Wd
 | [] => []
 | x :: l => insT d x ++ lsT d l
end
mutual
def FOk (N : Int → Prop) : Ins → Prop
 | .mk o a b l m => (0 ≤ o ∧ o ≤ 22 ∧ ∀ n ∈ numsOf o a b, N n) ∧ FOks N l ∧ FOks N m
def FOks (N : Int → Prop) : List Ins → Prop
 | [] => True
 | x :: l => FOk N x ∧ FOks N l
end
theorem lsT_app (d : Nat) : ∀ l m : List Ins, lsT d (l ++ m) = lsT d l ++ lsT d m
 | [], m => by simp [lsT]
 | x :: l, m => by simp [lsT, lsT_app d l m]
theorem FOks_mem {N : Int → Prop} : ∀ {l : List Ins}, FOks N l → ∀ x ∈ l, FOk N x
 | y :: l, h, x, hx => by
  simp only [FOks] at h
  rcases List.mem_cons.1 hx with rfl | hx
  ·exact h.1
  ·exact FOks_mem h.2 x hx
theorem opsW_len : ∀ o : Nat, (opsW.getD o []).length ≤ 8 := by
 intro o
 by_cases h : o < 23
 ·have : ∀ o : Fin 23, (opsW.getD o.1 []).length ≤ 8 := by decide
  exact this ⟨o, h⟩
 ·have : opsW[o]? = none := List.getElem?_eq_none (by simp only [opsW, List.length_cons, List.length_nil]; omega)
  simp [List.getD, this]
theorem lnLen_le {ws : Ln} {k : Nat} : (∀ w ∈ ws, w.length ≤ k) → lnLen ws ≤ ws.length * (k + 1) := by
 induction ws with
 | nil => simp [lnLen]
 | cons w l ih =>
  intro h
  have h1 := h w (by simp)
  have h2 := ih fun w hw => h w (by simp [hw])
  simp only [lnLen, List.length_cons, Nat.add_mul]
  omega
theorem headT_len {N : Int → Prop} (hN : ItoaOk N) {o a b : Int} (h : ∀ n ∈ numsOf o a b, N n) : lnLen (headT o a b) ≤ 63 ∧ (headT o a b).length ≤ 3 := by
 have hl : (headT o a b).length ≤ 3 := by
  have := numsOf_len o a b
  have := argsN_le o.toNat
  simp only [headT, List.length_cons, List.length_map]; omega
 refine ⟨?_, hl⟩
 have := lnLen_le (ws := headT o a b) (k := 20) fun w hw => by
  simp only [headT, List.mem_cons, List.mem_map] at hw
  rcases hw with rfl | ⟨n, hn, rfl⟩
  ·have := opsW_len o.toNat; omega
  ·exact hN.len n (h n hn)
 omega
theorem BSt.app {n0 r : Nat} {l : List UInt8} {H : zC} (h : BSt n0 r l H) (X : zC) : BSt n0 r l (H ++ X) := by
 have hg : ∀ (i : Nat) (o : HO), H[i]? = some o → (H ++ X)[i]? = some o := fun i o ho => by
  rw [List.getElem?_append_left (List.getElem?_eq_some_iff.1 ho).1]; exact ho
 obtain ⟨h0, ⟨h1, h2⟩ | ⟨h1, h2⟩ | ⟨k, v, h1, h2, h3, h4⟩⟩ := h
 ·exact ⟨h0, .inl ⟨hg _ _ h1, h2⟩⟩
 ·exact ⟨h0, .inr (.inl ⟨hg _ _ h1, h2⟩)⟩
 ·exact ⟨h0, .inr (.inr ⟨k, v, h1, h2, hg _ _ h3, hg _ _ h4⟩)⟩
theorem BSt.lt {n0 r : Nat} {l : List UInt8} {H : zC} (h : BSt n0 r l H) : r < H.length := by
 obtain ⟨h0, ⟨h1, h2⟩ | ⟨h1, h2⟩ | ⟨k, v, h1, h2, h3, h4⟩⟩ := h
 ·exact (List.getElem?_eq_some_iff.1 h1).1
 ·exact (List.getElem?_eq_some_iff.1 h1).1
 ·exact (List.getElem?_eq_some_iff.1 h3).1
theorem Kp.app (n0 r : Nat) (H X : zC) (hn : n0 ≤ H.length) : Kp n0 r H (H ++ X) :=
 ⟨by simp, fun i hi => List.getElem?_append_left (by omega), fun i cs _ hc => by rw [List.getElem?_append_left (List.getElem?_eq_some_iff.1 hc).1]; exact hc⟩
abbrev lineV (r : Nat) : HO := .box [.fn (.func 33) [] [.ptr r 0 0]]
abbrev listV (rl rs : Nat) : HO := .box [.fn (.func 37) [] [.ptr rl 0 0, .ptr rs 0 0]]
theorem lsT_step {d : Nat} {xs : List Ins} {j : Nat} (h : j < xs.length) : lsT d (xs.take (j + 1)) = lsT d (xs.take j) ++ insT d (xs.getD j default) := by
 rw [zBx h, lsT_app]
 simp [lsT]
theorem lsT_split {d : Nat} {xs : List Ins} {j : Nat} (h : j < xs.length) : (lsT d (xs.take j)).length + (insT d (xs.getD j default)).length ≤ (lsT d xs).length := by
 have e : xs = xs.take (j + 1) ++ xs.drop (j + 1) := (List.take_append_drop _ _).symm
 have := congrArg (fun l => (lsT d l).length) e
 simp only [lsT_app, lsT_step h, List.length_append] at this
 omega
theorem icnt_mem' {x : Ins} : ∀ {l : List Ins}, x ∈ l → zBD x ≤ zQ l
 | y :: l, h => by
  simp only [zQ]
  rcases List.mem_cons.1 h with rfl | h
  ·omega
  ·have := icnt_mem' h; omega
set_option maxHeartbeats 8000000 in
theorem listFC {N : Int → Prop} (hN : ItoaOk N) (n0 r rl rs : Nat) (hrl : rl ≠ r) (hrs : rs ≠ r) : ∀ (m : Nat) (xs : List Ins) (d : Nat) (l : Wd) (H : zC), zQ xs < m → FOks N xs → d + zQ xs ≤ 1000000 → BSt n0 r l H → n0 ≤ H.length →
  H[rl]? = some (lineV r) → H[rs]? = some (listV rl rs) → l.length + (lsT d xs).length ≤ 100000000000000 →
  ACall Tryz.prog 37 [int d, .sl 5 (xs.map zAt), .ptr rl 0 0, .ptr rs 0 0] H fun x H' => x = .tup [] ∧ BSt n0 r (l ++ lsT d xs) H' ∧ Kp n0 r H H' := by
 intro m
 induction m with
 | zero => intro xs d l H h; omega
 | succ m ih =>
 intro xs d l H hm hx hd hb hn h1 h2 hl
 have hxl := zM xs
 refine enter Tryz.func37 L37f_ok (Nat.le_of_ble_eq_true rfl) ?_
 repeat' (simp -implicitDefEqProofs (disch := omega) only [L37f, push_cast, ↓reduceIte, reduceCtorEq, Nat.reduceAdd])
 refine zAj (fun (j : Nat) e' G => e' 0 = int d ∧ e' 2 = .ptr rl 0 0 ∧ e' 3 = .ptr rs 0 0 ∧ e' 14 = .sl 5 (xs.map zAt) ∧ e' 15 = int xs.length ∧ e' 16 = int j ∧ j ≤ xs.length ∧ BSt n0 r (l ++ lsT d (xs.take j)) G ∧ Kp n0 r H G) (fun j => xs.length - j) 0 ?_ ?_
 ·exact ⟨rfl, rfl, rfl, rfl, rfl, rfl, Nat.zero_le _, by simpa [lsT] using hb, Kp.refl _ _ _⟩
 rintro j e' G ⟨g0, g2, g3, g14, g15, g16, hj, hB, hK⟩
 by_cases hlt : j < xs.length
 rotate_left
 ·have e : j = xs.length := by omega
  subst e
  rw [List.take_length] at hB
  repeat' (simp -implicitDefEqProofs (disch := omega) only [g15, g16, zV, push_cast, ↓reduceIte])
  exact ⟨by simp [zAQ], rfl, hB, hK⟩
 have hmem := zAo hlt
 have hic := icnt_mem' hmem
 have hxx := FOks_mem hx _ hmem
 have hst := lsT_step (d := d) hlt
 have hsp := lsT_split (d := d) hlt
 have hrG := hB.lt
 have hk1 := hK.2.2 rl _ hrl h1
 have hk2 := hK.2.2 rs _ hrs h2
 have hGl := hK.1
 generalize hxe : xs.getD j default = x at *
 obtain ⟨o, a, b, l1, l2⟩ := x
 simp only [FOk] at hxx
 obtain ⟨⟨o1, o2, hns⟩, f1, f2⟩ := hxx
 simp only [zBD] at hic
 obtain ⟨q, rfl⟩ : ∃ q : Nat, o = q := ⟨o.toNat, by omega⟩
 have hhl := headT_len hN hns
 have hwn : (opsW.map fun w => [str w]).length = 23 := rfl
 have hwg : (opsW.map fun w => [str w]).getD q [] = [str (opsW.getD q [])] := by
  have hq : q < opsW.length := by simp only [opsW, List.length_cons, List.length_nil]; omega
  simp [List.getD, List.getElem?_map, List.getElem?_eq_getElem hq]
 have hW := fun H => wordsFC H
 have hO := fun H => operandsFC q H
 have hnl : (numsOf q a b).length = argsN q := by
  have := numsOf_len q a b
  rwa [Int.toNat_natCast] at this
 have hne : numsOf q a b = [a, b].take (argsN q) := by simp [numsOf]
 have hal := argsN_le q
 generalize argsN q = na at *
 generalize hwd : opsW.getD q [] = wd at *
 generalize hnsd : numsOf q a b = ns at *
 by_cases hq19 : q = 19
 ·subst hq19
  repeat' (first | refine And.intro (by omega) ?_ | refine zH (hW _) rfl ?_ | refine zH (hO _) rfl ?_ | simp -implicitDefEqProofs (disch := omega) only [g14, g15, g16, zU, hxe, zAt, hwg, hwn, zL, push_cast, ↓reduceIte, Nat.reduceEqDiff, reduceCtorEq, Nat.reduceAdd, Nat.reduceLeDiff, Nat.reduceLT, Int.reduceToNat, Int.reduceLT, Int.reduceLE, Int.reduceAdd, Bool.and_self])
  refine zAj (fun (k : Nat) e2 G2 => e2 0 = int d ∧ e2 2 = .ptr rl 0 0 ∧ e2 3 = .ptr rs 0 0 ∧ e2 14 = .sl 5 (xs.map zAt) ∧ e2 15 = int xs.length ∧ e2 16 = int j ∧ e2 7 = .ptr G.length 0 0 ∧ e2 8 = .sl 5 (zBu l2) ∧ e2 9 = .sl 5 (zBu l1) ∧ e2 10 = str wDo ∧ e2 11 = .os (G.length + 1) k 0 (k + 1) ∧ e2 45 = .sl 1 (ns.map iR) ∧ e2 46 = int na ∧ e2 47 = int k ∧ k ≤ na ∧ G2 = G ++ .box [int (19 : Nat), int a, int b, .sl 5 (zBu l1), .sl 5 (zBu l2)] :: .arr k 1 ((wd :: (ns.take k).map Lib.itoa).map sR) :: []) (fun k => na - k) 0 ?_ ?_
  ·refine ⟨g0, g2, g3, g14, g15, g16, rfl, rfl, rfl, rfl, rfl, ?_, ?_, rfl, Nat.zero_le _, rfl⟩
   ·rw [hne, List.map_take]; rfl
   ·show int _ = int _
    congr 1
    simp only [List.length_take, List.length_cons, List.length_nil]
    omega
  rintro k e2 G2 ⟨g0, g2, g3, g14, g15, g16, g7, g8, g9, g10, g11, g45, g46, g47, hk, rfl⟩
  by_cases hkl : k < na
  ·have hnk := hns _ (zAo (l := ns) (j := k) (by omega))
   have hts := zBx (l := ns) (j := k) (by omega)
   have hfin : List.take (k + 1) ((wd :: (ns.take k).map Lib.itoa).map sR) ++ [sR (Lib.itoa (ns.getD k default))] = (wd :: (ns.take (k + 1)).map Lib.itoa).map sR := by
    rw [hts, List.take_of_length_le (by simp; omega)]
    simp
   have hrl2 : ((wd :: (ns.take k).map Lib.itoa).map sR).length = k + 1 := by simp; omega
   generalize hRk : (wd :: (ns.take k).map Lib.itoa).map sR = Rk at *
   repeat' (first | refine And.intro (by omega) ?_ | refine zA (hN.call _ hnk _) ?_ | simp -implicitDefEqProofs (disch := omega) only [g11, g45, g46, g47, zU, iR, hrl2, zL, push_cast, ↓reduceIte, Nat.reduceEqDiff, reduceCtorEq, Nat.reduceAdd, Nat.reduceLeDiff, Nat.reduceLT, Int.reduceAdd, Bool.and_self])
   exact .mk (k + 1) ⟨g0, g2, g3, g14, g15, g16, g7, g8, g9, g10, rfl, g45, g46, rfl, hkl, congrArg (fun z => G ++ HO.box [int (19 : Nat), int a, int b, .sl 5 (zBu l1), .sl 5 (zBu l2)] :: HO.arr (k + 1) 1 z :: []) hfin⟩ (by omega)
  have hkn : k = na := by omega
  subst hkn
  have hall : List.take (k + 1) ((wd :: (ns.take k).map Lib.itoa).map sR) = (headT (19 : Nat) a b).map sR := by
   rw [List.take_of_length_le (by simp; omega), List.take_of_length_le (by omega), ← hwd]
   simp only [headT, Int.toNat_natCast, hnsd]
  have hrl2 : ((wd :: (ns.take k).map Lib.itoa).map sR).length = k + 1 := by simp; omega
  have hcl : clRR ((wd :: (ns.take k).map Lib.itoa).map sR) = true := clRR_map (fun _ => rfl) _
  generalize hRk : (wd :: (ns.take k).map Lib.itoa).map sR = Rk at *
  have hGs : ∀ X, (G ++ X)[rs]? = some (listV rl rs) := fun X => by rw [List.getElem?_append_left (List.getElem?_eq_some_iff.1 hk2).1]; exact hk2
  have hGr : ∀ X, (G ++ X)[rl]? = some (lineV r) := fun X => by rw [List.getElem?_append_left (List.getElem?_eq_some_iff.1 hk1).1]; exact hk1
  repeat' (simp -implicitDefEqProofs (disch := omega) only [g0, g2, g11, g46, g47, hGr, hall, zV, push_cast, ↓reduceIte, Nat.reduceEqDiff, reduceCtorEq, Nat.reduceAdd, Nat.reduceLeDiff, Int.reduceAdd])
  refine ⟨⟨by omega, hcl⟩, ?_⟩
  refine zAv (lineC n0 r _ d (headT (19 : Nat) a b) _ (hB.app _) (by simp; omega) (by omega) (by omega) (by simp only [List.length_append]; omega)) ?_
  rintro x G1 ⟨rfl, hb1, hk3⟩
  have m1 := hk3.2.2 G.length [int (19 : Nat), int a, int b, .sl 5 (zBu l1), .sl 5 (zBu l2)] (by omega) (by simp)
  have hkl3 := hk3.2.2 rl [.fn (.func 33) [] [.ptr r 0 0]] hrl (hGr _)
  have hks3 := hk3.2.2 rs _ hrs (hGs _)
  have hI : insT d (.mk (19 : Nat) a b l1 l2) = zC8 d (headT (19 : Nat) a b) ++ (lsT (d + 1) l2 ++ (zC8 d [wDo] ++ (lsT (d + 1) l1 ++ zC8 d [wEnd]))) := by
   unfold insT
   rw [if_neg (show ¬ ((19 : Nat) : Int) = 18 by decide), if_pos (show ((19 : Nat) : Int) = 19 from rfl)]
  rw [hI] at hst hsp
  simp only [List.length_append] at hsp
  have ca := ih l2 (d + 1) _ G1 (by omega) f2 (by omega) hb1 (by have := hk3.1; simp only [List.length_append] at this; omega) hkl3 hks3 (by simp only [List.length_append]; omega)
  rw [← zAm, show ((d + 1 : Nat) : Int) = (d : Int) + 1 from rfl] at ca
  repeat' (simp -implicitDefEqProofs (disch := omega) only [g0, g3, g7, g8, m1, hks3, push_cast, ↓reduceIte, Nat.reduceEqDiff, reduceCtorEq, Nat.reduceAdd, Nat.reduceLeDiff, Int.reduceEq, Int.reduceAdd])
  refine zAv ca ?_
  rintro x G2 ⟨rfl, hb2, hk4⟩
  have m2 := hk4.2.2 G.length [int (19 : Nat), int a, int b, .sl 5 (zBu l1), .sl 5 (zBu l2)] (by omega) m1
  have hkl4 := hk4.2.2 rl _ hrl hkl3
  have hks4 := hk4.2.2 rs _ hrs hks3
  have hn2 : n0 ≤ G2.length := by have := hk3.1; have := hk4.1; simp only [List.length_append] at *; omega
  repeat' (simp -implicitDefEqProofs (disch := omega) only [g0, g2, g10, hkl4, push_cast, ↓reduceIte, Nat.reduceEqDiff, reduceCtorEq, Nat.reduceAdd, Nat.reduceLeDiff, Nat.reduceLT, Bool.and_self])
  refine zAv (lineC n0 r _ d [wDo] G2 hb2 hn2 (by omega) (by simp) (by simp only [List.length_append, lnLen, wDo, List.length_cons, List.length_nil] at hsp ⊢; omega)) ?_
  rintro x G3 ⟨rfl, hb3, hk5⟩
  have m3 := hk5.2.2 G.length [int (19 : Nat), int a, int b, .sl 5 (zBu l1), .sl 5 (zBu l2)] (by omega) m2
  have hkl5 := hk5.2.2 rl _ hrl hkl4
  have hks5 := hk5.2.2 rs _ hrs hks4
  have hn3 : n0 ≤ G3.length := by have := hk5.1; omega
  have cb := ih l1 (d + 1) _ G3 (by omega) f1 (by omega) hb3 hn3 hkl5 hks5 (by simp only [List.length_append]; omega)
  rw [← zAm, show ((d + 1 : Nat) : Int) = (d : Int) + 1 from rfl] at cb
  repeat' (simp -implicitDefEqProofs (disch := omega) only [g0, g3, g9, hks5, push_cast, ↓reduceIte, Nat.reduceEqDiff, reduceCtorEq, Nat.reduceAdd, Nat.reduceLeDiff])
  refine zAv cb ?_
  rintro x G4 ⟨rfl, hb4, hk6⟩
  have m4 := hk6.2.2 G.length [int (19 : Nat), int a, int b, .sl 5 (zBu l1), .sl 5 (zBu l2)] (by omega) m3
  have hkl6 := hk6.2.2 rl _ hrl hkl5
  have hks6 := hk6.2.2 rs _ hrs hks5
  have hn4 : n0 ≤ G4.length := by have := hk6.1; omega
  repeat' (simp -implicitDefEqProofs (disch := omega) only [g0, g2, hkl6, push_cast, ↓reduceIte, Nat.reduceEqDiff, reduceCtorEq, Nat.reduceAdd, Nat.reduceLeDiff, Nat.reduceLT, Bool.and_self])
  refine zAv (lineC n0 r _ d [wEnd] G4 hb4 hn4 (by omega) (by simp) (by simp only [List.length_append, lnLen, wEnd, List.length_cons, List.length_nil] at hsp ⊢; omega)) ?_
  rintro x G5 ⟨rfl, hb5, hk7⟩
  repeat' (simp -implicitDefEqProofs (disch := omega) only [g16, push_cast, ↓reduceIte, Nat.reduceEqDiff])
  refine .mk (j + 1) ⟨g0, g2, g3, g14, g15, rfl, hlt, ?_, hK.trans ((Kp.app n0 r _ _ (by omega)).trans (hk3.trans (hk4.trans (hk5.trans (hk6.trans hk7)))))⟩ (by omega)
  rw [hst]
  simpa only [List.append_assoc] using hb5
 repeat' (first | refine And.intro (by omega) ?_ | refine zH (hW _) rfl ?_ | refine zH (hO _) rfl ?_ | simp -implicitDefEqProofs (disch := omega) only [g14, g15, g16, zU, hxe, zAt, hwg, hwn, zL, zX, push_cast, ↓reduceIte, Nat.reduceEqDiff, reduceCtorEq, Nat.reduceAdd, Nat.reduceLeDiff, Nat.reduceLT, Int.reduceToNat, Int.reduceLE, Int.reduceAdd, Bool.and_self])
 refine zAj (fun (k : Nat) e2 G2 => e2 0 = int d ∧ e2 2 = .ptr rl 0 0 ∧ e2 3 = .ptr rs 0 0 ∧ e2 14 = .sl 5 (xs.map zAt) ∧ e2 15 = int xs.length ∧ e2 16 = int j ∧ e2 7 = .ptr G.length 0 0 ∧ e2 8 = .sl 5 (zBu l1) ∧ e2 9 = .sl 5 (zBu l2) ∧ e2 10 = str wElse ∧ e2 11 = .os (G.length + 1) k 0 (k + 1) ∧ e2 45 = .sl 1 (ns.map iR) ∧ e2 46 = int na ∧ e2 47 = int k ∧ k ≤ na ∧ G2 = G ++ .box [int q, int a, int b, .sl 5 (zBu l1), .sl 5 (zBu l2)] :: .arr k 1 ((wd :: (ns.take k).map Lib.itoa).map sR) :: []) (fun k => na - k) 0 ?_ ?_
 ·refine ⟨g0, g2, g3, g14, g15, g16, rfl, rfl, rfl, rfl, rfl, ?_, ?_, rfl, Nat.zero_le _, rfl⟩
  ·rw [hne, List.map_take]; rfl
  ·show int _ = int _
   congr 1
   simp only [List.length_take, List.length_cons, List.length_nil]
   omega
 rintro k e2 G2 ⟨g0, g2, g3, g14, g15, g16, g7, g8, g9, g10, g11, g45, g46, g47, hk, rfl⟩
 by_cases hkl : k < na
 ·have hnk := hns _ (zAo (l := ns) (j := k) (by omega))
  have hts := zBx (l := ns) (j := k) (by omega)
  have hfin : List.take (k + 1) ((wd :: (ns.take k).map Lib.itoa).map sR) ++ [sR (Lib.itoa (ns.getD k default))] = (wd :: (ns.take (k + 1)).map Lib.itoa).map sR := by
   rw [hts, List.take_of_length_le (by simp; omega)]
   simp
  have hrl2 : ((wd :: (ns.take k).map Lib.itoa).map sR).length = k + 1 := by simp; omega
  generalize hRk : (wd :: (ns.take k).map Lib.itoa).map sR = Rk at *
  repeat' (first | refine And.intro (by omega) ?_ | refine zA (hN.call _ hnk _) ?_ | simp -implicitDefEqProofs (disch := omega) only [g11, g45, g46, g47, zU, iR, hrl2, zL, push_cast, ↓reduceIte, Nat.reduceEqDiff, reduceCtorEq, Nat.reduceAdd, Nat.reduceLeDiff, Nat.reduceLT, Bool.and_self])
  exact .mk (k + 1) ⟨g0, g2, g3, g14, g15, g16, g7, g8, g9, g10, rfl, g45, g46, rfl, hkl, congrArg (fun z => G ++ HO.box [int q, int a, int b, .sl 5 (zBu l1), .sl 5 (zBu l2)] :: HO.arr (k + 1) 1 z :: []) hfin⟩ (by omega)
 have hkn : k = na := by omega
 subst hkn
 have hall : List.take (k + 1) ((wd :: (ns.take k).map Lib.itoa).map sR) = (headT q a b).map sR := by
  rw [List.take_of_length_le (by simp; omega), List.take_of_length_le (by omega), ← hwd]
  simp only [headT, Int.toNat_natCast, hnsd]
 have hrl2 : ((wd :: (ns.take k).map Lib.itoa).map sR).length = k + 1 := by simp; omega
 have hcl : clRR ((wd :: (ns.take k).map Lib.itoa).map sR) = true := clRR_map (fun _ => rfl) _
 generalize hRk : (wd :: (ns.take k).map Lib.itoa).map sR = Rk at *
 have hGs : ∀ X, (G ++ X)[rs]? = some (listV rl rs) := fun X => by rw [List.getElem?_append_left (List.getElem?_eq_some_iff.1 hk2).1]; exact hk2
 have hGr : ∀ X, (G ++ X)[rl]? = some (lineV r) := fun X => by rw [List.getElem?_append_left (List.getElem?_eq_some_iff.1 hk1).1]; exact hk1
 repeat' (simp -implicitDefEqProofs (disch := omega) only [g0, g2, g11, g46, g47, hGr, hall, zV, push_cast, ↓reduceIte, Nat.reduceEqDiff, reduceCtorEq, Nat.reduceAdd, Nat.reduceLeDiff])
 refine ⟨⟨by omega, hcl⟩, ?_⟩
 refine zAv (lineC n0 r _ d (headT q a b) _ (hB.app _) (by simp; omega) (by omega) (by omega) (by simp only [List.length_append]; omega)) ?_
 rintro x G1 ⟨rfl, hb1, hk3⟩
 have m1 := hk3.2.2 G.length [int q, int a, int b, .sl 5 (zBu l1), .sl 5 (zBu l2)] (by omega) (by simp)
 have hkl3 := hk3.2.2 rl [.fn (.func 33) [] [.ptr r 0 0]] hrl (hGr _)
 have hks3 := hk3.2.2 rs _ hrs (hGs _)
 by_cases hq18 : q = 18
 ·subst hq18
  have hI : insT d (.mk (18 : Nat) a b l1 l2) = zC8 d (headT (18 : Nat) a b) ++ (lsT (d + 1) l1 ++ (zC8 d [wElse] ++ (lsT (d + 1) l2 ++ zC8 d [wEnd]))) := by
   unfold insT
   rw [if_pos (show ((18 : Nat) : Int) = 18 from rfl)]
  rw [hI] at hst hsp
  simp only [List.length_append] at hsp
  have ca := ih l1 (d + 1) _ G1 (by omega) f1 (by omega) hb1 (by have := hk3.1; simp only [List.length_append] at this; omega) hkl3 hks3 (by simp only [List.length_append]; omega)
  rw [← zAm, show ((d + 1 : Nat) : Int) = (d : Int) + 1 from rfl] at ca
  repeat' (simp -implicitDefEqProofs (disch := omega) only [g0, g3, g7, g8, m1, hks3, push_cast, ↓reduceIte, Nat.reduceEqDiff, reduceCtorEq, Nat.reduceAdd, Nat.reduceLeDiff, Int.reduceAdd])
  refine zAv ca ?_
  rintro x G2 ⟨rfl, hb2, hk4⟩
  have m2 := hk4.2.2 G.length [int (18 : Nat), int a, int b, .sl 5 (zBu l1), .sl 5 (zBu l2)] (by omega) m1
  have hkl4 := hk4.2.2 rl _ hrl hkl3
  have hks4 := hk4.2.2 rs _ hrs hks3
  have hn2 : n0 ≤ G2.length := by have := hk3.1; have := hk4.1; simp only [List.length_append] at *; omega
  repeat' (simp -implicitDefEqProofs (disch := omega) only [g0, g2, g10, hkl4, push_cast, ↓reduceIte, Nat.reduceEqDiff, reduceCtorEq, Nat.reduceAdd, Nat.reduceLeDiff, Nat.reduceLT, Bool.and_self])
  refine zAv (lineC n0 r _ d [wElse] G2 hb2 hn2 (by omega) (by simp) (by simp only [List.length_append, lnLen, wElse, List.length_cons, List.length_nil] at hsp ⊢; omega)) ?_
  rintro x G3 ⟨rfl, hb3, hk5⟩
  have m3 := hk5.2.2 G.length [int (18 : Nat), int a, int b, .sl 5 (zBu l1), .sl 5 (zBu l2)] (by omega) m2
  have hkl5 := hk5.2.2 rl _ hrl hkl4
  have hks5 := hk5.2.2 rs _ hrs hks4
  have hn3 : n0 ≤ G3.length := by have := hk5.1; omega
  have cb := ih l2 (d + 1) _ G3 (by omega) f2 (by omega) hb3 hn3 hkl5 hks5 (by simp only [List.length_append]; omega)
  rw [← zAm, show ((d + 1 : Nat) : Int) = (d : Int) + 1 from rfl] at cb
  repeat' (simp -implicitDefEqProofs (disch := omega) only [g0, g3, g9, hks5, push_cast, ↓reduceIte, Nat.reduceEqDiff, reduceCtorEq, Nat.reduceAdd, Nat.reduceLeDiff])
  refine zAv cb ?_
  rintro x G4 ⟨rfl, hb4, hk6⟩
  have m4 := hk6.2.2 G.length [int (18 : Nat), int a, int b, .sl 5 (zBu l1), .sl 5 (zBu l2)] (by omega) m3
  have hkl6 := hk6.2.2 rl _ hrl hkl5
  have hks6 := hk6.2.2 rs _ hrs hks5
  have hn4 : n0 ≤ G4.length := by have := hk6.1; omega
  repeat' (simp -implicitDefEqProofs (disch := omega) only [g0, g2, hkl6, push_cast, ↓reduceIte, Nat.reduceEqDiff, reduceCtorEq, Nat.reduceAdd, Nat.reduceLeDiff, Nat.reduceLT, Bool.and_self])
  refine zAv (lineC n0 r _ d [wEnd] G4 hb4 hn4 (by omega) (by simp) (by simp only [List.length_append, lnLen, wEnd, List.length_cons, List.length_nil] at hsp ⊢; omega)) ?_
  rintro x G5 ⟨rfl, hb5, hk7⟩
  repeat' (simp -implicitDefEqProofs (disch := omega) only [g16, push_cast, ↓reduceIte, Nat.reduceEqDiff])
  refine .mk (j + 1) ⟨g0, g2, g3, g14, g15, rfl, hlt, ?_, hK.trans ((Kp.app n0 r _ _ (by omega)).trans (hk3.trans (hk4.trans (hk5.trans (hk6.trans hk7)))))⟩ (by omega)
  rw [hst]
  simpa only [List.append_assoc] using hb5
 ·repeat' (simp -implicitDefEqProofs (disch := omega) only [g16, g7, m1, zX, push_cast, ↓reduceIte, Nat.reduceEqDiff, Nat.reduceAdd, Nat.reduceLeDiff])
  exact .mk (j + 1) ⟨g0, g2, g3, g14, g15, rfl, hlt, by rw [hst, ← List.append_assoc]; unfold insT; rw [if_neg (by omega), if_neg (by omega), List.append_nil]; exact hb1, hK.trans ((Kp.app n0 r _ _ (by omega)).trans hk3)⟩ (by omega)
end Go.Proofs.YtbibhcmcjldhdaaGreatDoor
namespace Go.Proofs.YtbibhcmcjldhdaaGreatDoor
open Go Go.Ax
set_option maxRecDepth 100000
set_option linter.unusedSimpArgs false
set_option linter.unusedVariables false
set_option maxHeartbeats 4000000
structure St where
 slots : List Int
 stk : List Int
 cnt : Int
def St.top (s : St) : Int := s.stk.headD 0
def St.push (s : St) (v : Int) : St := ⟨s.slots, v :: s.stk, s.cnt⟩
def St.put (s : St) (i v : Int) : St := ⟨s.slots.set i.toNat v, s.stk, s.cnt⟩
inductive Flow where
 | go
 | ret
 | flt (kind proc num : Int)
inductive CR where
 | ok (l : List Int)
 | flt (kind proc num : Int)
structure Cx where
 ps : List Pr
 w : Int
 L : Int
 k : Nat
 cl : Nat → List Int → Int → CR × Int
abbrev Cx.q (C : Cx) : Pr := C.ps.getD C.k default
def fin (q : Pr) (k : Int) : Flow × St → CR × Int
 | (.flt x y z, s) => (.flt x y z, s.cnt)
 | (.ret, s) => if 0 ≤ q.res then (.ok s.stk.reverse, s.cnt) else (.ok (q.outs.map fun i => s.slots.getD i.toNat default), s.cnt)
 | (.go, s) => if 0 ≤ q.res then (.flt 4 k (zQ q.body), s.cnt) else (.ok (q.outs.map fun i => s.slots.getD i.toNat default), s.cnt)
structure TyS (C : Cx) (s : St) (n : Int) : Prop where
 sl : (s.slots.length : Int) = C.q.slots
 sr : ∀ v ∈ s.slots, inI C.w v
 st : ∀ v ∈ s.stk, inI C.w v
 ln : (s.stk.length : Int) = n
section
variable {C : Cx} {s : St} {n : Int}
theorem TyS.top (h : TyS C s n) (h1 : 1 ≤ n) : inI C.w s.top := by
 have := h.ln
 unfold St.top
 cases hs : s.stk with
 | nil => rw [hs] at this; simp at this; omega
 | cons v l => exact h.st v (by rw [hs]; simp)
theorem TyS.push (h : TyS C s n) {v : Int} (hv : inI C.w v) : TyS C (s.push v) (n + 1) :=
 ⟨h.sl, h.sr, fun x hx => by
  rcases List.mem_cons.1 hx with rfl | hx
  ·exact hv
  ·exact h.st x hx, by have := h.ln; simp only [St.push, List.length_cons]; omega⟩
theorem TyS.put (h : TyS C s n) {i v : Int} (hv : inI C.w v) : TyS C (s.put i v) n :=
 ⟨by simpa [St.put] using h.sl, fun x hx => by
  rcases List.mem_or_eq_of_mem_set hx with hx | rfl
  ·exact h.sr x hx
  ·exact hv, h.st, h.ln⟩
theorem TyS.slot (h : TyS C s n) (hw : wOk C.w) (i : Nat) : inI C.w (s.slots.getD i default) := by
 by_cases hi : i < s.slots.length
 ·exact h.sr _ (zAo hi)
 ·have : s.slots.getD i default = 0 := by simp [List.getD_eq_getElem?_getD, List.getElem?_eq_none (Nat.le_of_not_lt hi)]
  rw [this, inI_iff hw]
  have := hf_pos hw
  omega
end
theorem zP (q : Pr) : (prR q).length = 6 := rfl
theorem zCo (q : Pr) : (prR q).take 6 = prR q := rfl
theorem pr_c1s (q : Pr) : c1s (prR q) = true := rfl
theorem zAl (cs : List AV) : cellsOf (.agg cs) = cs := rfl
theorem cntR (l : List Ins) : zQ l ≤ 1048576 → ∀ H, zBg 15 [.sl 5 (l.map zAt)] H (int (zQ l : Nat)) := by
 induction l using Ins.indL with
 | h l ih =>
 intro hs H
 refine enter Tryz.func15 L15_ok (Nat.le_of_ble_eq_true rfl) ?_
 have hln := zM l
 repeat' (simp -implicitDefEqProofs (disch := omega) only [L15, push_cast, Nat.reduceAdd])
 refine zAj (fun (j : Nat) e' H' => e' 0 = .sl 5 (l.map zAt) ∧ e' 3 = int (zQ (l.take j) : Nat) ∧ e' 4 = int j ∧ H' = H ∧ j ≤ l.length) (fun j => l.length - j) 0 ?_ ?_
 ·exact ⟨rfl, rfl, rfl, rfl, Nat.zero_le _⟩
 rintro j e' H' ⟨h0, h3, h4, rfl, hj⟩
 by_cases hlt : j < l.length
 ·have hk := zAo hlt
  have hb := zAk l (j + 1)
  rw [zAh hlt, icnt_eq] at hb
  have hx := ih _ hk
  repeat' (first | refine And.intro (by omega) ?_ | refine zH (hx.1 (by omega) _) rfl ?_ | refine zH (hx.2 (by omega) _) rfl ?_ | simp -implicitDefEqProofs (disch := omega) only [h0, h3, h4, zU, insR_eq, List.length_map, zL, push_cast, ↓reduceIte, Nat.reduceEqDiff, reduceCtorEq, Nat.reduceAdd, Nat.reduceLeDiff])
  exact .mk (j + 1) ⟨h0, intc rfl (by rw [zAh hlt, icnt_eq]; omega), rfl, rfl, hlt⟩ (by omega)
 ·have e : j = l.length := by omega
  subst e
  rw [List.take_length] at h3
  repeat' (simp -implicitDefEqProofs (disch := omega) only [h0, h3, h4, List.length_map, zV, push_cast, ↓reduceIte, Nat.reduceEqDiff, reduceCtorEq])
theorem levR (l : List Ins) : zQ l ≤ 1048576 → ∀ H, zBg 17 [.sl 5 (l.map zAt)] H (int (zAI l : Nat)) := by
 induction l using Ins.indL with
 | h l ih =>
 intro hs H
 refine enter Tryz.func17 L17_ok (Nat.le_of_ble_eq_true rfl) ?_
 have hln := zM l
 repeat' (simp -implicitDefEqProofs (disch := omega) only [L17, push_cast, Nat.reduceAdd])
 refine zAj (fun (j : Nat) e' H' => e' 0 = .sl 5 (l.map zAt) ∧ e' 3 = int (zAI (l.take j) : Nat) ∧ e' 4 = int j ∧ H' = H ∧ j ≤ l.length) (fun j => l.length - j) 0 ?_ ?_
 ·exact ⟨rfl, rfl, rfl, rfl, Nat.zero_le _⟩
 rintro j e' H' ⟨h0, h3, h4, rfl, hj⟩
 by_cases hlt : j < l.length
 ·have hk := zAo hlt
  have hb := zAk l (j + 1)
  have hb2 := zAb (l.take j)
  have hb3 := zAb (l.getD j default).body
  have hb4 := zAb (l.getD j default).els
  rw [zAh hlt, icnt_eq] at hb
  have hx := ih _ hk
  repeat' (first | refine And.intro (by omega) ?_ | refine zH (hx.1 (by omega) _) rfl ?_ | refine zH (hx.2 (by omega) _) rfl ?_ | simp -implicitDefEqProofs (disch := omega) only [h0, h3, h4, zU, insR_eq, List.length_map, zL, push_cast, ↓reduceIte, Nat.reduceEqDiff, reduceCtorEq, Nat.reduceAdd, Nat.reduceLeDiff] | split)
  all_goals exact .mk (j + 1) ⟨h0, intc rfl (by rw [zAD hlt, ilev_eq]; omega), rfl, rfl, hlt⟩ (by omega)
 ·have e : j = l.length := by omega
  subst e
  rw [List.take_length] at h3
  repeat' (simp -implicitDefEqProofs (disch := omega) only [h0, h3, h4, List.length_map, zV, push_cast, ↓reduceIte, Nat.reduceEqDiff, reduceCtorEq])
theorem outputsR (q : Pr) (hs : q.outs.length ≤ 1048576) (H : zC) : zBg 51 [.agg (prR q)] H (int (zCO q)) := by
 refine ACall.drop (R := fun x => x = int (zCO q)) ?_
 refine enter Tryz.func51 L51_ok (Nat.le_of_ble_eq_true rfl) ?_
 unfold zCO
 by_cases h : 0 ≤ q.res
 ·rw [if_pos h]
  repeat' (simp -implicitDefEqProofs (disch := omega) only [L51, zAl, prR, h, push_cast, ↓reduceIte, Nat.reduceEqDiff, Nat.reduceAdd, Nat.reduceLeDiff, Bool.and_self])
  exact ⟨_, rfl⟩
 ·rw [if_neg h]
  repeat' (simp -implicitDefEqProofs (disch := omega) only [L51, zAl, prR, h, List.length_map, push_cast, ↓reduceIte, Nat.reduceEqDiff, Nat.reduceAdd, Nat.reduceLeDiff, Bool.and_self])
  exact ⟨_, rfl⟩
theorem zAw (l m : List Ins) : (l.isEmpty && m.isEmpty) = decide (l.length = 0 ∧ m.length = 0) := by
 rw [Bool.eq_iff_iff]
 simp [List.isEmpty_iff, List.length_eq_zero_iff]
theorem fieldsR0 (o a b : Int) (l m : List Ins) (slots : Int) (h1 : l.length ≤ 1048576) (h2 : m.length ≤ 1048576) (hs : -1048576 ≤ slots ∧ slots ≤ 1048576) (H : zC) : zBg 50 [.agg [int o, int a, int b, .sl 5 (l.map zAt), .sl 5 (m.map zAt)], int slots] H (bool (decide (zR slots o a b (l.isEmpty && m.isEmpty)))) := by
 refine ACall.drop (R := fun y => y = bool (decide (zR slots o a b (l.isEmpty && m.isEmpty)))) ?_
 refine enter Tryz.func50 L50_ok (Nat.le_of_ble_eq_true rfl) ?_
 rw [zAw]
 have hcase : (o < 0) ∨ (22 < o) ∨ (o = 0) ∨ (o = 1) ∨ (o = 2) ∨ (o = 3) ∨ (o = 4) ∨ o = 20 ∨ o = 18 ∨ o = 19 ∨ (5 ≤ o ∧ o ≤ 22 ∧ ¬ o = 18 ∧ ¬ o = 19 ∧ ¬ o = 20) := by omega
 by_cases he : o = 18 ∨ o = 19 ∨ (l.length = 0 ∧ m.length = 0)
 ·rcases hcase with hc | hc | hc | hc | hc | hc | hc | hc | hc | hc | hc
  ·repeat' (simp -implicitDefEqProofs (disch := omega) only [L50, zAl, zL, push_cast, ↓reduceIte, Nat.reduceEqDiff, Nat.reduceAdd, Nat.reduceLeDiff, Bool.and_self])
   all_goals (refine ⟨zAL ?_, _, rfl⟩; simp only [decide_eq_true_eq, Bool.false_eq_true, false_iff, true_iff, Bool.not_eq_true, decide_eq_false_iff_not, iff_false, iff_true] at *; simp only [zR, decide_eq_true_eq]; omega)
  ·repeat' (simp -implicitDefEqProofs (disch := omega) only [L50, zAl, zL, zV, push_cast, ↓reduceIte, Nat.reduceEqDiff, Nat.reduceAdd, Nat.reduceLeDiff, Bool.and_self])
   all_goals (refine ⟨zAL ?_, _, rfl⟩; simp only [decide_eq_true_eq, Bool.false_eq_true, false_iff, true_iff, Bool.not_eq_true, decide_eq_false_iff_not, iff_false, iff_true] at *; simp only [zR, decide_eq_true_eq]; omega)
  ·repeat' (first | simp -implicitDefEqProofs (disch := omega) only [L50, zAl, List.length_map, zV, zAf, zAB, zAa, zX, push_cast, ↓reduceIte, Nat.reduceEqDiff, Nat.reduceAdd, Nat.reduceLeDiff, Bool.and_self] | split)
   all_goals (refine ⟨zAL ?_, _, rfl⟩; simp only [decide_eq_true_eq, Bool.false_eq_true, false_iff, true_iff, Bool.not_eq_true, decide_eq_false_iff_not, iff_false, iff_true] at *; simp only [zR, decide_eq_true_eq]; omega)
  ·repeat' (first | simp -implicitDefEqProofs (disch := omega) only [L50, zAl, List.length_map, zL, zV, zAf, zAB, zAa, zX, push_cast, ↓reduceIte, Nat.reduceEqDiff, reduceCtorEq, Nat.reduceAdd, Nat.reduceLeDiff, Bool.and_self] | split)
   all_goals (refine ⟨zAL ?_, _, rfl⟩; simp only [decide_eq_true_eq, Bool.false_eq_true, false_iff, true_iff, Bool.not_eq_true, decide_eq_false_iff_not, iff_false, iff_true] at *; simp only [zR, decide_eq_true_eq]; omega)
  ·repeat' (first | simp -implicitDefEqProofs (disch := omega) only [L50, zAl, List.length_map, zL, zV, zAf, zAB, zAa, zX, push_cast, ↓reduceIte, Nat.reduceEqDiff, reduceCtorEq, Nat.reduceAdd, Nat.reduceLeDiff, Bool.and_self] | split)
   all_goals (refine ⟨zAL ?_, _, rfl⟩; simp only [decide_eq_true_eq, Bool.false_eq_true, false_iff, true_iff, Bool.not_eq_true, decide_eq_false_iff_not, iff_false, iff_true] at *; simp only [zR, decide_eq_true_eq]; omega)
  ·repeat' (first | simp -implicitDefEqProofs (disch := omega) only [L50, zAl, List.length_map, zL, zV, zAf, zAB, zAa, zX, push_cast, ↓reduceIte, Nat.reduceEqDiff, reduceCtorEq, Nat.reduceAdd, Nat.reduceLeDiff, Bool.and_self] | split)
   all_goals (refine ⟨zAL ?_, _, rfl⟩; simp only [decide_eq_true_eq, Bool.false_eq_true, false_iff, true_iff, Bool.not_eq_true, decide_eq_false_iff_not, iff_false, iff_true] at *; simp only [zR, decide_eq_true_eq]; omega)
  ·repeat' (first | simp -implicitDefEqProofs (disch := omega) only [L50, zAl, List.length_map, zL, zV, zAf, zAB, zAa, zX, push_cast, ↓reduceIte, Nat.reduceEqDiff, reduceCtorEq, Nat.reduceAdd, Nat.reduceLeDiff, Bool.and_self] | split)
   all_goals (refine ⟨zAL ?_, _, rfl⟩; simp only [decide_eq_true_eq, Bool.false_eq_true, false_iff, true_iff, Bool.not_eq_true, decide_eq_false_iff_not, iff_false, iff_true] at *; simp only [zR, decide_eq_true_eq]; omega)
  ·repeat' (simp -implicitDefEqProofs (disch := omega) only [L50, zAl, List.length_map, zV, zAa, zX, push_cast, ↓reduceIte, Nat.reduceEqDiff, Nat.reduceAdd, Nat.reduceLeDiff, Bool.and_self])
   all_goals (refine ⟨zAL ?_, _, rfl⟩; simp only [decide_eq_true_eq, Bool.false_eq_true, false_iff, true_iff, Bool.not_eq_true, decide_eq_false_iff_not, iff_false, iff_true] at *; simp only [zR, decide_eq_true_eq]; omega)
  ·repeat' (first | simp -implicitDefEqProofs (disch := omega) only [L50, zAl, zV, zAa, zX, push_cast, ↓reduceIte, Nat.reduceEqDiff, Nat.reduceAdd, Nat.reduceLeDiff, Bool.and_self] | split)
   all_goals (refine ⟨zAL ?_, _, rfl⟩; simp only [decide_eq_true_eq, Bool.false_eq_true, false_iff, true_iff, Bool.not_eq_true, decide_eq_false_iff_not, iff_false, iff_true] at *; simp only [zR, decide_eq_true_eq]; omega)
  ·repeat' (first | simp -implicitDefEqProofs (disch := omega) only [L50, zAl, zV, zAa, zX, push_cast, ↓reduceIte, Nat.reduceEqDiff, Nat.reduceAdd, Nat.reduceLeDiff, Bool.and_self] | split)
   all_goals (refine ⟨zAL ?_, _, rfl⟩; simp only [decide_eq_true_eq, Bool.false_eq_true, false_iff, true_iff, Bool.not_eq_true, decide_eq_false_iff_not, iff_false, iff_true] at *; simp only [zR, decide_eq_true_eq]; omega)
  ·repeat' (first | simp -implicitDefEqProofs (disch := omega) only [L50, zAl, List.length_map, zV, zAa, zX, push_cast, ↓reduceIte, Nat.reduceEqDiff, Nat.reduceAdd, Nat.reduceLeDiff, Bool.and_self] | split)
   all_goals (refine ⟨zAL ?_, _, rfl⟩; simp only [decide_eq_true_eq, Bool.false_eq_true, false_iff, true_iff, Bool.not_eq_true, decide_eq_false_iff_not, iff_false, iff_true] at *; simp only [zR, decide_eq_true_eq]; omega)
 ·have h2' : (o < 0) ∨ (22 < o) ∨ (0 ≤ o ∧ o ≤ 22 ∧ ¬ o = 18 ∧ ¬ o = 19) := by omega
  clear hcase
  rcases h2' with hc | hc | hc
  ·repeat' (simp -implicitDefEqProofs (disch := omega) only [L50, zAl, zL, push_cast, ↓reduceIte, Nat.reduceEqDiff, Nat.reduceAdd, Nat.reduceLeDiff, Bool.and_self])
   all_goals (refine ⟨zAL ?_, _, rfl⟩; simp only [decide_eq_true_eq, Bool.false_eq_true, false_iff, true_iff, Bool.not_eq_true, decide_eq_false_iff_not, iff_false, iff_true] at *; simp only [zR, decide_eq_true_eq]; omega)
  ·repeat' (simp -implicitDefEqProofs (disch := omega) only [L50, zAl, zL, zV, push_cast, ↓reduceIte, Nat.reduceEqDiff, Nat.reduceAdd, Nat.reduceLeDiff, Bool.and_self])
   all_goals (refine ⟨zAL ?_, _, rfl⟩; simp only [decide_eq_true_eq, Bool.false_eq_true, false_iff, true_iff, Bool.not_eq_true, decide_eq_false_iff_not, iff_false, iff_true] at *; simp only [zR, decide_eq_true_eq]; omega)
  ·by_cases hl : 0 < l.length
   ·repeat' (simp -implicitDefEqProofs (disch := omega) only [L50, zAl, List.length_map, zL, zV, zX, push_cast, ↓reduceIte, Nat.reduceEqDiff, Nat.reduceAdd, Nat.reduceLeDiff, Bool.and_self])
    all_goals (refine ⟨zAL ?_, _, rfl⟩; simp only [decide_eq_true_eq, Bool.false_eq_true, false_iff, true_iff, Bool.not_eq_true, decide_eq_false_iff_not, iff_false, iff_true] at *; simp only [zR, decide_eq_true_eq]; omega)
   ·repeat' (simp -implicitDefEqProofs (disch := omega) only [L50, zAl, List.length_map, zL, zV, zX, push_cast, ↓reduceIte, Nat.reduceEqDiff, Nat.reduceAdd, Nat.reduceLeDiff, Bool.and_self])
    all_goals (refine ⟨zAL ?_, _, rfl⟩; simp only [decide_eq_true_eq, Bool.false_eq_true, false_iff, true_iff, Bool.not_eq_true, decide_eq_false_iff_not, iff_false, iff_true] at *; simp only [zR, decide_eq_true_eq]; omega)
theorem zJ {α : Type} (H l : List α) : (H ++ l)[H.length]? = l[0]? := by rw [List.getElem?_append_right (Nat.le_refl _), Nat.sub_self]
def effV : Option Int → Int
 | some h => h
 | none => -1
theorem zAO {ps : List Pr} {j : Nat} (h : j < ps.length) : (ps.map prR).getD j [] = prR (ps.getD j default) := zU h
theorem chg_t {h n c : Int} (h1 : n ≤ h) (h2 : h + c ≤ 1024) : chg h n c = some (h + c) := if_pos ⟨h1, h2⟩
theorem chg_f {h n c : Int} (h1 : ¬ (n ≤ h ∧ h + c ≤ 1024)) : chg h n c = none := if_neg h1
set_option maxHeartbeats 8000000 in
theorem effR (ps : List Pr) (k : Nat) (hk : k < ps.length) (hps : ps.length ≤ 1048576) (hp : zCK ps k) (hh : zCw (ps.getD k default)) (l : List Ins) : zQ l ≤ 1048576 → ∀ (out : Bool) (H : zC), zBg 18 [.agg [zA6 ps], int k, .sl 5 (l.map zAt), bool out] H (int (effV (zBT ps k l out 0))) := by
 induction l using Ins.indL with
 | h l ih =>
 intro hs out H
 refine ACall.drop (R := fun x => x = int (effV (zBT ps k l out 0))) ?_
 refine enter Tryz.func18 L18_ok (Nat.le_of_ble_eq_true rfl) ?_
 have hln := zM l
 repeat' (first | refine And.intro (by omega) ?_ | simp -implicitDefEqProofs (disch := omega) only [L18, zAl, zAO, zP, zCo, pr_c1s, List.length_map, push_cast, ↓reduceIte, Nat.reduceEqDiff, reduceCtorEq, Nat.reduceAdd, Nat.reduceLeDiff, Int.reduceNeg, Bool.and_self])
 refine zAj (fun (st : Nat × Int × zC) e' H' => e' 1 = int k ∧ e' 2 = .sl 5 (l.map zAt) ∧ e' 3 = bool out ∧ e' 4 = .ptr H.length 0 0 ∧ e' 9 = .ptr (H.length + 1) 0 0 ∧ e' 10 = int st.2.1 ∧ e' 11 = int st.1 ∧ H' = H ++ st.2.2 ∧ 2 ≤ st.2.2.length ∧
  st.2.2[0]? = some (.box [zA6 ps]) ∧ st.2.2[1]? = some (.box (prR (ps.getD k default))) ∧ st.1 ≤ l.length ∧ 0 ≤ st.2.1 ∧ st.2.1 ≤ 1024 ∧ zBT ps k l out 0 = zBT ps k (l.drop st.1) out st.2.1) (fun st => l.length - st.1) (0, 0, [HO.box [zA6 ps], HO.box (prR (ps.getD k default))]) ?_ ?_
 ·exact ⟨rfl, rfl, rfl, rfl, rfl, rfl, rfl, rfl, by simp, rfl, rfl, Nat.zero_le _, by simp, by simp, by simp⟩
 rintro ⟨j, h, ext⟩ e' H' ⟨h1, h2, h3, h4, h9, h10, h11, rfl, hel, g4, g9, hj, hh0, hh1, heff⟩
 simp only at h10 h11 hel g4 g9 hj hh0 hh1 heff
 by_cases hlt : j < l.length
 ·have hk0 := zAo hlt
  have hb := zAk l (j + 1)
  rw [zAh hlt, icnt_eq] at hb
  have hx := ih _ hk0
  rw [zAM ps k hlt] at heff
  have hrow : (l.map zAt).getD j [] = zAt (l.getD j default) := zU hlt
  generalize l.getD j default = x at *
  obtain ⟨o, a, b, bd, el⟩ := x
  have hr2 : zAt (.mk o a b bd el) = [int o, int a, int b, .sl 5 (bd.map zAt), .sl 5 (el.map zAt)] := by simp [zAt, zAm]
  rw [hr2] at hrow
  simp only [zCt] at heff
  have hbd : zQ bd ≤ 1048576 := by simp only [Ins.body, Ins.els] at hb; omega
  have hed : zQ el ≤ 1048576 := by simp only [Ins.body, Ins.els] at hb; omega
  have hx1 := fun out H => hx.1 hbd out H
  have hx2 := fun out H => hx.2 hed out H
  simp only [Ins.body, Ins.els] at hx1 hx2
  have hbl := zM bd
  have hell := zM el
  clear hx ih hb
  obtain ⟨q1, q2, q3, q4, q5, q6, q7, q8⟩ := hh
  have hfR := fun H => fieldsR0 o a b bd el (ps.getD k default).slots (by omega) (by omega) (by omega) H
  have hsl : (prR (ps.getD k default)).drop 2 = [int (ps.getD k default).slots, int (ps.getD k default).res, .sl 1 ((ps.getD k default).outs.map iR), .sl 5 ((ps.getD k default).body.map zAt)] := rfl
  have hsl3 : (prR (ps.getD k default)).drop 3 = [int (ps.getD k default).res, .sl 1 ((ps.getD k default).outs.map iR), .sl 5 ((ps.getD k default).body.map zAt)] := rfl
  by_cases hf : zR (ps.getD k default).slots o a b (bd.isEmpty && el.isEmpty)
  ·rw [if_pos hf] at heff
   have hd : decide (zR (ps.getD k default).slots o a b (bd.isEmpty && el.isEmpty)) = true := decide_eq_true hf
   obtain ⟨f1, f2, _⟩ := hf
   have hcase : (o = 0) ∨ (o = 1) ∨ (o = 2) ∨ (o = 22) ∨ (o = 3) ∨ (o = 16) ∨ (o = 17) ∨ (o = 4) ∨ (5 ≤ o ∧ o ≤ 15) ∨ o = 18 ∨ o = 19 ∨ o = 20 ∨ o = 21 := by omega
   rcases hcase with hc | hc | hc | hc | hc | hc | hc | hc | hc | hc | hc | hc | hc
   ·have he : zCu ps k o a out h = chg h 0 1 := by
     unfold zCu
     repeat (first | rw [if_pos (by omega)] | rw [if_neg (by omega)])
    rw [if_neg (by omega), if_neg (by omega), he] at heff
    by_cases hcc : 0 ≤ h ∧ h + 1 ≤ 1024
    ·rw [chg_t hcc.1 hcc.2] at heff
     repeat' (first | refine And.intro (by omega) ?_ | refine zA (hfR _) ?_ | simp -implicitDefEqProofs (disch := omega) only [h2, h9, h10, h11, g9, zB, zJ, hrow, hsl, zAl, List.length_map, zP, hd, zL, zV, zAa, push_cast, ↓reduceIte, Nat.reduceEqDiff, Nat.reduceAdd, Nat.reduceLeDiff, Int.reduceNeg, Bool.and_self])
     exact .mk (j + 1, h + 1, _) ⟨h1, h2, h3, h4, h9, intc rfl (by dsimp only <;> omega), rfl, rfl, by simp; omega, by rw [zB (by omega)]; exact g4, by rw [zB (by omega)]; exact g9, hlt, by simp only; omega, by simp only; omega, heff⟩ (by simp only; omega)
    ·rw [chg_f hcc] at heff
     repeat' (first | refine And.intro (by omega) ?_ | refine zA (hfR _) ?_ | simp -implicitDefEqProofs (disch := omega) only [h2, h9, h10, h11, g9, zB, zJ, hrow, hsl, zAl, List.length_map, zP, hd, zL, zV, zAa, push_cast, ↓reduceIte, Nat.reduceEqDiff, Nat.reduceAdd, Nat.reduceLeDiff, Int.reduceNeg, Bool.and_self])
     all_goals first | exact ⟨by rw [heff]; rfl, _, rfl⟩ | (exfalso; omega)
   ·have he : zCu ps k o a out h = chg h 0 1 := by
     unfold zCu
     repeat (first | rw [if_pos (by omega)] | rw [if_neg (by omega)])
    rw [if_neg (by omega), if_neg (by omega), he] at heff
    by_cases hcc : 0 ≤ h ∧ h + 1 ≤ 1024
    ·rw [chg_t hcc.1 hcc.2] at heff
     repeat' (first | refine And.intro (by omega) ?_ | refine zA (hfR _) ?_ | simp -implicitDefEqProofs (disch := omega) only [h2, h9, h10, h11, g9, zB, zJ, hrow, hsl, zAl, List.length_map, zP, hd, zL, zV, zAa, zX, push_cast, ↓reduceIte, Nat.reduceEqDiff, Nat.reduceAdd, Nat.reduceLeDiff, Int.reduceNeg, Bool.and_self])
     exact .mk (j + 1, h + 1, _) ⟨h1, h2, h3, h4, h9, intc rfl (by dsimp only <;> omega), rfl, rfl, by simp; omega, by rw [zB (by omega)]; exact g4, by rw [zB (by omega)]; exact g9, hlt, by simp only; omega, by simp only; omega, heff⟩ (by simp only; omega)
    ·rw [chg_f hcc] at heff
     repeat' (first | refine And.intro (by omega) ?_ | refine zA (hfR _) ?_ | simp -implicitDefEqProofs (disch := omega) only [h2, h9, h10, h11, g9, zB, zJ, hrow, hsl, zAl, List.length_map, zP, hd, zL, zV, zAa, zX, push_cast, ↓reduceIte, Nat.reduceEqDiff, Nat.reduceAdd, Nat.reduceLeDiff, Int.reduceNeg, Bool.and_self])
     all_goals first | exact ⟨by rw [heff]; rfl, _, rfl⟩ | (exfalso; omega)
   ·have he : zCu ps k o a out h = chg h 1 (-1) := by
     unfold zCu
     repeat (first | rw [if_pos (by omega)] | rw [if_neg (by omega)])
    rw [if_neg (by omega), if_neg (by omega), he] at heff
    by_cases hcc : 1 ≤ h ∧ h + (-1) ≤ 1024
    ·rw [chg_t hcc.1 hcc.2] at heff
     repeat' (first | refine And.intro (by omega) ?_ | refine zA (hfR _) ?_ | simp -implicitDefEqProofs (disch := omega) only [h2, h9, h10, h11, g9, zB, zJ, hrow, hsl, zAl, List.length_map, zP, hd, zL, zV, zAa, zX, push_cast, ↓reduceIte, Nat.reduceEqDiff, Nat.reduceAdd, Nat.reduceLeDiff, Int.reduceNeg, Bool.and_self])
     exact .mk (j + 1, h + (-1), _) ⟨h1, h2, h3, h4, h9, intc rfl (by dsimp only <;> omega), rfl, rfl, by simp; omega, by rw [zB (by omega)]; exact g4, by rw [zB (by omega)]; exact g9, hlt, by simp only; omega, by simp only; omega, heff⟩ (by simp only; omega)
    ·rw [chg_f hcc] at heff
     repeat' (first | refine And.intro (by omega) ?_ | refine zA (hfR _) ?_ | simp -implicitDefEqProofs (disch := omega) only [h2, h9, h10, h11, g9, zB, zJ, hrow, hsl, zAl, List.length_map, zP, hd, zL, zAa, zX, push_cast, ↓reduceIte, Nat.reduceEqDiff, Nat.reduceAdd, Nat.reduceLeDiff, Int.reduceNeg, Bool.and_self])
     all_goals first | exact ⟨by rw [heff]; rfl, _, rfl⟩ | (exfalso; omega)
   ·have he : zCu ps k o a out h = chg h 1 (-1) := by
     unfold zCu
     repeat (first | rw [if_pos (by omega)] | rw [if_neg (by omega)])
    rw [if_neg (by omega), if_neg (by omega), he] at heff
    by_cases hcc : 1 ≤ h ∧ h + (-1) ≤ 1024
    ·rw [chg_t hcc.1 hcc.2] at heff
     repeat' (first | refine And.intro (by omega) ?_ | refine zA (hfR _) ?_ | simp -implicitDefEqProofs (disch := omega) only [h2, h9, h10, h11, g9, zB, zJ, hrow, hsl, zAl, List.length_map, zP, hd, zL, zV, zAa, zX, push_cast, ↓reduceIte, Nat.reduceEqDiff, Nat.reduceAdd, Nat.reduceLeDiff, Int.reduceNeg, Bool.and_self])
     exact .mk (j + 1, h + (-1), _) ⟨h1, h2, h3, h4, h9, intc rfl (by dsimp only <;> omega), rfl, rfl, by simp; omega, by rw [zB (by omega)]; exact g4, by rw [zB (by omega)]; exact g9, hlt, by simp only; omega, by simp only; omega, heff⟩ (by simp only; omega)
    ·rw [chg_f hcc] at heff
     repeat' (first | refine And.intro (by omega) ?_ | refine zA (hfR _) ?_ | simp -implicitDefEqProofs (disch := omega) only [h2, h9, h10, h11, g9, zB, zJ, hrow, hsl, zAl, List.length_map, zP, hd, zL, zAa, zX, push_cast, ↓reduceIte, Nat.reduceEqDiff, Nat.reduceAdd, Nat.reduceLeDiff, Int.reduceNeg, Bool.and_self])
     all_goals first | exact ⟨by rw [heff]; rfl, _, rfl⟩ | (exfalso; omega)
   ·have he : zCu ps k o a out h = chg h 1 0 := by
     unfold zCu
     repeat (first | rw [if_pos (by omega)] | rw [if_neg (by omega)])
    rw [if_neg (by omega), if_neg (by omega), he] at heff
    by_cases hcc : 1 ≤ h ∧ h + 0 ≤ 1024
    ·rw [chg_t hcc.1 hcc.2] at heff
     repeat' (first | refine And.intro (by omega) ?_ | refine zA (hfR _) ?_ | simp -implicitDefEqProofs (disch := omega) only [h2, h9, h10, h11, g9, zB, zJ, hrow, hsl, zAl, List.length_map, zP, hd, zL, zV, zAa, zX, push_cast, ↓reduceIte, Nat.reduceEqDiff, Nat.reduceAdd, Nat.reduceLeDiff, Int.reduceNeg, Bool.and_self])
     exact .mk (j + 1, h + 0, _) ⟨h1, h2, h3, h4, h9, intc rfl (by dsimp only <;> omega), rfl, rfl, by simp; omega, by rw [zB (by omega)]; exact g4, by rw [zB (by omega)]; exact g9, hlt, by simp only; omega, by simp only; omega, heff⟩ (by simp only; omega)
    ·rw [chg_f hcc] at heff
     repeat' (first | refine And.intro (by omega) ?_ | refine zA (hfR _) ?_ | simp -implicitDefEqProofs (disch := omega) only [h2, h9, h10, h11, g9, zB, zJ, hrow, hsl, zAl, List.length_map, zP, hd, zL, zAa, zX, push_cast, ↓reduceIte, Nat.reduceEqDiff, Nat.reduceAdd, Nat.reduceLeDiff, Int.reduceNeg, Bool.and_self])
     all_goals first | exact ⟨by rw [heff]; rfl, _, rfl⟩ | (exfalso; omega)
   ·have he : zCu ps k o a out h = chg h 1 0 := by
     unfold zCu
     repeat (first | rw [if_pos (by omega)] | rw [if_neg (by omega)])
    rw [if_neg (by omega), if_neg (by omega), he] at heff
    by_cases hcc : 1 ≤ h ∧ h + 0 ≤ 1024
    ·rw [chg_t hcc.1 hcc.2] at heff
     repeat' (first | refine And.intro (by omega) ?_ | refine zA (hfR _) ?_ | simp -implicitDefEqProofs (disch := omega) only [h2, h9, h10, h11, g9, zB, zJ, hrow, hsl, zAl, List.length_map, zP, hd, zL, zV, zAa, zX, push_cast, ↓reduceIte, Nat.reduceEqDiff, Nat.reduceAdd, Nat.reduceLeDiff, Int.reduceNeg, Bool.and_self])
     exact .mk (j + 1, h + 0, _) ⟨h1, h2, h3, h4, h9, intc rfl (by dsimp only <;> omega), rfl, rfl, by simp; omega, by rw [zB (by omega)]; exact g4, by rw [zB (by omega)]; exact g9, hlt, by simp only; omega, by simp only; omega, heff⟩ (by simp only; omega)
    ·rw [chg_f hcc] at heff
     repeat' (first | refine And.intro (by omega) ?_ | refine zA (hfR _) ?_ | simp -implicitDefEqProofs (disch := omega) only [h2, h9, h10, h11, g9, zB, zJ, hrow, hsl, zAl, List.length_map, zP, hd, zL, zAa, zX, push_cast, ↓reduceIte, Nat.reduceEqDiff, Nat.reduceAdd, Nat.reduceLeDiff, Int.reduceNeg, Bool.and_self])
     all_goals first | exact ⟨by rw [heff]; rfl, _, rfl⟩ | (exfalso; omega)
   ·have he : zCu ps k o a out h = chg h 1 0 := by
     unfold zCu
     repeat (first | rw [if_pos (by omega)] | rw [if_neg (by omega)])
    rw [if_neg (by omega), if_neg (by omega), he] at heff
    by_cases hcc : 1 ≤ h ∧ h + 0 ≤ 1024
    ·rw [chg_t hcc.1 hcc.2] at heff
     repeat' (first | refine And.intro (by omega) ?_ | refine zA (hfR _) ?_ | simp -implicitDefEqProofs (disch := omega) only [h2, h9, h10, h11, g9, zB, zJ, hrow, hsl, zAl, List.length_map, zP, hd, zL, zV, zAa, zX, push_cast, ↓reduceIte, Nat.reduceEqDiff, Nat.reduceAdd, Nat.reduceLeDiff, Int.reduceNeg, Bool.and_self])
     exact .mk (j + 1, h + 0, _) ⟨h1, h2, h3, h4, h9, intc rfl (by dsimp only <;> omega), rfl, rfl, by simp; omega, by rw [zB (by omega)]; exact g4, by rw [zB (by omega)]; exact g9, hlt, by simp only; omega, by simp only; omega, heff⟩ (by simp only; omega)
    ·rw [chg_f hcc] at heff
     repeat' (first | refine And.intro (by omega) ?_ | refine zA (hfR _) ?_ | simp -implicitDefEqProofs (disch := omega) only [h2, h9, h10, h11, g9, zB, zJ, hrow, hsl, zAl, List.length_map, zP, hd, zL, zAa, zX, push_cast, ↓reduceIte, Nat.reduceEqDiff, Nat.reduceAdd, Nat.reduceLeDiff, Int.reduceNeg, Bool.and_self])
     all_goals first | exact ⟨by rw [heff]; rfl, _, rfl⟩ | (exfalso; omega)
   ·have he : zCu ps k o a out h = chg h 2 (-2) := by
     unfold zCu
     repeat (first | rw [if_pos (by omega)] | rw [if_neg (by omega)])
    rw [if_neg (by omega), if_neg (by omega), he] at heff
    by_cases hcc : 2 ≤ h ∧ h + (-2) ≤ 1024
    ·rw [chg_t hcc.1 hcc.2] at heff
     repeat' (first | refine And.intro (by omega) ?_ | refine zA (hfR _) ?_ | simp -implicitDefEqProofs (disch := omega) only [h2, h9, h10, h11, g9, zB, zJ, hrow, hsl, zAl, List.length_map, zP, hd, zL, zV, zAa, zX, push_cast, ↓reduceIte, Nat.reduceEqDiff, Nat.reduceAdd, Nat.reduceLeDiff, Int.reduceNeg, Bool.and_self])
     exact .mk (j + 1, h + (-2), _) ⟨h1, h2, h3, h4, h9, intc rfl (by dsimp only <;> omega), rfl, rfl, by simp; omega, by rw [zB (by omega)]; exact g4, by rw [zB (by omega)]; exact g9, hlt, by simp only; omega, by simp only; omega, heff⟩ (by simp only; omega)
    ·rw [chg_f hcc] at heff
     repeat' (first | refine And.intro (by omega) ?_ | refine zA (hfR _) ?_ | simp -implicitDefEqProofs (disch := omega) only [h2, h9, h10, h11, g9, zB, zJ, hrow, hsl, zAl, List.length_map, zP, hd, zL, zAa, zX, push_cast, ↓reduceIte, Nat.reduceEqDiff, Nat.reduceAdd, Nat.reduceLeDiff, Int.reduceNeg, Bool.and_self])
     all_goals first | exact ⟨by rw [heff]; rfl, _, rfl⟩ | (exfalso; omega)
   ·have he : zCu ps k o a out h = chg h 2 (-1) := by
     unfold zCu
     repeat (first | rw [if_pos (by omega)] | rw [if_neg (by omega)])
    rw [if_neg (by omega), if_neg (by omega), he] at heff
    by_cases hcc : 2 ≤ h ∧ h + (-1) ≤ 1024
    ·rw [chg_t hcc.1 hcc.2] at heff
     repeat' (first | refine And.intro (by omega) ?_ | refine zA (hfR _) ?_ | simp -implicitDefEqProofs (disch := omega) only [h2, h9, h10, h11, g9, zB, zJ, hrow, hsl, zAl, List.length_map, zP, hd, zL, zV, zAf, zX, push_cast, ↓reduceIte, Nat.reduceEqDiff, Nat.reduceAdd, Nat.reduceLeDiff, Int.reduceNeg, Bool.and_self])
     exact .mk (j + 1, h + (-1), _) ⟨h1, h2, h3, h4, h9, intc rfl (by dsimp only <;> omega), rfl, rfl, by simp; omega, by rw [zB (by omega)]; exact g4, by rw [zB (by omega)]; exact g9, hlt, by simp only; omega, by simp only; omega, heff⟩ (by simp only; omega)
    ·rw [chg_f hcc] at heff
     repeat' (first | refine And.intro (by omega) ?_ | refine zA (hfR _) ?_ | simp -implicitDefEqProofs (disch := omega) only [h2, h9, h10, h11, g9, zB, zJ, hrow, hsl, zAl, List.length_map, zP, hd, zL, zAf, zX, push_cast, ↓reduceIte, Nat.reduceEqDiff, Nat.reduceAdd, Nat.reduceLeDiff, Int.reduceNeg, Bool.and_self])
     all_goals first | exact ⟨by rw [heff]; rfl, _, rfl⟩ | (exfalso; omega)
   ·cases out with
    | false =>
     subst hc
     rw [if_pos rfl] at heff
     by_cases hh : 1 ≤ h
     ·rw [if_pos hh] at heff
      simp only [Bool.false_and] at heff
      have c1 := hx1 false
      have c2 := hx2 false
      cases e1 : zBT ps k bd false 0 with
      | none =>
       rw [e1] at heff c1
       simp only [effV] at c1
       generalize effV (zBT ps k el false 0) = y at c2
       repeat' (first | refine And.intro (by omega) ?_ | refine zA (hfR _) ?_ | refine zH (c1 _) rfl ?_ | refine zH (c2 _) rfl ?_ | simp -implicitDefEqProofs (disch := omega) only [h1, h2, h3, h4, h9, h10, h11, g4, g9, zB, zJ, hrow, hsl, zAl, List.length_map, zP, hd, zL, zV, push_cast, ↓reduceIte, Nat.reduceEqDiff, Nat.reduceAdd, Nat.reduceLeDiff, Int.reduceLT, Int.reduceLE, Int.reduceEq, Int.reduceNeg, Bool.and_self])
       all_goals first | exact ⟨by rw [heff]; rfl, _, rfl⟩ | (exfalso; omega)
      | some y1 =>
       have r1 := zAK hp bd _ 0 y1 (by omega) (by omega) e1
       rw [e1] at heff c1
       simp only [effV] at c1
       cases e2 : zBT ps k el false 0 with
       | none =>
        rw [e2] at heff c2
        simp only [effV] at c2
        repeat' (first | refine And.intro (by omega) ?_ | refine zA (hfR _) ?_ | refine zH (c1 _) rfl ?_ | refine zH (c2 _) rfl ?_ | simp -implicitDefEqProofs (disch := omega) only [h1, h2, h3, h4, h9, h10, h11, g4, g9, zB, zJ, hrow, hsl, zAl, List.length_map, zP, hd, zL, zV, zX, push_cast, ↓reduceIte, Nat.reduceEqDiff, Nat.reduceAdd, Nat.reduceLeDiff, Int.reduceLE, Int.reduceEq, Int.reduceNeg, Bool.and_self])
        all_goals first | exact ⟨by rw [heff]; rfl, _, rfl⟩ | (exfalso; omega)
       | some y2 =>
        have r2 := zAK hp el _ 0 y2 (by omega) (by omega) e2
        rw [e2] at heff c2
        simp only [effV] at c2
        by_cases hy : y1 = y2
        ·subst hy
         simp only [if_true] at heff
         by_cases hcc : 0 ≤ h ∧ h + (y1 - 1) ≤ 1024
         ·rw [chg_t hcc.1 hcc.2] at heff
          repeat' (first | refine And.intro (by omega) ?_ | refine zA (hfR _) ?_ | refine zH (c1 _) rfl ?_ | refine zH (c2 _) rfl ?_ | simp -implicitDefEqProofs (disch := omega) only [h1, h2, h3, h4, h9, h10, h11, g4, g9, zB, zJ, hrow, hsl, zAl, List.length_map, zP, hd, zL, zV, push_cast, ↓reduceIte, Nat.reduceEqDiff, Nat.reduceAdd, Nat.reduceLeDiff, Int.reduceLE, Int.reduceEq, Int.reduceNeg, Bool.and_self])
          exact .mk (j + 1, h + (y1 - 1), _) ⟨h1, h2, h3, h4, h9, intc rfl (by dsimp only <;> omega), rfl, rfl, by simp; omega, by rw [zB (by omega)]; exact g4, by rw [zB (by omega)]; exact g9, hlt, by simp only; omega, by simp only; omega, heff⟩ (by simp only; omega)
         ·rw [chg_f hcc] at heff
          repeat' (first | refine And.intro (by omega) ?_ | refine zA (hfR _) ?_ | refine zH (c1 _) rfl ?_ | refine zH (c2 _) rfl ?_ | simp -implicitDefEqProofs (disch := omega) only [h1, h2, h3, h4, h9, h10, h11, g4, g9, zB, zJ, hrow, hsl, zAl, List.length_map, zP, hd, zL, zV, push_cast, ↓reduceIte, Nat.reduceEqDiff, Nat.reduceAdd, Nat.reduceLeDiff, Int.reduceLE, Int.reduceEq, Int.reduceNeg, Bool.and_self])
          all_goals first | exact ⟨by rw [heff]; rfl, _, rfl⟩ | (exfalso; omega)
        ·simp only [if_neg hy] at heff
         repeat' (first | refine And.intro (by omega) ?_ | refine zA (hfR _) ?_ | refine zH (c1 _) rfl ?_ | refine zH (c2 _) rfl ?_ | simp -implicitDefEqProofs (disch := omega) only [h1, h2, h3, h4, h9, h10, h11, g4, g9, zB, zJ, hrow, hsl, zAl, List.length_map, zP, hd, zL, zV, zX, push_cast, ↓reduceIte, Nat.reduceEqDiff, Nat.reduceAdd, Nat.reduceLeDiff, Int.reduceLE, Int.reduceEq, Int.reduceNeg, Bool.and_self])
         all_goals first | exact ⟨by rw [heff]; rfl, _, rfl⟩ | (exfalso; omega)
     ·rw [if_neg hh] at heff
      repeat' (first | refine And.intro (by omega) ?_ | refine zA (hfR _) ?_ | simp -implicitDefEqProofs (disch := omega) only [h2, h9, h10, h11, g9, zB, zJ, hrow, hsl, zAl, List.length_map, zP, hd, zL, push_cast, ↓reduceIte, Nat.reduceEqDiff, Nat.reduceAdd, Nat.reduceLeDiff, Int.reduceLE, Int.reduceEq, Int.reduceNeg, Bool.and_self])
      all_goals first | exact ⟨by rw [heff]; rfl, _, rfl⟩ | (exfalso; omega)
    | true =>
     by_cases h1e : h = 1
     ·subst hc
      rw [if_pos rfl] at heff
      by_cases hh : 1 ≤ h
      ·rw [if_pos hh] at heff
       have hde : decide (h = 1) = true := decide_eq_true h1e
       simp only [Bool.true_and, hde] at heff
       have c1 := hx1 true
       have c2 := hx2 true
       cases e1 : zBT ps k bd true 0 with
       | none =>
        rw [e1] at heff c1
        simp only [effV] at c1
        generalize effV (zBT ps k el true 0) = y at c2
        repeat' (first | refine And.intro (by omega) ?_ | refine zA (hfR _) ?_ | refine zH (c1 _) rfl ?_ | refine zH (c2 _) rfl ?_ | simp -implicitDefEqProofs (disch := omega) only [h1, h2, h3, h4, h9, h10, h11, g4, g9, zB, zJ, hrow, hsl, zAl, List.length_map, zP, hd, zL, zV, zAa, push_cast, ↓reduceIte, Nat.reduceEqDiff, Nat.reduceAdd, Nat.reduceLeDiff, Int.reduceLT, Int.reduceLE, Int.reduceEq, Int.reduceNeg, Bool.and_self])
        all_goals first | exact ⟨by rw [heff]; rfl, _, rfl⟩ | (exfalso; omega)
       | some y1 =>
        have r1 := zAK hp bd _ 0 y1 (by omega) (by omega) e1
        rw [e1] at heff c1
        simp only [effV] at c1
        cases e2 : zBT ps k el true 0 with
        | none =>
         rw [e2] at heff c2
         simp only [effV] at c2
         repeat' (first | refine And.intro (by omega) ?_ | refine zA (hfR _) ?_ | refine zH (c1 _) rfl ?_ | refine zH (c2 _) rfl ?_ | simp -implicitDefEqProofs (disch := omega) only [h1, h2, h3, h4, h9, h10, h11, g4, g9, zB, zJ, hrow, hsl, zAl, List.length_map, zP, hd, zL, zV, zAa, zX, push_cast, ↓reduceIte, Nat.reduceEqDiff, Nat.reduceAdd, Nat.reduceLeDiff, Int.reduceLE, Int.reduceEq, Int.reduceNeg, Bool.and_self])
         all_goals first | exact ⟨by rw [heff]; rfl, _, rfl⟩ | (exfalso; omega)
        | some y2 =>
         have r2 := zAK hp el _ 0 y2 (by omega) (by omega) e2
         rw [e2] at heff c2
         simp only [effV] at c2
         by_cases hy : y1 = y2
         ·subst hy
          simp only [if_true] at heff
          by_cases hcc : 0 ≤ h ∧ h + (y1 - 1) ≤ 1024
          ·rw [chg_t hcc.1 hcc.2] at heff
           repeat' (first | refine And.intro (by omega) ?_ | refine zA (hfR _) ?_ | refine zH (c1 _) rfl ?_ | refine zH (c2 _) rfl ?_ | simp -implicitDefEqProofs (disch := omega) only [h1, h2, h3, h4, h9, h10, h11, g4, g9, zB, zJ, hrow, hsl, zAl, List.length_map, zP, hd, zL, zV, zAa, push_cast, ↓reduceIte, Nat.reduceEqDiff, Nat.reduceAdd, Nat.reduceLeDiff, Int.reduceLE, Int.reduceEq, Int.reduceNeg, Bool.and_self])
           exact .mk (j + 1, h + (y1 - 1), _) ⟨h1, h2, h3, h4, h9, intc rfl (by dsimp only <;> omega), rfl, rfl, by simp; omega, by rw [zB (by omega)]; exact g4, by rw [zB (by omega)]; exact g9, hlt, by simp only; omega, by simp only; omega, heff⟩ (by simp only; omega)
          ·rw [chg_f hcc] at heff
           repeat' (first | refine And.intro (by omega) ?_ | simp -implicitDefEqProofs (disch := omega) only [push_cast])
           all_goals first | exact ⟨by rw [heff]; rfl, _, rfl⟩ | (exfalso; omega)
         ·simp only [if_neg hy] at heff
          repeat' (first | refine And.intro (by omega) ?_ | refine zA (hfR _) ?_ | refine zH (c1 _) rfl ?_ | refine zH (c2 _) rfl ?_ | simp -implicitDefEqProofs (disch := omega) only [h1, h2, h3, h4, h9, h10, h11, g4, g9, zB, zJ, hrow, hsl, zAl, List.length_map, zP, hd, zL, zV, zAa, zX, push_cast, ↓reduceIte, Nat.reduceEqDiff, Nat.reduceAdd, Nat.reduceLeDiff, Int.reduceLE, Int.reduceEq, Int.reduceNeg, Bool.and_self])
          all_goals first | exact ⟨by rw [heff]; rfl, _, rfl⟩ | (exfalso; omega)
      ·rw [if_neg hh] at heff
       repeat' (first | refine And.intro (by omega) ?_ | simp -implicitDefEqProofs (disch := omega) only [push_cast])
       all_goals first | exact ⟨by rw [heff]; rfl, _, rfl⟩ | (exfalso; omega)
     ·subst hc
      rw [if_pos rfl] at heff
      by_cases hh : 1 ≤ h
      ·rw [if_pos hh] at heff
       have hde : decide (h = 1) = false := decide_eq_false h1e
       simp only [Bool.true_and, hde] at heff
       have c1 := hx1 false
       have c2 := hx2 false
       cases e1 : zBT ps k bd false 0 with
       | none =>
        rw [e1] at heff c1
        simp only [effV] at c1
        generalize effV (zBT ps k el false 0) = y at c2
        repeat' (first | refine And.intro (by omega) ?_ | refine zA (hfR _) ?_ | refine zH (c1 _) rfl ?_ | refine zH (c2 _) rfl ?_ | simp -implicitDefEqProofs (disch := omega) only [h1, h2, h3, h4, h9, h10, h11, g4, g9, zB, zJ, hrow, hsl, zAl, List.length_map, zP, hd, zL, zV, zX, push_cast, ↓reduceIte, Nat.reduceEqDiff, Nat.reduceAdd, Nat.reduceLeDiff, Int.reduceLT, Int.reduceLE, Int.reduceEq, Int.reduceNeg, Bool.and_self])
        all_goals first | exact ⟨by rw [heff]; rfl, _, rfl⟩ | (exfalso; omega)
       | some y1 =>
        have r1 := zAK hp bd _ 0 y1 (by omega) (by omega) e1
        rw [e1] at heff c1
        simp only [effV] at c1
        cases e2 : zBT ps k el false 0 with
        | none =>
         rw [e2] at heff c2
         simp only [effV] at c2
         repeat' (first | refine And.intro (by omega) ?_ | refine zA (hfR _) ?_ | refine zH (c1 _) rfl ?_ | refine zH (c2 _) rfl ?_ | simp -implicitDefEqProofs (disch := omega) only [h1, h2, h3, h4, h9, h10, h11, g4, g9, zB, zJ, hrow, hsl, zAl, List.length_map, zP, hd, zL, zV, zX, push_cast, ↓reduceIte, Nat.reduceEqDiff, Nat.reduceAdd, Nat.reduceLeDiff, Int.reduceLE, Int.reduceEq, Int.reduceNeg, Bool.and_self])
         all_goals first | exact ⟨by rw [heff]; rfl, _, rfl⟩ | (exfalso; omega)
        | some y2 =>
         have r2 := zAK hp el _ 0 y2 (by omega) (by omega) e2
         rw [e2] at heff c2
         simp only [effV] at c2
         by_cases hy : y1 = y2
         ·subst hy
          simp only [if_true] at heff
          by_cases hcc : 0 ≤ h ∧ h + (y1 - 1) ≤ 1024
          ·rw [chg_t hcc.1 hcc.2] at heff
           repeat' (first | refine And.intro (by omega) ?_ | refine zA (hfR _) ?_ | refine zH (c1 _) rfl ?_ | refine zH (c2 _) rfl ?_ | simp -implicitDefEqProofs (disch := omega) only [h1, h2, h3, h4, h9, h10, h11, g4, g9, zB, zJ, hrow, hsl, zAl, List.length_map, zP, hd, zL, zV, zX, push_cast, ↓reduceIte, Nat.reduceEqDiff, Nat.reduceAdd, Nat.reduceLeDiff, Int.reduceLE, Int.reduceEq, Int.reduceNeg, Bool.and_self])
           exact .mk (j + 1, h + (y1 - 1), _) ⟨h1, h2, h3, h4, h9, intc rfl (by dsimp only <;> omega), rfl, rfl, by simp; omega, by rw [zB (by omega)]; exact g4, by rw [zB (by omega)]; exact g9, hlt, by simp only; omega, by simp only; omega, heff⟩ (by simp only; omega)
          ·rw [chg_f hcc] at heff
           repeat' (first | refine And.intro (by omega) ?_ | refine zA (hfR _) ?_ | refine zH (c1 _) rfl ?_ | refine zH (c2 _) rfl ?_ | simp -implicitDefEqProofs (disch := omega) only [h1, h2, h3, h4, h9, h10, h11, g4, g9, zB, zJ, hrow, hsl, zAl, List.length_map, zP, hd, zL, zV, zX, push_cast, ↓reduceIte, Nat.reduceEqDiff, Nat.reduceAdd, Nat.reduceLeDiff, Int.reduceLE, Int.reduceEq, Int.reduceNeg, Bool.and_self])
           all_goals first | exact ⟨by rw [heff]; rfl, _, rfl⟩ | (exfalso; omega)
         ·simp only [if_neg hy] at heff
          repeat' (first | refine And.intro (by omega) ?_ | refine zA (hfR _) ?_ | refine zH (c1 _) rfl ?_ | refine zH (c2 _) rfl ?_ | simp -implicitDefEqProofs (disch := omega) only [h1, h2, h3, h4, h9, h10, h11, g4, g9, zB, zJ, hrow, hsl, zAl, List.length_map, zP, hd, zL, zV, zX, push_cast, ↓reduceIte, Nat.reduceEqDiff, Nat.reduceAdd, Nat.reduceLeDiff, Int.reduceLE, Int.reduceEq, Int.reduceNeg, Bool.and_self])
          all_goals first | exact ⟨by rw [heff]; rfl, _, rfl⟩ | (exfalso; omega)
      ·rw [if_neg hh] at heff
       repeat' (first | refine And.intro (by omega) ?_ | refine zA (hfR _) ?_ | simp -implicitDefEqProofs (disch := omega) only [h2, h9, h10, h11, g9, zB, zJ, hrow, hsl, zAl, List.length_map, zP, hd, zL, push_cast, ↓reduceIte, Nat.reduceEqDiff, Nat.reduceAdd, Nat.reduceLeDiff, Int.reduceLE, Int.reduceEq, Int.reduceNeg, Bool.and_self])
       all_goals first | exact ⟨by rw [heff]; rfl, _, rfl⟩ | (exfalso; omega)
   ·subst hc
    rw [if_neg (by omega), if_pos rfl] at heff
    have c1 := hx1 true
    have c2 := hx2 false
    cases out with
    | false =>
     rw [if_neg (by simp)] at heff
     repeat' (first | refine And.intro (by omega) ?_ | refine zA (hfR _) ?_ | simp -implicitDefEqProofs (disch := omega) only [h2, h3, h9, h11, g9, zB, zJ, hrow, hsl, zAl, List.length_map, zP, hd, zL, push_cast, ↓reduceIte, Nat.reduceEqDiff, Nat.reduceAdd, Nat.reduceLeDiff, Int.reduceLE, Int.reduceEq, Int.reduceNeg, Bool.and_self])
     all_goals first | exact ⟨by rw [heff]; rfl, _, rfl⟩ | (exfalso; omega)
    | true =>
     by_cases hh : h = 0
     ·subst hh
      cases e2 : zBT ps k el false 0 with
      | none =>
       rw [e2] at heff c2
       rw [if_neg (by simp)] at heff
       simp only [effV] at c2
       repeat' (first | refine And.intro (by omega) ?_ | refine zA (hfR _) ?_ | refine zA (c2 _) ?_ | simp -implicitDefEqProofs (disch := omega) only [h1, h2, h3, h4, h9, h10, h11, g4, g9, zB, zJ, hrow, hsl, zAl, List.length_map, zP, hd, zL, push_cast, ↓reduceIte, Nat.reduceEqDiff, reduceCtorEq, Nat.reduceAdd, Nat.reduceLeDiff, Int.reduceLE, Int.reduceEq, Int.reduceNeg, Bool.and_self])
       all_goals first | exact ⟨by rw [heff]; rfl, _, rfl⟩ | (exfalso; omega)
      | some y2 =>
       rw [e2] at heff c2
       simp only [effV] at c2
       by_cases hy2 : y2 = 1
       ·subst hy2
        cases e1 : zBT ps k bd true 0 with
        | none =>
         rw [e1] at heff c1
         rw [if_neg (by simp)] at heff
         simp only [effV] at c1
         repeat' (first | refine And.intro (by omega) ?_ | refine zA (hfR _) ?_ | refine zA (c2 _) ?_ | refine zA (c1 _) ?_ | simp -implicitDefEqProofs (disch := omega) only [h1, h2, h3, h4, h9, h10, h11, g4, g9, zB, zJ, hrow, hsl, zAl, List.length_map, zP, hd, zL, push_cast, ↓reduceIte, Nat.reduceEqDiff, reduceCtorEq, Nat.reduceAdd, Nat.reduceLeDiff, Int.reduceLE, Int.reduceEq, Int.reduceNeg, Bool.and_self])
         all_goals first | exact ⟨by rw [heff]; rfl, _, rfl⟩ | (exfalso; omega)
        | some y1 =>
         rw [e1] at heff c1
         simp only [effV] at c1
         by_cases hy1 : y1 = 0
         ·subst hy1
          rw [if_pos (by simp)] at heff
          repeat' (first | refine And.intro (by omega) ?_ | refine zA (hfR _) ?_ | refine zA (c2 _) ?_ | refine zA (c1 _) ?_ | simp -implicitDefEqProofs (disch := omega) only [h1, h2, h3, h4, h9, h10, h11, g4, g9, zB, zJ, hrow, hsl, zAl, List.length_map, zP, hd, zL, push_cast, ↓reduceIte, Nat.reduceEqDiff, Nat.reduceAdd, Nat.reduceLeDiff, Int.reduceLT, Int.reduceLE, Int.reduceEq, Int.reduceAdd, Int.reduceNeg, Bool.and_self])
          exact .mk (j + 1, 0, _) ⟨h1, h2, h3, h4, h9, intc rfl (by dsimp only <;> omega), rfl, rfl, by simp; omega, by rw [zB (by omega)]; exact g4, by rw [zB (by omega)]; exact g9, hlt, by simp only; omega, by simp only; omega, heff⟩ (by simp only; omega)
         ·rw [if_neg (by simp [hy1])] at heff
          repeat' (first | refine And.intro (by omega) ?_ | refine zA (hfR _) ?_ | refine zA (c2 _) ?_ | refine zA (c1 _) ?_ | simp -implicitDefEqProofs (disch := omega) only [h1, h2, h3, h4, h9, h10, h11, g4, g9, zB, zJ, hrow, hsl, zAl, List.length_map, zP, hd, zL, zX, push_cast, ↓reduceIte, Nat.reduceEqDiff, Nat.reduceAdd, Nat.reduceLeDiff, Int.reduceLE, Int.reduceEq, Int.reduceNeg, Bool.and_self])
          all_goals first | exact ⟨by rw [heff]; rfl, _, rfl⟩ | (exfalso; omega)
       ·rw [if_neg (by simp [hy2])] at heff
        repeat' (first | refine And.intro (by omega) ?_ | refine zA (hfR _) ?_ | refine zA (c2 _) ?_ | simp -implicitDefEqProofs (disch := omega) only [h1, h2, h3, h4, h9, h10, h11, g4, g9, zB, zJ, hrow, hsl, zAl, List.length_map, zP, hd, zL, zX, push_cast, ↓reduceIte, Nat.reduceEqDiff, Nat.reduceAdd, Nat.reduceLeDiff, Int.reduceLE, Int.reduceEq, Int.reduceNeg, Bool.and_self])
        all_goals first | exact ⟨by rw [heff]; rfl, _, rfl⟩ | (exfalso; omega)
     ·rw [if_neg (by simp [hh])] at heff
      repeat' (first | refine And.intro (by omega) ?_ | refine zA (hfR _) ?_ | simp -implicitDefEqProofs (disch := omega) only [h2, h3, h9, h10, h11, g9, zB, zJ, hrow, hsl, zAl, List.length_map, zP, hd, zL, zX, push_cast, ↓reduceIte, Nat.reduceEqDiff, Nat.reduceAdd, Nat.reduceLeDiff, Int.reduceLE, Int.reduceEq, Int.reduceNeg, Bool.and_self])
      all_goals first | exact ⟨by rw [heff]; rfl, _, rfl⟩ | (exfalso; omega)
   ·subst hc
    rw [if_neg (by omega), if_neg (by omega)] at heff
    have he : zCu ps k 20 a out h = if 0 ≤ a ∧ a < k then chg h (ps.getD a.toNat default).par (zCO (ps.getD a.toNat default) - (ps.getD a.toNat default).par) else none := by
     unfold zCu
     rw [if_neg (by omega), if_neg (by omega), if_neg (by omega), if_neg (by omega), if_pos rfl]
    rw [he] at heff
    by_cases ha : 0 ≤ a ∧ a < k
    ·rw [if_pos ha] at heff
     obtain ⟨p1, p2, p3, p4⟩ := hp a.toNat (by omega)
     have po := outsN_ok p3 p4
     have cO := fun H => outputsR (ps.getD a.toNat default) (by omega) H
     have hpr : (prR (ps.getD a.toNat default)).drop 1 = [int (ps.getD a.toNat default).par, int (ps.getD a.toNat default).slots, int (ps.getD a.toNat default).res, .sl 1 ((ps.getD a.toNat default).outs.map iR), .sl 5 ((ps.getD a.toNat default).body.map zAt)] := rfl
     by_cases hcc : (ps.getD a.toNat default).par ≤ h ∧ h + (zCO (ps.getD a.toNat default) - (ps.getD a.toNat default).par) ≤ 1024
     ·rw [chg_t hcc.1 hcc.2] at heff
      repeat' (first | refine And.intro (by omega) ?_ | refine zA (hfR _) ?_ | refine zA (cO _) ?_ | simp -implicitDefEqProofs (disch := omega) only [h1, h2, h4, h9, h10, h11, g4, g9, zB, zJ, hrow, hsl, zAl, List.length_map, zP, hd, zAO, zCo, hpr, zL, zV, zAB, push_cast, ↓reduceIte, Nat.reduceEqDiff, Nat.reduceAdd, Nat.reduceLeDiff, Int.reduceLE, Int.reduceEq, Int.reduceNeg, Bool.and_self])
      exact .mk (j + 1, h + (zCO (ps.getD a.toNat default) - (ps.getD a.toNat default).par), _) ⟨h1, h2, h3, h4, h9, intc rfl (by dsimp only <;> omega), rfl, rfl, by simp; omega, by rw [zB (by omega)]; exact g4, by rw [zB (by omega)]; exact g9, hlt, by simp only; omega, by simp only; omega, heff⟩ (by simp only; omega)
     ·rw [chg_f hcc] at heff
      repeat' (first | refine And.intro (by omega) ?_ | refine zA (hfR _) ?_ | refine zA (cO _) ?_ | simp -implicitDefEqProofs (disch := omega) only [h1, h2, h4, h9, h10, h11, g4, g9, zB, zJ, hrow, hsl, zAl, List.length_map, zP, hd, zAO, zCo, hpr, zL, zV, zAB, push_cast, ↓reduceIte, Nat.reduceEqDiff, Nat.reduceAdd, Nat.reduceLeDiff, Int.reduceLE, Int.reduceEq, Int.reduceNeg, Bool.and_self] | split)
      all_goals first | exact ⟨by rw [heff]; rfl, _, rfl⟩ | (exfalso; omega)
    ·rw [if_neg ha] at heff
     repeat' (first | refine And.intro (by omega) ?_ | refine zA (hfR _) ?_ | simp -implicitDefEqProofs (disch := omega) only [h1, h2, h9, h11, g9, zB, zJ, hrow, hsl, zAl, List.length_map, zP, hd, zL, zV, zAf, push_cast, ↓reduceIte, Nat.reduceEqDiff, Nat.reduceAdd, Nat.reduceLeDiff, Int.reduceLE, Int.reduceEq, Int.reduceNeg, Bool.and_self] | split)
     all_goals first | exact ⟨by rw [heff]; rfl, _, rfl⟩ | (exfalso; omega)
   ·subst hc
    rw [if_neg (by omega), if_neg (by omega)] at heff
    have he : zCu ps k 21 a out h = if out = true ∧ h = max (ps.getD k default).res 0 then chg h 0 (-h) else none := by
     unfold zCu
     rw [if_neg (by omega), if_neg (by omega), if_neg (by omega), if_neg (by omega), if_neg (by omega), if_pos rfl]
    rw [he] at heff
    cases out with
    | false =>
     rw [if_neg (by simp)] at heff
     repeat' (first | refine And.intro (by omega) ?_ | refine zA (hfR _) ?_ | simp -implicitDefEqProofs (disch := omega) only [h2, h3, h9, h11, g9, zB, zJ, hrow, hsl, zAl, List.length_map, zP, hd, zL, push_cast, ↓reduceIte, Nat.reduceEqDiff, Nat.reduceAdd, Nat.reduceLeDiff, Int.reduceLE, Int.reduceEq, Int.reduceNeg, Bool.and_self])
     all_goals first | exact ⟨by rw [heff]; rfl, _, rfl⟩ | (exfalso; omega)
    | true =>
     by_cases hm : h = max (ps.getD k default).res 0
     ·rw [if_pos ⟨rfl, hm⟩, chg_t hh0 (by omega)] at heff
      by_cases hr : (ps.getD k default).res < 0
      ·have hmx : (if (ps.getD k default).res < 0 then (0 : Int) else (ps.getD k default).res) = 0 := if_pos hr
       repeat' (first | refine And.intro (by omega) ?_ | refine zA (hfR _) ?_ | simp -implicitDefEqProofs (disch := omega) only [h2, h3, h9, h10, h11, g9, zB, zJ, hrow, hsl, hsl3, zAl, List.length_map, zP, hd, hmx, zL, zV, zAa, push_cast, ↓reduceIte, Nat.reduceEqDiff, Nat.reduceAdd, Nat.reduceLeDiff, Int.reduceLE, Int.reduceEq, Int.reduceNeg, Bool.and_self])
       exact .mk (j + 1, h + -h, _) ⟨h1, h2, h3, h4, h9, intc rfl (by dsimp only <;> omega), rfl, rfl, by simp; omega, by rw [zB (by omega)]; exact g4, by rw [zB (by omega)]; exact g9, hlt, by simp only; omega, by simp only; omega, heff⟩ (by simp only; omega)
      ·have hmx : (if (ps.getD k default).res < 0 then (0 : Int) else (ps.getD k default).res) = (ps.getD k default).res := if_neg hr
       repeat' (first | refine And.intro (by omega) ?_ | refine zA (hfR _) ?_ | simp -implicitDefEqProofs (disch := omega) only [h2, h3, h9, h10, h11, g9, zB, zJ, hrow, hsl, hsl3, zAl, List.length_map, zP, hd, hmx, zL, zV, zAa, push_cast, ↓reduceIte, Nat.reduceEqDiff, Nat.reduceAdd, Nat.reduceLeDiff, Int.reduceLE, Int.reduceEq, Int.reduceNeg, Bool.and_self])
       exact .mk (j + 1, h + -h, _) ⟨h1, h2, h3, h4, h9, intc rfl (by dsimp only <;> omega), rfl, rfl, by simp; omega, by rw [zB (by omega)]; exact g4, by rw [zB (by omega)]; exact g9, hlt, by simp only; omega, by simp only; omega, heff⟩ (by simp only; omega)
     ·rw [if_neg (fun hh => hm hh.2)] at heff
      by_cases hr : (ps.getD k default).res < 0
      ·have hmx : (if (ps.getD k default).res < 0 then (0 : Int) else (ps.getD k default).res) = 0 := if_pos hr
       repeat' (first | refine And.intro (by omega) ?_ | refine zA (hfR _) ?_ | simp -implicitDefEqProofs (disch := omega) only [h2, h3, h9, h10, h11, g9, zB, zJ, hrow, hsl, hsl3, zAl, List.length_map, zP, hd, hmx, zL, zX, push_cast, ↓reduceIte, Nat.reduceEqDiff, Nat.reduceAdd, Nat.reduceLeDiff, Int.reduceLE, Int.reduceEq, Int.reduceNeg, Bool.and_self])
       all_goals first | exact ⟨by rw [heff]; rfl, _, rfl⟩ | (exfalso; omega)
      ·have hmx : (if (ps.getD k default).res < 0 then (0 : Int) else (ps.getD k default).res) = (ps.getD k default).res := if_neg hr
       repeat' (first | refine And.intro (by omega) ?_ | refine zA (hfR _) ?_ | simp -implicitDefEqProofs (disch := omega) only [h2, h3, h9, h10, h11, g9, zB, zJ, hrow, hsl, hsl3, zAl, List.length_map, zP, hd, hmx, zL, zX, push_cast, ↓reduceIte, Nat.reduceEqDiff, Nat.reduceAdd, Nat.reduceLeDiff, Int.reduceLE, Int.reduceEq, Int.reduceNeg, Bool.and_self])
       all_goals first | exact ⟨by rw [heff]; rfl, _, rfl⟩ | (exfalso; omega)
  ·rw [if_neg hf] at heff
   have hd : decide (zR (ps.getD k default).slots o a b (bd.isEmpty && el.isEmpty)) = false := decide_eq_false hf
   repeat' (first | refine And.intro (by omega) ?_ | refine zA (hfR _) ?_ | simp -implicitDefEqProofs (disch := omega) only [h2, h9, h11, g9, zB, zJ, hrow, hsl, zAl, List.length_map, zP, hd, zL, push_cast, ↓reduceIte, Nat.reduceEqDiff, Nat.reduceAdd, Nat.reduceLeDiff, Int.reduceNeg, Bool.and_self])
   exact ⟨by rw [heff]; rfl, _, rfl⟩
 ·have e : j = l.length := by omega
  subst e
  rw [List.drop_length] at heff
  repeat' (simp -implicitDefEqProofs (disch := omega) only [h2, h10, h11, List.length_map, zV, push_cast, ↓reduceIte, Nat.reduceEqDiff, Int.reduceNeg])
  exact ⟨by rw [heff]; rfl, _, rfl⟩
theorem costsC (known : List Int) (L : Int) (hk : zCL known) (h0 : 0 ≤ L) (h8 : L ≤ 8) (hkl : known.length ≤ 1048576) (l : List Ins) : zQ l ≤ 1048576 → callL known.length l → ∀ (H : zC) (r ver : Nat), H[r]? = some (.arr ver 1 (known.map iR)) → ACall Tryz.prog 21 [.sl 5 (l.map zAt), int L, .os r ver 0 known.length] H fun y H' => y = int (zAX known L l 0) ∧ H' = H := by
 induction l using Ins.indL with
 | h l ih =>
 intro hs hcl H r ver hr
 refine ACall.drop (R := fun y => y = int (zAX known L l 0)) ?_
 have hrl := (List.getElem?_eq_some_iff.1 hr).1
 refine enter Tryz.func21 L21_ok (Nat.le_of_ble_eq_true rfl) ?_
 have hln := zM l
 repeat' (simp -implicitDefEqProofs (disch := omega) only [L21, List.length_map, push_cast, ↓reduceIte, reduceCtorEq, Nat.reduceAdd])
 refine zAj (fun (st : Nat × Int × zC) e' H' => e' 1 = int L ∧ e' 2 = .os r ver 0 known.length ∧ e' 7 = int st.2.1 ∧ e' 11 = .sl 5 (l.map zAt) ∧ e' 12 = int l.length ∧ e' 13 = int st.1 ∧ H' = H ++ st.2.2 ∧ st.1 ≤ l.length ∧ 0 ≤ st.2.1 ∧ st.2.1 ≤ 67108865 ∧ zAX known L l 0 = zAX known L (l.drop st.1) st.2.1) (fun st => l.length - st.1) (0, 0, []) ?_ ?_
 ·exact ⟨rfl, rfl, rfl, rfl, rfl, rfl, by simp, Nat.zero_le _, by simp, by simp, by simp⟩
 rintro ⟨j, s, ext⟩ e' H' ⟨h1', h2', h7, h11, h12, h13, rfl, hj, hs0, hs1, hc⟩
 simp only at h7 h13 hj hs0 hs1 hc
 by_cases hlt : j < l.length
 ·have hk0 := zAo hlt
  have hb := zAk l (j + 1)
  rw [zAh hlt, icnt_eq] at hb
  have hx := ih _ hk0
  have hci := (callI_eq _ _).1 (callL_mem hcl hk0)
  rw [costL_drop _ _ hlt] at hc
  have hrow : (l.map zAt).getD j [] = zAt (l.getD j default) := zU hlt
  have hrg := costI_range hk h0 h8 (l.getD j default)
  generalize l.getD j default = x at *
  obtain ⟨o, a, b, bd, el⟩ := x
  have hr2 : zAt (.mk o a b bd el) = [int o, int a, int b, .sl 5 (bd.map zAt), .sl 5 (el.map zAt)] := by simp [zAt, zAm]
  rw [hr2] at hrow
  simp only [costI] at hc hrg
  simp only [Ins.op, Ins.a, Ins.b, Ins.body, Ins.els] at hci hb hx
  have n1 := zBc hk h0 h8 bd 0 (by omega) (by omega)
  have n2 := zBc hk h0 h8 el 0 (by omega) (by omega)
  have e1 : 0 ≤ (L + 1) * zAX known L el 0 ∧ (L + 1) * zAX known L el 0 ≤ 9 * 67108865 := ⟨Int.mul_nonneg (by omega) n2.1, Int.mul_le_mul (by omega) n2.2 n2.1 (by omega)⟩
  have e2 : 0 ≤ L * zAX known L bd 0 ∧ L * zAX known L bd 0 ≤ 8 * 67108865 := ⟨Int.mul_nonneg h0 n1.1, Int.mul_le_mul (by omega) n1.2 n1.1 (by omega)⟩
  have hrA : ∀ X : zC, (H ++ X)[r]? = some (.arr ver 1 (known.map iR)) := fun X => by rw [zB hrl]; exact hr
  have hr' : 0 = 0 := rfl
  have c1 := fun X => hx.1 (by omega) hci.2.1 (H ++ X) r ver (hrA X)
  have c2 := fun X => hx.2 (by omega) hci.2.2 (H ++ X) r ver (hrA X)
  clear hx ih
  by_cases h18 : o = 18
  ·subst h18
   simp only [if_true] at hc hrg
   repeat' (first | refine And.intro (by omega) ?_ | refine zA (c1 _) ?_ | refine zA (c2 _) ?_ | simp -implicitDefEqProofs (disch := omega) only [h1', h2', h7, h11, h12, h13, hrow, Nat.zero_add, List.length_map, zAl, zL, push_cast, ↓reduceIte, Nat.reduceEqDiff, Nat.reduceAdd, Nat.reduceLeDiff, Bool.and_self] | split)
   all_goals exact .mk (j + 1, min (s + (1 + max (zAX known L bd 0) (zAX known L el 0))) 67108865, _) ⟨h1', h2', intc rfl (by dsimp only <;> omega), h11, h12, rfl, rfl, hlt, by dsimp only; omega, by dsimp only; omega, hc⟩ (by dsimp only; omega)
  ·by_cases h19 : o = 19
   ·subst h19
    rw [if_neg (by omega), if_pos rfl] at hc hrg
    repeat' (first | refine And.intro (by omega) ?_ | refine callHF_pure (c1 _) ?_ | refine callHF_pure (c2 _) ?_ | simp -implicitDefEqProofs (disch := omega) only [h1', h2', h7, h11, h12, h13, hrow, Nat.zero_add, List.length_map, zAl, zL, push_cast, ↓reduceIte, Nat.reduceEqDiff, Nat.reduceAdd, Nat.reduceLeDiff, Int.reduceEq, Bool.and_self] | split)
    all_goals exact .mk (j + 1, min (s + (1 + (L + 1) * zAX known L el 0 + L * zAX known L bd 0)) 67108865, _) ⟨h1', h2', intc rfl (by dsimp only <;> omega), h11, h12, rfl, rfl, hlt, by dsimp only; omega, by dsimp only; omega, hc⟩ (by dsimp only; omega)
   ·by_cases h20 : o = 20
    ·subst h20
     rw [if_neg (by omega), if_neg (by omega), if_pos rfl] at hc hrg
     have ha := hci.1 rfl
     have hkr : (known.map iR).getD a.toNat [] = iR (known.getD a.toNat default) := zU (by omega)
     simp only [iR] at hkr
     repeat' (first | refine And.intro (by omega) ?_ | simp -implicitDefEqProofs (disch := omega) only [h2', h7, h11, h12, h13, hrow, hkr, hrA, Nat.zero_add, List.length_map, zAl, zL, push_cast, ↓reduceIte, Nat.reduceEqDiff, Nat.reduceAdd, Nat.reduceLeDiff, Int.reduceEq, Bool.and_self] | split)
     all_goals exact .mk (j + 1, min (s + (1 + known.getD a.toNat default)) 67108865, _) ⟨h1', h2', intc rfl (by dsimp only <;> omega), h11, h12, rfl, rfl, hlt, by dsimp only; omega, by dsimp only; omega, hc⟩ (by dsimp only; omega)
    ·rw [if_neg (by omega), if_neg (by omega), if_neg (by omega)] at hc hrg
     repeat' (first | refine And.intro (by omega) ?_ | simp -implicitDefEqProofs (disch := omega) only [h7, h11, h12, h13, hrow, Nat.zero_add, List.length_map, zAl, zL, zX, push_cast, ↓reduceIte, Nat.reduceEqDiff, Nat.reduceAdd, Nat.reduceLeDiff, Bool.and_self] | split)
     all_goals exact .mk (j + 1, min (s + (1)) 67108865, _) ⟨h1', h2', intc rfl (by dsimp only <;> omega), h11, h12, rfl, rfl, hlt, by dsimp only; omega, by dsimp only; omega, hc⟩ (by dsimp only; omega)
 ·have e : j = l.length := by omega
  subst e
  rw [List.drop_length] at hc
  simp only [zAX] at hc
  repeat' (simp -implicitDefEqProofs (disch := omega) only [h7, h12, h13, zV, push_cast, ↓reduceIte, Nat.reduceEqDiff])
  exact ⟨by rw [hc], _, rfl⟩
noncomputable def zCy (ps : List Pr) : Bool := @decide (validP ps) (Classical.propDecidable _)
theorem zCx {ps : List Pr} : zCy ps = true ↔ validP ps := by unfold zCy; exact @decide_eq_true_iff _ (Classical.propDecidable _)
theorem validB_f {ps : List Pr} (h : ¬ validP ps) : zCy ps = false := by
 cases hb : zCy ps with
 | false => rfl
 | true => exact absurd (zCx.1 hb) h
theorem pr_drop1 (q : Pr) : (prR q).drop 1 = [int q.par, int q.slots, int q.res, .sl 1 (q.outs.map iR), .sl 5 (q.body.map zAt)] := rfl
theorem zBJ (q : Pr) : (prR q).drop 2 = [int q.slots, int q.res, .sl 1 (q.outs.map iR), .sl 5 (q.body.map zAt)] := rfl
theorem zC6 (q : Pr) : (prR q).drop 3 = [int q.res, .sl 1 (q.outs.map iR), .sl 5 (q.body.map zAt)] := rfl
theorem zA0 (q : Pr) : (prR q).drop 4 = [.sl 1 (q.outs.map iR), .sl 5 (q.body.map zAt)] := rfl
theorem zBm (q : Pr) : (prR q).drop 5 = [.sl 5 (q.body.map zAt)] := rfl
theorem zBK (q : Pr) : (prR q).drop 0 = [str q.name, int q.par, int q.slots, int q.res, .sl 1 (q.outs.map iR), .sl 5 (q.body.map zAt)] := rfl
set_option maxHeartbeats 8000000 in
theorem codeValidR (ps : List Pr) (hs : CodeSml ps) (H : zC) : zBg 7 [.agg [zA6 ps]] H (bool (zCy ps)) := by
 obtain ⟨hs1, hs2, hs3⟩ := hs
 refine ACall.drop (R := fun x => x = bool (zCy ps)) ?_
 refine enter Tryz.func7 L7_ok (Nat.le_of_ble_eq_true rfl) ?_
 by_cases h8 : ps.length ≤ 8
 ·repeat' (simp -implicitDefEqProofs (disch := omega) only [L7, zAl, List.length_map, zV, push_cast, ↓reduceIte, Nat.reduceEqDiff, Nat.reduceAdd, Nat.reduceLeDiff, Int.reduceNeg, Bool.and_self])
  refine zAj (fun (st : Nat × zC) e' H' => e' 1 = .ptr H.length 0 0 ∧ e' 3 = int (zAU (ps.take st.1) : Nat) ∧ e' 4 = int st.1 ∧ H' = H ++ st.2 ∧ 1 ≤ st.2.length ∧ st.2[0]? = some (.box [zA6 ps]) ∧ st.1 ≤ ps.length ∧ ∀ i, i < st.1 → prP ps i) (fun st => ps.length - st.1) (0, [HO.box [zA6 ps]]) ?_ ?_
  ·exact ⟨rfl, rfl, rfl, rfl, by simp, rfl, Nat.zero_le _, fun i hi => by simp only at hi; omega⟩
  rintro ⟨j, ext⟩ e' H' ⟨h1, h3, h4, rfl, hel, g1, hj, hall⟩
  simp only at h3 h4 hel g1 hj hall
  by_cases hlt : j < ps.length
  ·obtain ⟨m1, m2, m3⟩ := hs3 _ (zAo hlt)
   have hfail : ¬ prP ps j → zCy ps = false := fun hn => validB_f fun hv => hn (hv.2 j hlt)
   repeat' (first | refine And.intro (by omega) ?_ | simp -implicitDefEqProofs (disch := omega) only [h1, h4, g1, zJ, zAl, zAO, zP, zCo, pr_c1s, List.length_map, zL, push_cast, ↓reduceIte, Nat.reduceEqDiff, Nat.reduceAdd, Nat.reduceLeDiff, Int.reduceNeg, Bool.and_self])
   have gA : (ext ++ [HO.box (prR (ps.getD j default))])[0]? = some (.box [zA6 ps]) := by rw [zB (by omega)]; exact g1
   have gB : (ext ++ [HO.box (prR (ps.getD j default))])[ext.length]? = some (.box (prR (ps.getD j default))) := by simp
   have hle : 2 ≤ (ext ++ [HO.box (prR (ps.getD j default))]).length := by simp; omega
   have hpre : ∃ z, ext ++ [HO.box (prR (ps.getD j default))] = z := ⟨_, rfl⟩
   generalize ext ++ [HO.box (prR (ps.getD j default))] = ext2 at *
   refine zAj (fun (i : Nat) e' H' => e' 1 = .ptr H.length 0 0 ∧ e' 3 = int (zAU (ps.take j) : Nat) ∧ e' 4 = int j ∧ e' 5 = .ptr (H.length + ext.length) 0 0 ∧ e' 6 = int i ∧ H' = H ++ ext2 ∧ i ≤ j ∧ ∀ i', i' < i → ¬ (ps.getD i' default).name = (ps.getD j default).name) (fun i => j - i) 0 ?_ ?_
   ·exact ⟨h1, h3, h4, rfl, rfl, rfl, Nat.zero_le _, fun i hi => by omega⟩
   clear h1 h3 h4
   rintro i e' H' ⟨h1, h3, h4, h5, h6, rfl, hi, hne⟩
   by_cases hlt2 : i < j
   ·by_cases hnm : (ps.getD i default).name = (ps.getD j default).name
    ·rw [hfail fun hp => hp.1.2 i hlt2 hnm]
     repeat' (first | refine And.intro (by omega) ?_ | simp -implicitDefEqProofs (disch := omega) only [h1, h4, h5, h6, gA, gB, zJ, zAO, zP, zBK, List.length_map, hnm, zL, push_cast, ↓reduceIte, Nat.reduceEqDiff, Nat.reduceAdd, Nat.reduceLeDiff, Int.reduceNeg])
     exact ⟨_, rfl⟩
    ·repeat' (first | refine And.intro (by omega) ?_ | simp -implicitDefEqProofs (disch := omega) only [h1, h4, h5, h6, gA, gB, zJ, zAO, zP, zBK, List.length_map, hnm, zL, push_cast, ↓reduceIte, Nat.reduceEqDiff, Nat.reduceAdd, Nat.reduceLeDiff, Int.reduceNeg])
     exact .mk (i + 1) ⟨h1, h3, h4, h5, rfl, rfl, hlt2, zBh hne hnm⟩ (by omega)
   ·have e : i = j := by omega
    subst e
    cases hN : isName (ps.getD i default).name with
    | false =>
     rw [hfail fun hp => by rw [hp.1.1] at hN; cases hN]
     repeat' (first | refine zA (nameR (ps.getD i default).name _ (by omega)) ?_ | simp -implicitDefEqProofs (disch := omega) only [h4, h5, h6, gB, zP, zBK, hN, zV, push_cast, ↓reduceIte, Nat.reduceEqDiff, Nat.reduceAdd, Nat.reduceLeDiff, Int.reduceNeg])
     exact ⟨_, rfl⟩
    | true =>
     by_cases hP : 0 ≤ (ps.getD i default).par ∧ (ps.getD i default).par ≤ (ps.getD i default).slots ∧ (ps.getD i default).slots ≤ 1024 ∧ -1 ≤ (ps.getD i default).res ∧ (ps.getD i default).res ≤ 128 ∧ (ps.getD i default).outs.length ≤ 128 ∧ ((ps.getD i default).res = -1 ∨ (ps.getD i default).outs.length = 0)
     ·obtain ⟨q1, q2, q3, q4, q5, q6, q7⟩ := hP
      by_cases hrs : (ps.getD i default).res = -1
      ·repeat' (first | refine zA (nameR (ps.getD i default).name _ (by omega)) ?_ | simp -implicitDefEqProofs (disch := omega) only [h4, h5, h6, gB, zP, zBK, pr_drop1, zBJ, zC6, zA0, List.length_map, hN, zV, zAa, push_cast, ↓reduceIte, Nat.reduceEqDiff, Nat.reduceAdd, Nat.reduceLeDiff, Int.reduceNeg])
       refine zAj (fun (m : Nat) e' H' => e' 1 = .ptr H.length 0 0 ∧ e' 3 = int (zAU (ps.take i) : Nat) ∧ e' 4 = int i ∧ e' 5 = .ptr (H.length + ext.length) 0 0 ∧ e' 7 = int m ∧ H' = H ++ ext2 ∧ m ≤ (ps.getD i default).outs.length ∧ ∀ m', m' < m → 0 ≤ (ps.getD i default).outs.getD m' default ∧ (ps.getD i default).outs.getD m' default < (ps.getD i default).slots) (fun m => (ps.getD i default).outs.length - m) 0 ?_ ?_
       ·exact ⟨h1, h3, h4, h5, rfl, rfl, Nat.zero_le _, fun m hm => by omega⟩
       clear h1 h3 h4 h5 h6
       rintro m e' H' ⟨h1, h3, h4, h5, h7, rfl, hm, hout⟩
       by_cases hlt3 : m < (ps.getD i default).outs.length
       ·have hor : ((ps.getD i default).outs.map iR).getD m [] = [int ((ps.getD i default).outs.getD m default)] := zU hlt3
        by_cases hO : 0 ≤ (ps.getD i default).outs.getD m default ∧ (ps.getD i default).outs.getD m default < (ps.getD i default).slots
        ·repeat' (first | refine And.intro (by omega) ?_ | simp -implicitDefEqProofs (disch := omega) only [h5, h7, gB, zP, zBJ, zA0, hor, List.length_map, zL, zV, zAB, push_cast, ↓reduceIte, Nat.reduceEqDiff, Nat.reduceAdd, Nat.reduceLeDiff])
         exact .mk (m + 1) ⟨h1, h3, h4, h5, rfl, rfl, hlt3, zBh hout hO⟩ (by omega)
        ·rw [hfail fun hp => hO (hp.2.1.2.2.2.2.2.2.2 _ (zAo hlt3))]
         repeat' (first | refine And.intro (by omega) ?_ | simp -implicitDefEqProofs (disch := omega) only [h5, h7, gB, zP, zBJ, zA0, hor, List.length_map, zL, zV, zAf, push_cast, ↓reduceIte, Nat.reduceEqDiff, Nat.reduceAdd, Nat.reduceLeDiff] | split)
         all_goals first | exact ⟨_, rfl⟩ | (exfalso; omega)
       ·have e : m = (ps.getD i default).outs.length := by omega
        subst e
        have hout' : ∀ s ∈ (ps.getD i default).outs, 0 ≤ s ∧ s < (ps.getD i default).slots := by
         intro s hs
         obtain ⟨m, hm, rfl⟩ := List.mem_iff_getElem.1 hs
         have := hout m hm
         have e : (ps.getD i default).outs.getD m default = (ps.getD i default).outs[m] := by rw [List.getD_eq_getElem?_getD, List.getElem?_eq_getElem hm]; rfl
         rw [e] at this
         exact this
        have hH : zCw (ps.getD i default) := ⟨q1, q2, q3, q4, q5, q6, q7.imp id List.length_eq_zero_iff.1, hout'⟩
        have hsn := zCk hlt
        have hpt := pcnts_take ps (i + 1)
        have cE := fun H => effR ps i hlt hs1 (prsOk_of hall) hH (ps.getD i default).body m3 true H
        have cC := fun H => cntR (ps.getD i default).body m3 H
        have cL := fun H => levR (ps.getD i default).body m3 H
        by_cases hA : zAU (ps.take (i + 1)) ≤ 32768 ∧ zAI (ps.getD i default).body ≤ 256
        ·cases hE : zBT ps i (ps.getD i default).body true 0 with
         | none =>
          rw [hfail fun hp => by have := hp.2.2.2.2; rw [hE] at this; cases this]
          rw [hE] at cE
          simp only [effV] at cE
          repeat' (first | refine zA (cC _) ?_ | refine zA (cL _) ?_ | refine zA (cE _) ?_ | simp -implicitDefEqProofs (disch := omega) only [h1, h3, h4, h5, h7, gA, gB, zJ, zP, zA0, zBm, List.length_map, zV, push_cast, ↓reduceIte, Nat.reduceEqDiff, reduceCtorEq, Nat.reduceAdd, Nat.reduceLeDiff, Int.reduceNeg])
          exact ⟨_, rfl⟩
         | some y =>
          rw [hE] at cE
          simp only [effV] at cE
          by_cases hy : y = 0
          ·subst hy
           have hok : prP ps i := ⟨⟨hN, hne⟩, hH, hA.1, hA.2, hE⟩
           repeat' (first | refine zA (cC _) ?_ | refine zA (cL _) ?_ | refine zA (cE _) ?_ | simp -implicitDefEqProofs (disch := omega) only [h1, h3, h4, h5, h7, gA, gB, zJ, zP, zA0, zBm, List.length_map, zV, push_cast, ↓reduceIte, Nat.reduceEqDiff, Nat.reduceAdd, Nat.reduceLeDiff])
           exact .mk (i + 1, ext2) ⟨h1, intc rfl (by dsimp only <;> omega), rfl, rfl, by dsimp only; omega, gA, hlt, zBh hall hok⟩ (by dsimp only; omega)
          ·rw [hfail fun hp => by have := hp.2.2.2.2; rw [hE] at this; exact hy (by simpa using this)]
           repeat' (first | refine zA (cC _) ?_ | refine zA (cL _) ?_ | refine zA (cE _) ?_ | simp -implicitDefEqProofs (disch := omega) only [h1, h3, h4, h5, h7, gA, gB, zJ, zP, zA0, zBm, List.length_map, zV, zX, push_cast, ↓reduceIte, Nat.reduceEqDiff, Nat.reduceAdd, Nat.reduceLeDiff])
           exact ⟨_, rfl⟩
        ·rw [hfail fun hp => hA ⟨hp.2.2.1, hp.2.2.2.1⟩]
         repeat' (first | refine zA (cC _) ?_ | refine zA (cL _) ?_ | simp -implicitDefEqProofs (disch := omega) only [h3, h5, h7, gB, zP, zA0, zBm, List.length_map, zL, zV, push_cast, ↓reduceIte, Nat.reduceEqDiff, Nat.reduceAdd, Nat.reduceLeDiff] | split)
         all_goals first | exact ⟨_, rfl⟩ | (exfalso; omega)
      ·repeat' (first | refine zA (nameR (ps.getD i default).name _ (by omega)) ?_ | simp -implicitDefEqProofs (disch := omega) only [h4, h5, h6, gB, zP, zBK, pr_drop1, zBJ, zC6, zA0, List.length_map, hN, zV, zX, push_cast, ↓reduceIte, Nat.reduceEqDiff, Nat.reduceAdd, Nat.reduceLeDiff, Int.reduceNeg])
       refine zAj (fun (m : Nat) e' H' => e' 1 = .ptr H.length 0 0 ∧ e' 3 = int (zAU (ps.take i) : Nat) ∧ e' 4 = int i ∧ e' 5 = .ptr (H.length + ext.length) 0 0 ∧ e' 7 = int m ∧ H' = H ++ ext2 ∧ m ≤ (ps.getD i default).outs.length ∧ ∀ m', m' < m → 0 ≤ (ps.getD i default).outs.getD m' default ∧ (ps.getD i default).outs.getD m' default < (ps.getD i default).slots) (fun m => (ps.getD i default).outs.length - m) 0 ?_ ?_
       ·exact ⟨h1, h3, h4, h5, rfl, rfl, Nat.zero_le _, fun m hm => by omega⟩
       clear h1 h3 h4 h5 h6
       rintro m e' H' ⟨h1, h3, h4, h5, h7, rfl, hm, hout⟩
       by_cases hlt3 : m < (ps.getD i default).outs.length
       ·exfalso; omega
       ·have e : m = (ps.getD i default).outs.length := by omega
        subst e
        have hout' : ∀ s ∈ (ps.getD i default).outs, 0 ≤ s ∧ s < (ps.getD i default).slots := by
         intro s hs
         obtain ⟨m, hm, rfl⟩ := List.mem_iff_getElem.1 hs
         have := hout m hm
         have e : (ps.getD i default).outs.getD m default = (ps.getD i default).outs[m] := by rw [List.getD_eq_getElem?_getD, List.getElem?_eq_getElem hm]; rfl
         rw [e] at this
         exact this
        have hH : zCw (ps.getD i default) := ⟨q1, q2, q3, q4, q5, q6, q7.imp id List.length_eq_zero_iff.1, hout'⟩
        have hsn := zCk hlt
        have hpt := pcnts_take ps (i + 1)
        have cE := fun H => effR ps i hlt hs1 (prsOk_of hall) hH (ps.getD i default).body m3 true H
        have cC := fun H => cntR (ps.getD i default).body m3 H
        have cL := fun H => levR (ps.getD i default).body m3 H
        by_cases hA : zAU (ps.take (i + 1)) ≤ 32768 ∧ zAI (ps.getD i default).body ≤ 256
        ·cases hE : zBT ps i (ps.getD i default).body true 0 with
         | none =>
          rw [hfail fun hp => by have := hp.2.2.2.2; rw [hE] at this; cases this]
          rw [hE] at cE
          simp only [effV] at cE
          repeat' (first | refine zA (cC _) ?_ | refine zA (cL _) ?_ | refine zA (cE _) ?_ | simp -implicitDefEqProofs (disch := omega) only [h1, h3, h4, h5, h7, gA, gB, zJ, zP, zA0, zBm, List.length_map, zV, push_cast, ↓reduceIte, Nat.reduceEqDiff, reduceCtorEq, Nat.reduceAdd, Nat.reduceLeDiff, Int.reduceNeg])
          exact ⟨_, rfl⟩
         | some y =>
          rw [hE] at cE
          simp only [effV] at cE
          by_cases hy : y = 0
          ·subst hy
           have hok : prP ps i := ⟨⟨hN, hne⟩, hH, hA.1, hA.2, hE⟩
           repeat' (first | refine zA (cC _) ?_ | refine zA (cL _) ?_ | refine zA (cE _) ?_ | simp -implicitDefEqProofs (disch := omega) only [h1, h3, h4, h5, h7, gA, gB, zJ, zP, zA0, zBm, List.length_map, zV, push_cast, ↓reduceIte, Nat.reduceEqDiff, Nat.reduceAdd, Nat.reduceLeDiff])
           exact .mk (i + 1, ext2) ⟨h1, intc rfl (by dsimp only <;> omega), rfl, rfl, by dsimp only; omega, gA, hlt, zBh hall hok⟩ (by dsimp only; omega)
          ·rw [hfail fun hp => by have := hp.2.2.2.2; rw [hE] at this; exact hy (by simpa using this)]
           repeat' (first | refine zA (cC _) ?_ | refine zA (cL _) ?_ | refine zA (cE _) ?_ | simp -implicitDefEqProofs (disch := omega) only [h1, h3, h4, h5, h7, gA, gB, zJ, zP, zA0, zBm, List.length_map, zV, zX, push_cast, ↓reduceIte, Nat.reduceEqDiff, Nat.reduceAdd, Nat.reduceLeDiff])
           exact ⟨_, rfl⟩
        ·rw [hfail fun hp => hA ⟨hp.2.2.1, hp.2.2.2.1⟩]
         repeat' (first | refine zA (cC _) ?_ | refine zA (cL _) ?_ | simp -implicitDefEqProofs (disch := omega) only [h3, h5, h7, gB, zP, zA0, zBm, List.length_map, zL, zV, push_cast, ↓reduceIte, Nat.reduceEqDiff, Nat.reduceAdd, Nat.reduceLeDiff] | split)
         all_goals first | exact ⟨_, rfl⟩ | (exfalso; omega)
     ·rw [hfail fun hp => hP (by
       obtain ⟨_, ⟨q1, q2, q3, q4, q5, q6, q7, _⟩, _⟩ := hp
       exact ⟨q1, q2, q3, q4, q5, q6, q7.imp id fun h => by rw [h]; rfl⟩)]
      repeat' (first | refine zA (nameR (ps.getD i default).name _ (by omega)) ?_ | simp -implicitDefEqProofs (disch := omega) only [h4, h5, h6, gB, zP, zBK, pr_drop1, zBJ, zC6, zA0, List.length_map, hN, zL, zV, zX, push_cast, ↓reduceIte, Nat.reduceEqDiff, Nat.reduceAdd, Nat.reduceLeDiff, Int.reduceNeg] | split)
      all_goals first | exact ⟨_, rfl⟩ | (exfalso; omega)
  ·have e : j = ps.length := by omega
   subst e
   rw [zCx.2 ⟨h8, hall⟩]
   repeat' (simp -implicitDefEqProofs (disch := omega) only [h1, h4, g1, zJ, List.length_map, zV, push_cast, ↓reduceIte, Nat.reduceEqDiff, Nat.reduceAdd, Nat.reduceLeDiff, Int.reduceNeg])
   exact ⟨_, rfl⟩
 ·rw [validB_f fun hv => h8 hv.1]
  repeat' (simp -implicitDefEqProofs (disch := omega) only [L7, zAl, List.length_map, zL, push_cast, ↓reduceIte, Nat.reduceEqDiff, Nat.reduceAdd, Nat.reduceLeDiff, Int.reduceNeg, Bool.and_self])
  exact ⟨_, rfl⟩
theorem smallCR (ps : List Pr) (hs : CodeSml ps) (H : zC) : ∃ b, zBg 6 [.agg [zA6 ps]] H (bool b) := by
 obtain ⟨hs1, hs2, hs3⟩ := hs
 by_cases hall : ∀ i, i < ps.length → (ps.getD i default).name.length ≤ 60 ∧ (ps.getD i default).outs.length ≤ 200
 ·refine ⟨decide (ps.length ≤ 20 ∧ zAU ps ≤ 500), ACall.drop (R := fun x => x = bool (decide (ps.length ≤ 20 ∧ zAU ps ≤ 500))) ?_⟩
  refine enter Tryz.func6 L6_ok (Nat.le_of_ble_eq_true rfl) ?_
  repeat' (simp -implicitDefEqProofs (disch := omega) only [L6, zAl, push_cast, ↓reduceIte, Nat.reduceAdd, Bool.and_self])
  refine zAj (fun (j : Nat) e' H' => e' 1 = .ptr H.length 0 0 ∧ e' 3 = int (zAU (ps.take j) : Nat) ∧ e' 4 = int j ∧ H' = H ++ [.box [zA6 ps]] ∧ j ≤ ps.length) (fun j => ps.length - j) 0 ?_ ?_
  ·exact ⟨rfl, rfl, rfl, rfl, Nat.zero_le _⟩
  rintro j e' H' ⟨h1, h3, h4, rfl, hj⟩
  by_cases hlt : j < ps.length
  ·obtain ⟨m1, m2, m3⟩ := hs3 _ (zAo hlt)
   obtain ⟨n1, n2⟩ := hall j hlt
   have hsn := zCk hlt
   have hpt := pcnts_take ps (j + 1)
   repeat' (first | refine And.intro (by omega) ?_ | refine zA (cntR (ps.getD j default).body m3 _) ?_ | simp -implicitDefEqProofs (disch := omega) only [h1, h3, h4, zAO, zP, zBK, zA0, zBm, List.length_map, zL, zV, push_cast, ↓reduceIte, Nat.reduceEqDiff, Nat.reduceAdd, Nat.reduceLeDiff])
   exact .mk (j + 1) ⟨h1, intc rfl (by omega), rfl, rfl, hlt⟩ (by omega)
  ·have e : j = ps.length := by omega
   subst e
   rw [List.take_length] at h3
   by_cases hc : ps.length ≤ 20
   ·by_cases hd : zAU ps ≤ 500
    ·rw [decide_eq_true ⟨hc, hd⟩]
     repeat' (simp -implicitDefEqProofs (disch := omega) only [h1, h3, h4, List.length_map, zV, zAf, push_cast, ↓reduceIte, Nat.reduceEqDiff, Nat.reduceAdd, Nat.reduceLeDiff])
     exact ⟨_, rfl⟩
    ·rw [decide_eq_false fun hh => hd hh.2]
     repeat' (simp -implicitDefEqProofs (disch := omega) only [h1, h3, h4, List.length_map, zV, zAf, zAB, push_cast, ↓reduceIte, Nat.reduceEqDiff, Nat.reduceAdd, Nat.reduceLeDiff])
     exact ⟨_, rfl⟩
   ·rw [decide_eq_false fun hh => hc hh.1]
    repeat' (simp -implicitDefEqProofs (disch := omega) only [h1, h4, List.length_map, zV, zAB, push_cast, ↓reduceIte, Nat.reduceEqDiff, Nat.reduceAdd, Nat.reduceLeDiff])
    exact ⟨_, rfl⟩
 ·refine ⟨false, ACall.drop (R := fun x => x = bool false) ?_⟩
  refine enter Tryz.func6 L6_ok (Nat.le_of_ble_eq_true rfl) ?_
  repeat' (simp -implicitDefEqProofs (disch := omega) only [L6, zAl, push_cast, ↓reduceIte, Nat.reduceAdd, Bool.and_self])
  refine zAj (fun (j : Nat) e' H' => e' 1 = .ptr H.length 0 0 ∧ e' 3 = int (zAU (ps.take j) : Nat) ∧ e' 4 = int j ∧ H' = H ++ [.box [zA6 ps]] ∧ j ≤ ps.length ∧ ∀ i, i < j → (ps.getD i default).name.length ≤ 60 ∧ (ps.getD i default).outs.length ≤ 200) (fun j => ps.length - j) 0 ?_ ?_
  ·exact ⟨rfl, rfl, rfl, rfl, Nat.zero_le _, fun i hi => by omega⟩
  rintro j e' H' ⟨h1, h3, h4, rfl, hj, hup⟩
  by_cases hlt : j < ps.length
  ·obtain ⟨m1, m2, m3⟩ := hs3 _ (zAo hlt)
   have hsn := zCk hlt
   have hpt := pcnts_take ps (j + 1)
   by_cases hjn : (ps.getD j default).name.length ≤ 60 ∧ (ps.getD j default).outs.length ≤ 200
   ·repeat' (first | refine And.intro (by omega) ?_ | refine zA (cntR (ps.getD j default).body m3 _) ?_ | simp -implicitDefEqProofs (disch := omega) only [h1, h3, h4, zAO, zP, zBK, zA0, zBm, List.length_map, zL, zV, push_cast, ↓reduceIte, Nat.reduceEqDiff, Nat.reduceAdd, Nat.reduceLeDiff])
    exact .mk (j + 1) ⟨h1, intc rfl (by omega), rfl, rfl, hlt, zBh hup hjn⟩ (by omega)
   ·repeat' (first | refine And.intro (by omega) ?_ | refine zA (cntR (ps.getD j default).body m3 _) ?_ | simp -implicitDefEqProofs (disch := omega) only [h1, h3, h4, zAO, zP, zBK, zA0, zBm, List.length_map, zL, zV, push_cast, ↓reduceIte, Nat.reduceEqDiff, Nat.reduceAdd, Nat.reduceLeDiff] | split)
    all_goals first | exact ⟨_, rfl⟩ | (exfalso; omega)
  ·have e : j = ps.length := by omega
   subst e
   exact absurd hup hall
noncomputable def costA (ps : List Pr) (p L : Int) : AV :=
 if zCy ps = false then .tup [int 0, int 1] else if p < 0 ∨ ps.length ≤ p then .tup [int 0, int 7] else if L < 0 ∨ 8 < L then .tup [int 0, int 2] else .tup [int (costF ps p.toNat L), int 0]
abbrev wrongV : Value := .iface 56 (.agg #[])
theorem mustX (b : Bool) (H : zC) : ACallX Tryz.prog 25 [bool b] H (fun x H' => b = true ∧ H' = H) fun z H' => b = false ∧ z = wrongV ∧ H' = H := by
 refine enterX Tryz.func25 L25_ok (Nat.le_of_ble_eq_true rfl) ?_
 cases b with
 | true =>
  repeat' (simp -implicitDefEqProofs (disch := omega) only [L25, push_cast, ↓reduceIte, reduceCtorEq, Nat.reduceAdd])
  simp [zAQ]
 | false =>
  repeat' (simp -implicitDefEqProofs (disch := omega) only [L25, rBuild, fillA, valA_agg, valsA_nil, Option.map_some, push_cast, ↓reduceIte, Nat.reduceAdd])
theorem resultsC (q : Pr) (hs : q.outs.length ≤ 1048576) (H : zC) : zBg 75 [.agg (prR q)] H (int (zCO q)) := by
 refine ACall.drop (R := fun x => x = int (zCO q)) ?_
 refine enter Tryz.func75 L75_ok (Nat.le_of_ble_eq_true rfl) ?_
 unfold zCO
 by_cases h : 0 ≤ q.res
 ·rw [if_pos h]
  repeat' (simp -implicitDefEqProofs (disch := omega) only [L75, zAl, prR, h, push_cast, ↓reduceIte, Nat.reduceEqDiff, Nat.reduceAdd, Nat.reduceLeDiff, Bool.and_self])
  exact ⟨_, rfl⟩
 ·rw [if_neg h]
  repeat' (simp -implicitDefEqProofs (disch := omega) only [L75, zAl, prR, h, List.length_map, push_cast, ↓reduceIte, Nat.reduceEqDiff, Nat.reduceAdd, Nat.reduceLeDiff, Bool.and_self])
  exact ⟨_, rfl⟩
theorem needX (h n c : Int) (hh : 0 ≤ h ∧ h ≤ 1024) (hc : -2048 ≤ c ∧ c ≤ 2048) (a : Nat) (G : zC) (hg : G[a]? = some (.box [int h])) :
  ACallX Tryz.prog 73 [int n, int c, .ptr a 0 0] G (fun _ G' => (n ≤ h ∧ h + c ≤ 1024) ∧ G' = G.set a (.box [int (h + c)])) fun z G' => z = wrongV ∧ ¬ (n ≤ h ∧ h + c ≤ 1024) ∧ (G' = G ∨ G' = G.set a (.box [int (h + c)])) := by
 have ha := (List.getElem?_eq_some_iff.1 hg).1
 refine enterX Tryz.func73 L73_ok (Nat.le_of_ble_eq_true rfl) ?_
 by_cases h1 : n ≤ h
 ·repeat' (simp -implicitDefEqProofs (disch := omega) only [L73, hg, zAf, push_cast, ↓reduceIte, Nat.reduceEqDiff, reduceCtorEq, Nat.reduceAdd, Nat.reduceLeDiff])
  refine zG (mustX _ _) ?_ ?_
  ·rintro x H' ⟨_, rfl⟩
   repeat' (simp -implicitDefEqProofs (disch := omega) only [hg, zI, splice, push_cast, ↓reduceIte, Nat.reduceEqDiff, reduceCtorEq, Nat.reduceAdd, Nat.reduceLeDiff, Bool.and_self])
   refine zG (mustX _ _) ?_ ?_
   ·rintro x H' ⟨hb, rfl⟩
    rw [decide_eq_true_eq] at hb
    repeat' (simp -implicitDefEqProofs (disch := omega) only [zAf, push_cast])
    simp [zAQ, L73, h1, hb]
   ·rintro x H' ⟨hb, rfl, rfl⟩
    rw [decide_eq_false_iff_not] at hb
    repeat' (simp -implicitDefEqProofs (disch := omega) only [zAB, push_cast])
    first | omega | exact fun hh => absurd hh.2 hb
  ·rintro x H' ⟨hb, _, _⟩
   cases hb
 ·repeat' (simp -implicitDefEqProofs (disch := omega) only [L73, hg, zAB, push_cast, ↓reduceIte, Nat.reduceEqDiff, reduceCtorEq, Nat.reduceAdd, Nat.reduceLeDiff])
  refine zG (mustX _ _) ?_ ?_
  ·rintro x H' ⟨hb, _⟩
   cases hb
  ·rintro x H' ⟨hb, rfl, rfl⟩
   repeat' (simp -implicitDefEqProofs (disch := omega) only [push_cast])
   first | omega | exact fun hh => absurd hh.1 h1
theorem zCe (s : Int) (q : Pr) (a : Nat) (G : zC) (hg : G[a]? = some (.box (prR q))) : ACall Tryz.prog 74 [int s, .ptr a 0 0] G fun x G' => x = bool (decide (0 ≤ s ∧ s < q.slots)) ∧ G' = G := by
 refine enter Tryz.func74 L74_ok (Nat.le_of_ble_eq_true rfl) ?_
 by_cases h1 : 0 ≤ s
 ·by_cases h2 : s < q.slots
  ·rw [decide_eq_true ⟨h1, h2⟩]
   repeat' (simp -implicitDefEqProofs (disch := omega) only [L74, hg, zBJ, zP, zL, zAf, push_cast, ↓reduceIte, Nat.reduceEqDiff, reduceCtorEq, Nat.reduceAdd, Nat.reduceLeDiff])
  ·rw [decide_eq_false fun hh => h2 hh.2]
   repeat' (simp -implicitDefEqProofs (disch := omega) only [L74, hg, zBJ, zP, zV, zAf, push_cast, ↓reduceIte, Nat.reduceEqDiff, reduceCtorEq, Nat.reduceAdd, Nat.reduceLeDiff])
 ·rw [decide_eq_false fun hh => h1 hh.1]
  repeat' (simp -implicitDefEqProofs (disch := omega) only [L74, zAB, push_cast, ↓reduceIte, Nat.reduceEqDiff, reduceCtorEq, Nat.reduceAdd])
structure Fr1 (r : Nat) (G G' : zC) : Prop where
 le : G.length ≤ G'.length
 keep : ∀ i, i < G.length → i ≠ r → G'[i]? = G[i]?
theorem Fr1.refl {r : Nat} {G : zC} : Fr1 r G G := ⟨Nat.le_refl _, fun _ _ _ => rfl⟩
theorem Fr1.trans {r : Nat} {G G' G'' : zC} (h : Fr1 r G G') (h' : Fr1 r G' G'') : Fr1 r G G'' :=
 ⟨Nat.le_trans h.1 h'.1, fun i hi hne => (h'.2 i (Nat.lt_of_lt_of_le hi h.1) hne).trans (h.2 i hi hne)⟩
theorem Fr1.app {r : Nat} {G : zC} (ext : zC) : Fr1 r G (G ++ ext) := ⟨by simp, fun i hi _ => zB hi⟩
theorem Fr1.set {r : Nat} {G : zC} (x : HO) : Fr1 r G (G.set r x) := ⟨by simp, fun i hi hne => zF fun e => hne e.symm⟩
theorem Fr1.set' {r i : Nat} {G G' : zC} (h : Fr1 r G G') (hi : G.length ≤ i) (x : HO) : Fr1 r G (G'.set i x) :=
 ⟨by simpa using h.1, fun j hj hne => by rw [zF (by omega)]; exact h.2 j hj hne⟩
theorem zAG (l : List Ins) (j : Nat) : zAI (l.take j) ≤ zAI l := by
 have h := ilevs_append (l.take j) (l.drop j)
 rw [List.take_append_drop] at h
 omega
def goodL (ps : List Pr) (k : Nat) (l : List Ins) (out : Bool) (level c : Int) : Prop := (∃ e, zBT ps k l out 0 = some e) ∧ c + zQ l ≤ 32768 ∧ level + zAI l ≤ 257
def effP (ps : List Pr) (k : Nat) (l : List Ins) : Prop := ∀ (out : Bool) (level c : Int) (G : zC) (r : Nat), G[r]? = some (.box [zA6 ps, int k, int c]) → 0 ≤ c → c ≤ 32768 → 1 ≤ level → level ≤ 257 →
 ACallX Tryz.prog 46 [.ptr r 0 0, .sl 5 (l.map zAt), bool out, int level] G (fun x G' => ∃ e, x = int e ∧ zBT ps k l out 0 = some e ∧ c + zQ l ≤ 32768 ∧ level + zAI l ≤ 257 ∧ Fr1 r G G' ∧ G'[r]? = some (.box [zA6 ps, int k, int (c + zQ l)]))
  fun z G' => z = wrongV ∧ ¬ goodL ps k l out level c ∧ Fr1 r G G'
section
variable {ps : List Pr} {k : Nat} {o a b : Int} {bd el : List Ins} {out : Bool} {h n c h' : Int}
theorem zBp (h18 : ¬ o = 18) (h19 : ¬ o = 19) (he : zCu ps k o a out h = chg h n c) : zCt ps k (.mk o a b bd el) out h = some h' ↔ zR (ps.getD k default).slots o a b (bd.isEmpty && el.isEmpty) ∧ n ≤ h ∧ h + c ≤ 1024 ∧ h' = h + c := by
 simp only [zCt]
 by_cases hf : zR (ps.getD k default).slots o a b (bd.isEmpty && el.isEmpty)
 ·rw [if_pos hf, if_neg h18, if_neg h19, he]
  constructor
  ·intro hh
   have := chg_ok hh
   exact ⟨hf, by omega, by omega, by omega⟩
  ·rintro ⟨_, h1, h2, rfl⟩
   exact chg_t h1 h2
 ·rw [if_neg hf]
  constructor
  ·intro hh; cases hh
  ·intro hh; exact absurd hh.1 hf
theorem zCI : zCt ps k (.mk 18 a b bd el) out h = some h' ↔ a = 0 ∧ b = 0 ∧ 1 ≤ h ∧ ∃ e, zBT ps k bd (out && decide (h = 1)) 0 = some e ∧ zBT ps k el (out && decide (h = 1)) 0 = some e ∧ h + (e - 1) ≤ 1024 ∧ h' = h + (e - 1) := by
 simp only [zCt, if_true]
 have hff : zR (ps.getD k default).slots 18 a b (bd.isEmpty && el.isEmpty) ↔ a = 0 ∧ b = 0 := by
  unfold zR
  constructor
  ·intro hh; omega
  ·intro hh
   refine ⟨?_, ?_, ?_, ?_, ?_, ?_, ?_, ?_⟩ <;> first | omega | (intro h1; omega)
 by_cases hf : a = 0 ∧ b = 0
 ·rw [if_pos (hff.2 hf)]
  by_cases h1 : 1 ≤ h
  ·rw [if_pos h1]
   cases e1 : zBT ps k bd (out && decide (h = 1)) 0 with
   | none => exact ⟨fun hh => (by cases hh), fun ⟨_, _, _, e, hh, _⟩ => (by cases hh)⟩
   | some y1 =>
    cases e2 : zBT ps k el (out && decide (h = 1)) 0 with
    | none => exact ⟨fun hh => (by cases hh), fun ⟨_, _, _, e, _, hh, _⟩ => (by cases hh)⟩
    | some y2 =>
     simp only
     by_cases hy : y1 = y2
     ·subst hy
      rw [if_pos rfl]
      constructor
      ·intro hh
       have := chg_ok hh
       exact ⟨hf.1, hf.2, h1, y1, rfl, rfl, by omega, by omega⟩
      ·rintro ⟨_, _, _, e, g1, _, g2, rfl⟩
       simp only [Option.some.injEq] at g1
       subst g1
       exact chg_t (by omega) g2
     ·rw [if_neg hy]
      exact ⟨fun hh => (by cases hh), fun ⟨_, _, _, e, g1, g2, _⟩ => by simp only [Option.some.injEq] at g1 g2; omega⟩
  ·rw [if_neg h1]
   exact ⟨fun hh => (by cases hh), fun hh => absurd hh.2.2.1 h1⟩
 ·rw [if_neg fun hh => hf (hff.1 hh)]
  exact ⟨fun hh => (by cases hh), fun hh => absurd ⟨hh.1, hh.2.1⟩ hf⟩
theorem eff19 : zCt ps k (.mk 19 a b bd el) out h = some h' ↔ a = 0 ∧ b = 0 ∧ out = true ∧ h = 0 ∧ zBT ps k el false 0 = some 1 ∧ zBT ps k bd true 0 = some 0 ∧ h' = h := by
 simp only [zCt, show ¬ (19 : Int) = 18 by omega, if_true, if_false]
 have hff : zR (ps.getD k default).slots 19 a b (bd.isEmpty && el.isEmpty) ↔ a = 0 ∧ b = 0 := by
  unfold zR
  constructor
  ·intro hh; omega
  ·intro hh
   refine ⟨?_, ?_, ?_, ?_, ?_, ?_, ?_, ?_⟩ <;> first | omega | (intro h1; omega)
 by_cases hf : a = 0 ∧ b = 0
 ·rw [if_pos (hff.2 hf)]
  split
  ·rename_i hc
   simp only [Option.some.injEq]
   exact ⟨fun hh => ⟨hf.1, hf.2, hc.1, hc.2.1, hc.2.2.1, hc.2.2.2, hh.symm⟩, fun hh => hh.2.2.2.2.2.2.symm⟩
  ·rename_i hc
   exact ⟨fun hh => (by cases hh), fun hh => absurd ⟨hh.2.2.1, hh.2.2.2.1, hh.2.2.2.2.1, hh.2.2.2.2.2.1⟩ hc⟩
 ·rw [if_neg fun hh => hf (hff.1 hh)]
  exact ⟨fun hh => (by cases hh), fun hh => absurd ⟨hh.1, hh.2.1⟩ hf⟩
theorem eff20 : zCt ps k (.mk 20 a b bd el) out h = some h' ↔ b = 0 ∧ (bd.length = 0 ∧ el.length = 0) ∧ (0 ≤ a ∧ a < k) ∧ (ps.getD a.toNat default).par ≤ h ∧ h + (zCO (ps.getD a.toNat default) - (ps.getD a.toNat default).par) ≤ 1024 ∧ h' = h + (zCO (ps.getD a.toNat default) - (ps.getD a.toNat default).par) := by
 simp only [zCt, show ¬ (20 : Int) = 18 by omega, show ¬ (20 : Int) = 19 by omega, if_true, if_false]
 have hff : zR (ps.getD k default).slots 20 a b (bd.isEmpty && el.isEmpty) ↔ b = 0 ∧ (bd.length = 0 ∧ el.length = 0) := by
  unfold zR
  rw [zAw, decide_eq_true_eq]
  constructor
  ·intro hh; omega
  ·intro hh
   refine ⟨?_, ?_, ?_, ?_, ?_, ?_, ?_, ?_⟩ <;> first | omega | (intro h1; omega)
 have hes : zCu ps k 20 a out h = if 0 ≤ a ∧ a < k then chg h (ps.getD a.toNat default).par (zCO (ps.getD a.toNat default) - (ps.getD a.toNat default).par) else none := by
  unfold zCu
  rw [if_neg (by omega), if_neg (by omega), if_neg (by omega), if_neg (by omega), if_pos rfl]
 rw [hes]
 by_cases hf : b = 0 ∧ (bd.length = 0 ∧ el.length = 0)
 ·rw [if_pos (hff.2 hf)]
  split
  ·rename_i ha
   constructor
   ·intro hh
    have := chg_ok hh
    exact ⟨hf.1, hf.2, ha, by omega, by omega, by omega⟩
   ·rintro ⟨_, _, _, g1, g2, rfl⟩
    exact chg_t g1 g2
  ·rename_i ha
   exact ⟨fun hh => (by cases hh), fun hh => absurd hh.2.2.1 ha⟩
 ·rw [if_neg fun hh => hf (hff.1 hh)]
  exact ⟨fun hh => (by cases hh), fun hh => absurd ⟨hh.1, hh.2.1⟩ hf⟩
theorem eff21 : zCt ps k (.mk 21 a b bd el) out h = some h' ↔ (a = 0 ∧ b = 0) ∧ (bd.length = 0 ∧ el.length = 0) ∧ out = true ∧ h = max (ps.getD k default).res 0 ∧ h' = 0 := by
 simp only [zCt, show ¬ (21 : Int) = 18 by omega, show ¬ (21 : Int) = 19 by omega, if_true, if_false]
 have hff : zR (ps.getD k default).slots 21 a b (bd.isEmpty && el.isEmpty) ↔ (a = 0 ∧ b = 0) ∧ (bd.length = 0 ∧ el.length = 0) := by
  unfold zR
  rw [zAw, decide_eq_true_eq]
  constructor
  ·intro hh; omega
  ·intro hh
   refine ⟨?_, ?_, ?_, ?_, ?_, ?_, ?_, ?_⟩ <;> first | omega | (intro h1; omega)
 have hes : zCu ps k 21 a out h = if out = true ∧ h = max (ps.getD k default).res 0 then chg h 0 (-h) else none := by
  unfold zCu
  rw [if_neg (by omega), if_neg (by omega), if_neg (by omega), if_neg (by omega), if_neg (by omega), if_pos rfl]
 rw [hes]
 by_cases hf : (a = 0 ∧ b = 0) ∧ (bd.length = 0 ∧ el.length = 0)
 ·rw [if_pos (hff.2 hf)]
  split
  ·rename_i ha
   constructor
   ·intro hh
    have := chg_ok hh
    exact ⟨hf.1, hf.2, ha.1, ha.2, by omega⟩
   ·rintro ⟨_, _, _, g1, rfl⟩
    rw [chg_t (by omega) (by omega)]
    congr 1; omega
  ·rename_i ha
   exact ⟨fun hh => (by cases hh), fun hh => absurd ⟨hh.2.2.1, hh.2.2.2.1⟩ ha⟩
 ·rw [if_neg fun hh => hf (hff.1 hh)]
  exact ⟨fun hh => (by cases hh), fun hh => absurd ⟨hh.1, hh.2.1⟩ hf⟩
end
section
variable {ps : List Pr} {k : Nat} {l : List Ins} {out : Bool} {level c : Int} {r : Nat} {G : zC}
structure EfI (ps : List Pr) (k : Nat) (l : List Ins) (out : Bool) (level c : Int) (r : Nat) (G : zC) (j : Nat) (h : Int) (e' : Env) (G' : zC) : Prop where
 e0 : e' 0 = .ptr r 0 0
 e2 : e' 2 = bool out
 e3 : e' 3 = int level
 e9 : e' 9 = .ptr G.length 0 0
 e10 : e' 10 = .ptr (G.length + 1) 0 0
 e11 : e' 11 = .fn (.func 73) [] [.ptr (G.length + 1) 0 0]
 e12 : e' 12 = .fn (.func 74) [] [.ptr G.length 0 0]
 e42 : e' 42 = .sl 5 (l.map zAt)
 e43 : e' 43 = int l.length
 e44 : e' 44 = int j
 gr : G'[r]? = some (.box [zA6 ps, int k, int (c + zQ (l.take j))])
 g9 : G'[G.length]? = some (.box (prR (ps.getD k default)))
 g10 : G'[G.length + 1]? = some (.box [int h])
 fr : Fr1 r G G'
 gl : G.length + 2 ≤ G'.length
 hj : j ≤ l.length
 hh : 0 ≤ h ∧ h ≤ 1024
 cc : c + zQ (l.take j) ≤ 32768
 lv : level + zAI (l.take j) ≤ 257
 ef : zBT ps k l out 0 = zBT ps k (l.drop j) out h
theorem zBd {x : Ins} {j : Nat} (hlt : j < l.length) (hx : l.getD j default = x) {h : Int} (ef : zBT ps k l out 0 = zBT ps k (l.drop j) out h) (hn : (∀ h', ¬ zCt ps k x out h = some h') ∨ 32768 < c + zQ (l.take j) + zBD x ∨ 257 < level + zCM x) : ¬ goodL ps k l out level c := by
 rintro ⟨⟨e, he⟩, h2, h3⟩
 rw [ef, zAM ps k hlt, hx] at he
 have hb := zAk l (j + 1)
 rw [zAh hlt, hx] at hb
 have hb2 := zAG l (j + 1)
 rw [zAD hlt, hx] at hb2
 rcases hn with hn | hn | hn
 ·cases hI : zCt ps k x out h with
  | none => rw [hI] at he; cases he
  | some h' => exact hn h' hI
 ·omega
 ·omega
end
theorem zAF (H : zC) : ACall Tryz.prog 25 [bool true] H fun x H' => x = .tup [] ∧ H' = H := by
 refine enter Tryz.func25 L25_ok (Nat.le_of_ble_eq_true rfl) ?_
 repeat' (simp -implicitDefEqProofs (disch := omega) only [L25, push_cast, ↓reduceIte, Nat.reduceAdd])
 simp [zAQ]
theorem zAW (H : zC) : ACallX Tryz.prog 25 [bool false] H (fun _ _ => False) fun z H' => z = wrongV ∧ H' = H :=
 (mustX false H).mono (fun _ _ h => by cases h.1) fun _ _ h => h.2
def MT (b : Bool) (H H' : zC) : Prop := b = true ∧ H' = H
def MF (b : Bool) (z : Value) (H H' : zC) : Prop := b = false ∧ z = wrongV ∧ H' = H
def NT (h n c : Int) (a : Nat) (G G' : zC) : Prop := (n ≤ h ∧ h + c ≤ 1024) ∧ G' = G.set a (.box [int (h + c)])
def NF (h n c : Int) (a : Nat) (z : Value) (G G' : zC) : Prop := z = wrongV ∧ ¬ (n ≤ h ∧ h + c ≤ 1024) ∧ (G' = G ∨ G' = G.set a (.box [int (h + c)]))
theorem zCQ (b : Bool) (H : zC) : ACallX Tryz.prog 25 [bool b] H (fun x H' => MT b H H') fun z H' => MF b z H H' := mustX b H
theorem zB5 (h n c : Int) (hh : 0 ≤ h ∧ h ≤ 1024) (hc : -2048 ≤ c ∧ c ≤ 2048) (a : Nat) (G : zC) (hg : G[a]? = some (.box [int h])) :
  ACallX Tryz.prog 73 [int n, int c, .ptr a 0 0] G (fun _ G' => NT h n c a G G') fun z G' => NF h n c a z G G' := needX h n c hh hc a G hg
theorem zBb {ps : List Pr} {k : Nat} {o a : Int} {out : Bool} {h : Int} : (o = 0 ∨ o = 1 → zCu ps k o a out h = chg h 0 1) ∧ (o = 2 ∨ o = 22 → zCu ps k o a out h = chg h 1 (-1)) ∧ (o = 3 ∨ o = 16 ∨ o = 17 → zCu ps k o a out h = chg h 1 0) ∧ (o = 4 → zCu ps k o a out h = chg h 2 (-2)) ∧ (5 ≤ o ∧ o ≤ 15 → zCu ps k o a out h = chg h 2 (-1)) := by
 unfold zCu
 refine ⟨fun ho => ?_, fun ho => ?_, fun ho => ?_, fun ho => ?_, fun ho => ?_⟩ <;> repeat (first | rw [if_pos (by omega)] | rw [if_neg (by omega)])
def RndP (ps : List Pr) (k : Nat) (l : List Ins) (out : Bool) (level c : Int) (r : Nat) (G : zC) (o : Int) : Prop := ∀ (j : Nat) (h : Int) (e' : Env) (G' : zC) (a b : Int) (bd el : List Ins), j < l.length → l.getD j default = .mk o a b bd el → zQ l ≤ 1048576 → effP ps k bd → effP ps k el → r < G.length → 0 ≤ c → 1 ≤ level → level ≤ 256 → EfI ps k l out level c r G j h e' G' →
 zZ Tryz.prog [.code (L46.body.sub [1, 1, 1, 1, 1, 1, 0, 1, 0, 0]), .lp (Nx (fun (st : Nat × Int) e' H' => EfI ps k l out level c r G st.1 st.2 e' H') (fun st => l.length - st.1) (j, h)), .blk 0, .code (L46.body.sub [1, 1, 1, 1, 1, 1, 1])] (retQX L46.res (fun x G' => ∃ e, x = int e ∧ zBT ps k l out 0 = some e ∧ c + zQ l ≤ 32768 ∧ level + zAI l ≤ 257 ∧ Fr1 r G G' ∧ G'[r]? = some (.box [zA6 ps, int k, int (c + zQ l)])) fun z G' => z = wrongV ∧ ¬ goodL ps k l out level c ∧ Fr1 r G G') .normal e' G'
set_option maxHeartbeats 8000000 in
theorem rnd_0 (ps : List Pr) (k : Nat) (hk : k < ps.length) (hps : ps.length ≤ 1048576) (hp : zCK ps k) (hh : zCw (ps.getD k default)) (l : List Ins) (out : Bool) (level c : Int) (r : Nat) (G : zC) : RndP ps k l out level c r G 0 := by
 intro j h e' G' a b bd el hlt hx hs hbd hel hrl hc0 hl0 hl1 ⟨e0, e2, e3, e9, e10, e11, e12, e42, e43, e44, gr, g9, g10, fr, gl, hj, hhh, cc, lv, ef⟩
 have hrow : (l.map zAt).getD j [] = [int 0, int a, int b, .sl 5 (bd.map zAt), .sl 5 (el.map zAt)] := by
  rw [zU hlt, hx]; simp [zAt, zAm]
 have hrl' := Nat.lt_of_lt_of_le hrl fr.1
 have hb := zAk l (j + 1)
 have hb2 := zAG l (j + 1)
 have hsn := zAh hlt
 have hsl := zAD hlt
 rw [hx] at hsn hsl
 simp only [zBD, zCM] at hsn hsl
 have hbl := zM bd
 have hell := zM el
 have hbv := zAb bd
 have helv := zAb el
 obtain ⟨q1, q2, q3, q4, q5, q6, q7, q8⟩ := hh
 have ef0 := ef
 rw [zAM ps k hlt, hx] at ef
 have fA : ∀ B b, Fr1 r G (G'.set r B ++ [b]) := fun B b => (fr.trans (Fr1.set B)).trans (Fr1.app _)
 have fB : ∀ B b X, Fr1 r G ((G'.set r B).set (G.length + 1) X ++ [b]) := fun B b X => ((fr.trans (Fr1.set B)).set' (i := G.length + 1) (by omega) X).trans (Fr1.app _)
 have hng : ((∀ h', ¬ zCt ps k (.mk 0 a b bd el) out h = some h') ∨ 32768 < c + zQ (l.take j) + zBD (.mk 0 a b bd el) ∨ 257 < level + zCM (.mk 0 a b bd el)) → ¬ goodL ps k l out level c := zBd hlt hx ef0
 have hSr : ∀ B b, (G'.set r B ++ [b])[r]? = some B := fun B b => by rw [zB (by simpa using hrl'), zI hrl']
 have hS9 : ∀ B b, (G'.set r B ++ [b])[G.length]? = some (.box (prR (ps.getD k default))) := fun B b => by rw [zB (by rw [List.length_set]; omega), zF (by omega)]; exact g9
 have hS10 : ∀ B b, (G'.set r B ++ [b])[G.length + 1]? = some (.box [int h]) := fun B b => by rw [zB (by rw [List.length_set]; omega), zF (by omega)]; exact g10
 have hSx : ∀ B b, (G'.set r B ++ [b])[G'.length]? = some b := fun B b => by rw [List.getElem?_append_right (by simp)]; simp
 have hTx : ∀ B b X, ((G'.set r B).set (G.length + 1) X ++ [b])[G'.length]? = some b := fun B b X => by rw [List.getElem?_append_right (by simp)]; simp
 have hln := zM l
 have he : zCu ps k 0 a out h = chg h 0 1 := zBb.1 (by omega)
 have hes := fun h' => zBp (ps := ps) (k := k) (o := 0) (a := a) (b := b) (bd := bd) (el := el) (out := out) (h := h) (h' := h') (by omega) (by omega) he
 by_cases hcn : c + zQ (l.take j) + 1 ≤ 32768
 ·cases hI : zCt ps k (.mk 0 a b bd el) out h with
  | some h' =>
   obtain ⟨hf, f1, f2, rfl⟩ := (hes h').1 hI
   rw [hI] at ef
   have hf' := hf
   unfold zR at hf
   rw [zAw, decide_eq_true_eq] at hf
   have hem : bd.length = 0 ∧ el.length = 0 := by omega
   have hz : zQ bd = 0 ∧ zQ el = 0 ∧ zAI bd = 0 ∧ zAI el = 0 := by
    rw [List.length_eq_zero_iff.1 hem.1, List.length_eq_zero_iff.1 hem.2]; exact ⟨rfl, rfl, rfl, rfl⟩
   have hd1 : 0 ≤ a ∧ a < (ps.getD k default).slots → decide (0 ≤ a ∧ a < (ps.getD k default).slots) = true := fun hh => decide_eq_true hh
   have hd2 : 0 ≤ a + b - 1 ∧ a + b - 1 < (ps.getD k default).slots → decide (0 ≤ a + b - 1 ∧ a + b - 1 < (ps.getD k default).slots) = true := fun hh => decide_eq_true hh
   repeat' (first | refine And.intro (by omega) ?_ | refine zD (zAF _) ?_ | simp -implicitDefEqProofs (disch := omega) only [e0, e11, e42, e43, e44, gr, hrow, zB, zO, splice, List.length_map, zAl, hSr, hSx, L46, LCode.sub, zL, zAf, push_cast, ↓reduceIte, Nat.reduceEqDiff, reduceCtorEq, Nat.reduceAdd, Nat.reduceLeDiff, Int.reduceNeg, Bool.and_self])
   refine zG (needX h 0 1 hhh (by omega) _ _ (hS10 _ _)) ?_ ?_
   ·rintro _ _ ⟨-, rfl⟩
    repeat' (first | refine zD (zAF _) ?_ | simp -implicitDefEqProofs (disch := omega) only [e44, zY, List.length_map, hTx, zAa, push_cast, ↓reduceIte, Nat.reduceEqDiff, Nat.reduceAdd, Nat.reduceLeDiff])
    exact .mk (j + 1, h + 1) ⟨e0, e2, e3, e9, e10, e11, e12, e42, e43, rfl, by rw [zB (by simp; omega), zF (by omega), zI hrl', hsn]; simp only [hz, Nat.add_zero, Nat.zero_add]; push_cast; rw [Int.add_assoc], by rw [zB (by simp; omega), zF (by omega), zF (by omega)]; exact g9, by rw [zB (by simp; omega), zI (by simp; omega)], fB _ _ _, by simp; omega, hlt, by dsimp only; omega, by dsimp only; rw [hsn]; omega, by dsimp only; rw [hsl]; omega, ef⟩ (by dsimp only; omega)
   ·rintro _ _ ⟨-, hn, -⟩
    exact absurd ⟨f1, f2⟩ hn
  | none =>
   have hn : ¬ (zR (ps.getD k default).slots 0 a b (bd.isEmpty && el.isEmpty) ∧ 0 ≤ h ∧ h + 1 ≤ 1024) := fun hh => by rw [(hes _).2 ⟨hh.1, hh.2.1, hh.2.2, rfl⟩] at hI; cases hI
   have ng := hng (.inl fun h' hh => by rw [hI] at hh; cases hh)
   unfold zR at hn
   rw [zAw, decide_eq_true_eq] at hn
   repeat' (first | intro y0 H2 h0; obtain ⟨hb, rfl⟩ : MT _ _ H2 := h0; (try (exfalso; contradiction)); (try simp only [decide_eq_true_eq] at hb) | intro z0 H2 h0; obtain ⟨hb, rfl, rfl⟩ : MF _ z0 _ H2 := h0; clear hb | intro y0 H2 h0; obtain ⟨hb, rfl⟩ : NT _ _ _ _ _ H2 := h0 | intro z0 H2 h0; obtain ⟨rfl, hb, rfl | rfl⟩ : NF _ _ _ _ z0 _ H2 := h0 | refine And.intro (by omega) ?_ | refine zG (zCQ _ _) ?_ ?_ | refine zG (zB5 h 0 1 hhh (by omega) _ _ (hS10 _ _)) ?_ ?_ | simp -implicitDefEqProofs (disch := omega) only [e0, e11, e42, e43, e44, gr, hrow, zB, zO, zY, splice, List.length_map, zAl, hSr, hSx, hTx, L46, LCode.sub, zL, zAf, zAB, zAa, zX, push_cast, ↓reduceIte, Nat.reduceEqDiff, reduceCtorEq, Nat.reduceAdd, Nat.reduceLeDiff, Int.reduceNeg, Bool.and_self] | split)
   all_goals first | exact fA _ _ | exact fB _ _ _ | exact ⟨ng, fA _ _⟩ | exact ⟨rfl, ng, fA _ _⟩ | exact ⟨ng, fB _ _ _⟩ | exact ⟨rfl, ng, fB _ _ _⟩ | (exfalso; refine hn ⟨⟨?_, ?_, ?_, ?_, ?_, ?_, ?_, ?_⟩, ?_, ?_⟩ <;> first | omega | (intro h1; omega))
 ·repeat' (first | refine And.intro (by omega) ?_ | refine zN (zAW _) ?_ | simp -implicitDefEqProofs (disch := omega) only [e0, e42, e43, e44, gr, hrow, zB, zO, splice, List.length_map, zAl, hSr, L46, LCode.sub, zL, zAB, push_cast, ↓reduceIte, Nat.reduceEqDiff, reduceCtorEq, Nat.reduceAdd, Nat.reduceLeDiff, Int.reduceNeg, Bool.and_self])
  exact ⟨hng (.inr (.inl (by simp only [zBD]; omega))), fA _ _⟩
set_option maxHeartbeats 8000000 in
theorem rnd_1 (ps : List Pr) (k : Nat) (hk : k < ps.length) (hps : ps.length ≤ 1048576) (hp : zCK ps k) (hh : zCw (ps.getD k default)) (l : List Ins) (out : Bool) (level c : Int) (r : Nat) (G : zC) : RndP ps k l out level c r G 1 := by
 intro j h e' G' a b bd el hlt hx hs hbd hel hrl hc0 hl0 hl1 ⟨e0, e2, e3, e9, e10, e11, e12, e42, e43, e44, gr, g9, g10, fr, gl, hj, hhh, cc, lv, ef⟩
 have hrow : (l.map zAt).getD j [] = [int 1, int a, int b, .sl 5 (bd.map zAt), .sl 5 (el.map zAt)] := by
  rw [zU hlt, hx]; simp [zAt, zAm]
 have hrl' := Nat.lt_of_lt_of_le hrl fr.1
 have hb := zAk l (j + 1)
 have hb2 := zAG l (j + 1)
 have hsn := zAh hlt
 have hsl := zAD hlt
 rw [hx] at hsn hsl
 simp only [zBD, zCM] at hsn hsl
 have hbl := zM bd
 have hell := zM el
 have hbv := zAb bd
 have helv := zAb el
 obtain ⟨q1, q2, q3, q4, q5, q6, q7, q8⟩ := hh
 have ef0 := ef
 rw [zAM ps k hlt, hx] at ef
 have fA : ∀ B b, Fr1 r G (G'.set r B ++ [b]) := fun B b => (fr.trans (Fr1.set B)).trans (Fr1.app _)
 have fB : ∀ B b X, Fr1 r G ((G'.set r B).set (G.length + 1) X ++ [b]) := fun B b X => ((fr.trans (Fr1.set B)).set' (i := G.length + 1) (by omega) X).trans (Fr1.app _)
 have hng : ((∀ h', ¬ zCt ps k (.mk 1 a b bd el) out h = some h') ∨ 32768 < c + zQ (l.take j) + zBD (.mk 1 a b bd el) ∨ 257 < level + zCM (.mk 1 a b bd el)) → ¬ goodL ps k l out level c := zBd hlt hx ef0
 have hSr : ∀ B b, (G'.set r B ++ [b])[r]? = some B := fun B b => by rw [zB (by simpa using hrl'), zI hrl']
 have hS9 : ∀ B b, (G'.set r B ++ [b])[G.length]? = some (.box (prR (ps.getD k default))) := fun B b => by rw [zB (by rw [List.length_set]; omega), zF (by omega)]; exact g9
 have hS10 : ∀ B b, (G'.set r B ++ [b])[G.length + 1]? = some (.box [int h]) := fun B b => by rw [zB (by rw [List.length_set]; omega), zF (by omega)]; exact g10
 have hSx : ∀ B b, (G'.set r B ++ [b])[G'.length]? = some b := fun B b => by rw [List.getElem?_append_right (by simp)]; simp
 have hTx : ∀ B b X, ((G'.set r B).set (G.length + 1) X ++ [b])[G'.length]? = some b := fun B b X => by rw [List.getElem?_append_right (by simp)]; simp
 have hln := zM l
 have he : zCu ps k 1 a out h = chg h 0 1 := zBb.1 (by omega)
 have hes := fun h' => zBp (ps := ps) (k := k) (o := 1) (a := a) (b := b) (bd := bd) (el := el) (out := out) (h := h) (h' := h') (by omega) (by omega) he
 by_cases hcn : c + zQ (l.take j) + 1 ≤ 32768
 ·cases hI : zCt ps k (.mk 1 a b bd el) out h with
  | some h' =>
   obtain ⟨hf, f1, f2, rfl⟩ := (hes h').1 hI
   rw [hI] at ef
   have hf' := hf
   unfold zR at hf
   rw [zAw, decide_eq_true_eq] at hf
   have hem : bd.length = 0 ∧ el.length = 0 := by omega
   have hz : zQ bd = 0 ∧ zQ el = 0 ∧ zAI bd = 0 ∧ zAI el = 0 := by
    rw [List.length_eq_zero_iff.1 hem.1, List.length_eq_zero_iff.1 hem.2]; exact ⟨rfl, rfl, rfl, rfl⟩
   have hd1 : 0 ≤ a ∧ a < (ps.getD k default).slots → decide (0 ≤ a ∧ a < (ps.getD k default).slots) = true := fun hh => decide_eq_true hh
   have hd2 : 0 ≤ a + b - 1 ∧ a + b - 1 < (ps.getD k default).slots → decide (0 ≤ a + b - 1 ∧ a + b - 1 < (ps.getD k default).slots) = true := fun hh => decide_eq_true hh
   have hd := hd1 (by omega)
   repeat' (first | refine And.intro (by omega) ?_ | refine zD (zAF _) ?_ | refine zD (zCe a (ps.getD k default) G.length _ (hS9 _ _)) ?_ | simp -implicitDefEqProofs (disch := omega) only [e0, e11, e12, e42, e43, e44, gr, hrow, zB, zO, splice, List.length_map, zAl, hSr, hSx, L46, LCode.sub, hd, zL, zAf, push_cast, ↓reduceIte, Nat.reduceEqDiff, reduceCtorEq, Nat.reduceAdd, Nat.reduceLeDiff, Int.reduceEq, Int.reduceNeg, Bool.and_self])
   refine zG (needX h 0 1 hhh (by omega) _ _ (hS10 _ _)) ?_ ?_
   ·rintro _ _ ⟨-, rfl⟩
    repeat' (first | refine zD (zAF _) ?_ | simp -implicitDefEqProofs (disch := omega) only [e44, zY, List.length_map, hTx, zAa, push_cast, ↓reduceIte, Nat.reduceEqDiff, Nat.reduceAdd, Nat.reduceLeDiff])
    exact .mk (j + 1, h + 1) ⟨e0, e2, e3, e9, e10, e11, e12, e42, e43, rfl, by rw [zB (by simp; omega), zF (by omega), zI hrl', hsn]; simp only [hz, Nat.add_zero, Nat.zero_add]; push_cast; rw [Int.add_assoc], by rw [zB (by simp; omega), zF (by omega), zF (by omega)]; exact g9, by rw [zB (by simp; omega), zI (by simp; omega)], fB _ _ _, by simp; omega, hlt, by dsimp only; omega, by dsimp only; rw [hsn]; omega, by dsimp only; rw [hsl]; omega, ef⟩ (by dsimp only; omega)
   ·rintro _ _ ⟨-, hn, -⟩
    exact absurd ⟨f1, f2⟩ hn
  | none =>
   have hn : ¬ (zR (ps.getD k default).slots 1 a b (bd.isEmpty && el.isEmpty) ∧ 0 ≤ h ∧ h + 1 ≤ 1024) := fun hh => by rw [(hes _).2 ⟨hh.1, hh.2.1, hh.2.2, rfl⟩] at hI; cases hI
   have ng := hng (.inl fun h' hh => by rw [hI] at hh; cases hh)
   unfold zR at hn
   rw [zAw, decide_eq_true_eq] at hn
   repeat' (first | intro y0 H2 h0; obtain ⟨hb, rfl⟩ : MT _ _ H2 := h0; (try (exfalso; contradiction)); (try simp only [decide_eq_true_eq] at hb) | intro z0 H2 h0; obtain ⟨hb, rfl, rfl⟩ : MF _ z0 _ H2 := h0; clear hb | intro y0 H2 h0; obtain ⟨hb, rfl⟩ : NT _ _ _ _ _ H2 := h0 | intro z0 H2 h0; obtain ⟨rfl, hb, rfl | rfl⟩ : NF _ _ _ _ z0 _ H2 := h0 | refine And.intro (by omega) ?_ | refine zD (zCe a (ps.getD k default) G.length _ (hS9 _ _)) ?_ | refine zG (zCQ _ _) ?_ ?_ | refine zG (zB5 h 0 1 hhh (by omega) _ _ (hS10 _ _)) ?_ ?_ | simp -implicitDefEqProofs (disch := omega) only [e0, e11, e12, e42, e43, e44, gr, hrow, zB, zO, zY, splice, List.length_map, zAl, hSr, hSx, hTx, L46, LCode.sub, zL, zAf, zAa, zX, push_cast, ↓reduceIte, Nat.reduceEqDiff, reduceCtorEq, Nat.reduceAdd, Nat.reduceLeDiff, Int.reduceEq, Int.reduceNeg, Bool.and_self] | split)
   all_goals first | exact fA _ _ | exact fB _ _ _ | exact ⟨ng, fA _ _⟩ | exact ⟨rfl, ng, fA _ _⟩ | exact ⟨ng, fB _ _ _⟩ | exact ⟨rfl, ng, fB _ _ _⟩ | (exfalso; refine hn ⟨⟨?_, ?_, ?_, ?_, ?_, ?_, ?_, ?_⟩, ?_, ?_⟩ <;> first | omega | (intro h1; omega))
 ·repeat' (first | refine And.intro (by omega) ?_ | refine zN (zAW _) ?_ | simp -implicitDefEqProofs (disch := omega) only [e0, e42, e43, e44, gr, hrow, zB, zO, splice, List.length_map, zAl, hSr, L46, LCode.sub, zL, zAB, push_cast, ↓reduceIte, Nat.reduceEqDiff, reduceCtorEq, Nat.reduceAdd, Nat.reduceLeDiff, Int.reduceNeg, Bool.and_self])
  exact ⟨hng (.inr (.inl (by simp only [zBD]; omega))), fA _ _⟩
set_option maxHeartbeats 8000000 in
theorem rnd_2 (ps : List Pr) (k : Nat) (hk : k < ps.length) (hps : ps.length ≤ 1048576) (hp : zCK ps k) (hh : zCw (ps.getD k default)) (l : List Ins) (out : Bool) (level c : Int) (r : Nat) (G : zC) : RndP ps k l out level c r G 2 := by
 intro j h e' G' a b bd el hlt hx hs hbd hel hrl hc0 hl0 hl1 ⟨e0, e2, e3, e9, e10, e11, e12, e42, e43, e44, gr, g9, g10, fr, gl, hj, hhh, cc, lv, ef⟩
 have hrow : (l.map zAt).getD j [] = [int 2, int a, int b, .sl 5 (bd.map zAt), .sl 5 (el.map zAt)] := by
  rw [zU hlt, hx]; simp [zAt, zAm]
 have hrl' := Nat.lt_of_lt_of_le hrl fr.1
 have hb := zAk l (j + 1)
 have hb2 := zAG l (j + 1)
 have hsn := zAh hlt
 have hsl := zAD hlt
 rw [hx] at hsn hsl
 simp only [zBD, zCM] at hsn hsl
 have hbl := zM bd
 have hell := zM el
 have hbv := zAb bd
 have helv := zAb el
 obtain ⟨q1, q2, q3, q4, q5, q6, q7, q8⟩ := hh
 have ef0 := ef
 rw [zAM ps k hlt, hx] at ef
 have fA : ∀ B b, Fr1 r G (G'.set r B ++ [b]) := fun B b => (fr.trans (Fr1.set B)).trans (Fr1.app _)
 have fB : ∀ B b X, Fr1 r G ((G'.set r B).set (G.length + 1) X ++ [b]) := fun B b X => ((fr.trans (Fr1.set B)).set' (i := G.length + 1) (by omega) X).trans (Fr1.app _)
 have hng : ((∀ h', ¬ zCt ps k (.mk 2 a b bd el) out h = some h') ∨ 32768 < c + zQ (l.take j) + zBD (.mk 2 a b bd el) ∨ 257 < level + zCM (.mk 2 a b bd el)) → ¬ goodL ps k l out level c := zBd hlt hx ef0
 have hSr : ∀ B b, (G'.set r B ++ [b])[r]? = some B := fun B b => by rw [zB (by simpa using hrl'), zI hrl']
 have hS9 : ∀ B b, (G'.set r B ++ [b])[G.length]? = some (.box (prR (ps.getD k default))) := fun B b => by rw [zB (by rw [List.length_set]; omega), zF (by omega)]; exact g9
 have hS10 : ∀ B b, (G'.set r B ++ [b])[G.length + 1]? = some (.box [int h]) := fun B b => by rw [zB (by rw [List.length_set]; omega), zF (by omega)]; exact g10
 have hSx : ∀ B b, (G'.set r B ++ [b])[G'.length]? = some b := fun B b => by rw [List.getElem?_append_right (by simp)]; simp
 have hTx : ∀ B b X, ((G'.set r B).set (G.length + 1) X ++ [b])[G'.length]? = some b := fun B b X => by rw [List.getElem?_append_right (by simp)]; simp
 have hln := zM l
 have he : zCu ps k 2 a out h = chg h 1 (-1) := zBb.2.1 (by omega)
 have hes := fun h' => zBp (ps := ps) (k := k) (o := 2) (a := a) (b := b) (bd := bd) (el := el) (out := out) (h := h) (h' := h') (by omega) (by omega) he
 by_cases hcn : c + zQ (l.take j) + 1 ≤ 32768
 ·cases hI : zCt ps k (.mk 2 a b bd el) out h with
  | some h' =>
   obtain ⟨hf, f1, f2, rfl⟩ := (hes h').1 hI
   rw [hI] at ef
   have hf' := hf
   unfold zR at hf
   rw [zAw, decide_eq_true_eq] at hf
   have hem : bd.length = 0 ∧ el.length = 0 := by omega
   have hz : zQ bd = 0 ∧ zQ el = 0 ∧ zAI bd = 0 ∧ zAI el = 0 := by
    rw [List.length_eq_zero_iff.1 hem.1, List.length_eq_zero_iff.1 hem.2]; exact ⟨rfl, rfl, rfl, rfl⟩
   have hd1 : 0 ≤ a ∧ a < (ps.getD k default).slots → decide (0 ≤ a ∧ a < (ps.getD k default).slots) = true := fun hh => decide_eq_true hh
   have hd2 : 0 ≤ a + b - 1 ∧ a + b - 1 < (ps.getD k default).slots → decide (0 ≤ a + b - 1 ∧ a + b - 1 < (ps.getD k default).slots) = true := fun hh => decide_eq_true hh
   have hd := hd1 (by omega)
   repeat' (first | refine And.intro (by omega) ?_ | refine zD (zAF _) ?_ | refine zD (zCe a (ps.getD k default) G.length _ (hS9 _ _)) ?_ | simp -implicitDefEqProofs (disch := omega) only [e0, e11, e12, e42, e43, e44, gr, hrow, zB, zO, splice, List.length_map, zAl, hSr, hSx, L46, LCode.sub, hd, zL, zAf, push_cast, ↓reduceIte, Nat.reduceEqDiff, reduceCtorEq, Nat.reduceAdd, Nat.reduceLeDiff, Int.reduceEq, Int.reduceNeg, Bool.and_self])
   refine zG (needX h 1 (-1) hhh (by omega) _ _ (hS10 _ _)) ?_ ?_
   ·rintro _ _ ⟨-, rfl⟩
    repeat' (first | refine zD (zAF _) ?_ | simp -implicitDefEqProofs (disch := omega) only [e44, zY, List.length_map, hTx, zAa, push_cast, ↓reduceIte, Nat.reduceEqDiff, Nat.reduceAdd, Nat.reduceLeDiff, Int.reduceNeg])
    exact .mk (j + 1, h + (-1)) ⟨e0, e2, e3, e9, e10, e11, e12, e42, e43, rfl, by rw [zB (by simp; omega), zF (by omega), zI hrl', hsn]; simp only [hz, Nat.add_zero, Nat.zero_add]; push_cast; rw [Int.add_assoc], by rw [zB (by simp; omega), zF (by omega), zF (by omega)]; exact g9, by rw [zB (by simp; omega), zI (by simp; omega)], fB _ _ _, by simp; omega, hlt, by dsimp only; omega, by dsimp only; rw [hsn]; omega, by dsimp only; rw [hsl]; omega, ef⟩ (by dsimp only; omega)
   ·rintro _ _ ⟨-, hn, -⟩
    exact absurd ⟨f1, f2⟩ hn
  | none =>
   have hn : ¬ (zR (ps.getD k default).slots 2 a b (bd.isEmpty && el.isEmpty) ∧ 1 ≤ h ∧ h + (-1) ≤ 1024) := fun hh => by rw [(hes _).2 ⟨hh.1, hh.2.1, hh.2.2, rfl⟩] at hI; cases hI
   have ng := hng (.inl fun h' hh => by rw [hI] at hh; cases hh)
   unfold zR at hn
   rw [zAw, decide_eq_true_eq] at hn
   repeat' (first | intro y0 H2 h0; obtain ⟨hb, rfl⟩ : MT _ _ H2 := h0; (try (exfalso; contradiction)); (try simp only [decide_eq_true_eq] at hb) | intro z0 H2 h0; obtain ⟨hb, rfl, rfl⟩ : MF _ z0 _ H2 := h0; clear hb | intro y0 H2 h0; obtain ⟨hb, rfl⟩ : NT _ _ _ _ _ H2 := h0 | intro z0 H2 h0; obtain ⟨rfl, hb, rfl | rfl⟩ : NF _ _ _ _ z0 _ H2 := h0 | refine And.intro (by omega) ?_ | refine zD (zCe a (ps.getD k default) G.length _ (hS9 _ _)) ?_ | refine zG (zCQ _ _) ?_ ?_ | refine zG (zB5 h 1 (-1) hhh (by omega) _ _ (hS10 _ _)) ?_ ?_ | simp -implicitDefEqProofs (disch := omega) only [e0, e11, e12, e42, e43, e44, gr, hrow, zB, zO, zY, splice, List.length_map, zAl, hSr, hSx, hTx, L46, LCode.sub, zL, zAf, zAa, zX, push_cast, ↓reduceIte, Nat.reduceEqDiff, reduceCtorEq, Nat.reduceAdd, Nat.reduceLeDiff, Int.reduceEq, Int.reduceNeg, Bool.and_self] | split)
   all_goals first | exact fA _ _ | exact fB _ _ _ | exact ⟨ng, fA _ _⟩ | exact ⟨rfl, ng, fA _ _⟩ | exact ⟨ng, fB _ _ _⟩ | exact ⟨rfl, ng, fB _ _ _⟩ | (exfalso; refine hn ⟨⟨?_, ?_, ?_, ?_, ?_, ?_, ?_, ?_⟩, ?_, ?_⟩ <;> first | omega | (intro h1; omega))
 ·repeat' (first | refine And.intro (by omega) ?_ | refine zN (zAW _) ?_ | simp -implicitDefEqProofs (disch := omega) only [e0, e42, e43, e44, gr, hrow, zB, zO, splice, List.length_map, zAl, hSr, L46, LCode.sub, zL, zAB, push_cast, ↓reduceIte, Nat.reduceEqDiff, reduceCtorEq, Nat.reduceAdd, Nat.reduceLeDiff, Int.reduceNeg, Bool.and_self])
  exact ⟨hng (.inr (.inl (by simp only [zBD]; omega))), fA _ _⟩
set_option maxHeartbeats 8000000 in
theorem rnd_22 (ps : List Pr) (k : Nat) (hk : k < ps.length) (hps : ps.length ≤ 1048576) (hp : zCK ps k) (hh : zCw (ps.getD k default)) (l : List Ins) (out : Bool) (level c : Int) (r : Nat) (G : zC) : RndP ps k l out level c r G 22 := by
 intro j h e' G' a b bd el hlt hx hs hbd hel hrl hc0 hl0 hl1 ⟨e0, e2, e3, e9, e10, e11, e12, e42, e43, e44, gr, g9, g10, fr, gl, hj, hhh, cc, lv, ef⟩
 have hrow : (l.map zAt).getD j [] = [int 22, int a, int b, .sl 5 (bd.map zAt), .sl 5 (el.map zAt)] := by
  rw [zU hlt, hx]; simp [zAt, zAm]
 have hrl' := Nat.lt_of_lt_of_le hrl fr.1
 have hb := zAk l (j + 1)
 have hb2 := zAG l (j + 1)
 have hsn := zAh hlt
 have hsl := zAD hlt
 rw [hx] at hsn hsl
 simp only [zBD, zCM] at hsn hsl
 have hbl := zM bd
 have hell := zM el
 have hbv := zAb bd
 have helv := zAb el
 obtain ⟨q1, q2, q3, q4, q5, q6, q7, q8⟩ := hh
 have ef0 := ef
 rw [zAM ps k hlt, hx] at ef
 have fA : ∀ B b, Fr1 r G (G'.set r B ++ [b]) := fun B b => (fr.trans (Fr1.set B)).trans (Fr1.app _)
 have fB : ∀ B b X, Fr1 r G ((G'.set r B).set (G.length + 1) X ++ [b]) := fun B b X => ((fr.trans (Fr1.set B)).set' (i := G.length + 1) (by omega) X).trans (Fr1.app _)
 have hng : ((∀ h', ¬ zCt ps k (.mk 22 a b bd el) out h = some h') ∨ 32768 < c + zQ (l.take j) + zBD (.mk 22 a b bd el) ∨ 257 < level + zCM (.mk 22 a b bd el)) → ¬ goodL ps k l out level c := zBd hlt hx ef0
 have hSr : ∀ B b, (G'.set r B ++ [b])[r]? = some B := fun B b => by rw [zB (by simpa using hrl'), zI hrl']
 have hS9 : ∀ B b, (G'.set r B ++ [b])[G.length]? = some (.box (prR (ps.getD k default))) := fun B b => by rw [zB (by rw [List.length_set]; omega), zF (by omega)]; exact g9
 have hS10 : ∀ B b, (G'.set r B ++ [b])[G.length + 1]? = some (.box [int h]) := fun B b => by rw [zB (by rw [List.length_set]; omega), zF (by omega)]; exact g10
 have hSx : ∀ B b, (G'.set r B ++ [b])[G'.length]? = some b := fun B b => by rw [List.getElem?_append_right (by simp)]; simp
 have hTx : ∀ B b X, ((G'.set r B).set (G.length + 1) X ++ [b])[G'.length]? = some b := fun B b X => by rw [List.getElem?_append_right (by simp)]; simp
 have hln := zM l
 have he : zCu ps k 22 a out h = chg h 1 (-1) := zBb.2.1 (by omega)
 have hes := fun h' => zBp (ps := ps) (k := k) (o := 22) (a := a) (b := b) (bd := bd) (el := el) (out := out) (h := h) (h' := h') (by omega) (by omega) he
 by_cases hcn : c + zQ (l.take j) + 1 ≤ 32768
 ·cases hI : zCt ps k (.mk 22 a b bd el) out h with
  | some h' =>
   obtain ⟨hf, f1, f2, rfl⟩ := (hes h').1 hI
   rw [hI] at ef
   have hf' := hf
   unfold zR at hf
   rw [zAw, decide_eq_true_eq] at hf
   have hem : bd.length = 0 ∧ el.length = 0 := by omega
   have hz : zQ bd = 0 ∧ zQ el = 0 ∧ zAI bd = 0 ∧ zAI el = 0 := by
    rw [List.length_eq_zero_iff.1 hem.1, List.length_eq_zero_iff.1 hem.2]; exact ⟨rfl, rfl, rfl, rfl⟩
   have hd1 : 0 ≤ a ∧ a < (ps.getD k default).slots → decide (0 ≤ a ∧ a < (ps.getD k default).slots) = true := fun hh => decide_eq_true hh
   have hd2 : 0 ≤ a + b - 1 ∧ a + b - 1 < (ps.getD k default).slots → decide (0 ≤ a + b - 1 ∧ a + b - 1 < (ps.getD k default).slots) = true := fun hh => decide_eq_true hh
   repeat' (first | refine And.intro (by omega) ?_ | refine zD (zAF _) ?_ | simp -implicitDefEqProofs (disch := omega) only [e0, e11, e42, e43, e44, gr, hrow, zB, zO, splice, List.length_map, zAl, hSr, hSx, L46, LCode.sub, zL, zAf, push_cast, ↓reduceIte, Nat.reduceEqDiff, reduceCtorEq, Nat.reduceAdd, Nat.reduceLeDiff, Int.reduceEq, Int.reduceNeg, Bool.and_self])
   refine zG (needX h 1 (-1) hhh (by omega) _ _ (hS10 _ _)) ?_ ?_
   ·rintro _ _ ⟨-, rfl⟩
    repeat' (first | refine zD (zAF _) ?_ | simp -implicitDefEqProofs (disch := omega) only [e44, zY, List.length_map, hTx, zAa, push_cast, ↓reduceIte, Nat.reduceEqDiff, Nat.reduceAdd, Nat.reduceLeDiff, Int.reduceNeg])
    exact .mk (j + 1, h + (-1)) ⟨e0, e2, e3, e9, e10, e11, e12, e42, e43, rfl, by rw [zB (by simp; omega), zF (by omega), zI hrl', hsn]; simp only [hz, Nat.add_zero, Nat.zero_add]; push_cast; rw [Int.add_assoc], by rw [zB (by simp; omega), zF (by omega), zF (by omega)]; exact g9, by rw [zB (by simp; omega), zI (by simp; omega)], fB _ _ _, by simp; omega, hlt, by dsimp only; omega, by dsimp only; rw [hsn]; omega, by dsimp only; rw [hsl]; omega, ef⟩ (by dsimp only; omega)
   ·rintro _ _ ⟨-, hn, -⟩
    exact absurd ⟨f1, f2⟩ hn
  | none =>
   have hn : ¬ (zR (ps.getD k default).slots 22 a b (bd.isEmpty && el.isEmpty) ∧ 1 ≤ h ∧ h + (-1) ≤ 1024) := fun hh => by rw [(hes _).2 ⟨hh.1, hh.2.1, hh.2.2, rfl⟩] at hI; cases hI
   have ng := hng (.inl fun h' hh => by rw [hI] at hh; cases hh)
   unfold zR at hn
   rw [zAw, decide_eq_true_eq] at hn
   repeat' (first | intro y0 H2 h0; obtain ⟨hb, rfl⟩ : MT _ _ H2 := h0; (try (exfalso; contradiction)); (try simp only [] at hb) | intro z0 H2 h0; obtain ⟨hb, rfl, rfl⟩ : MF _ z0 _ H2 := h0; clear hb | intro y0 H2 h0; obtain ⟨hb, rfl⟩ : NT _ _ _ _ _ H2 := h0 | intro z0 H2 h0; obtain ⟨rfl, hb, rfl | rfl⟩ : NF _ _ _ _ z0 _ H2 := h0 | refine And.intro (by omega) ?_ | refine zG (zCQ _ _) ?_ ?_ | refine zG (zB5 h 1 (-1) hhh (by omega) _ _ (hS10 _ _)) ?_ ?_ | simp -implicitDefEqProofs (disch := omega) only [e0, e11, e42, e43, e44, gr, hrow, zB, zO, zY, splice, List.length_map, zAl, hSr, hSx, hTx, L46, LCode.sub, zL, zAf, zAa, zX, push_cast, ↓reduceIte, Nat.reduceEqDiff, reduceCtorEq, Nat.reduceAdd, Nat.reduceLeDiff, Int.reduceEq, Int.reduceNeg, Bool.and_self] | split)
   all_goals first | exact fA _ _ | exact fB _ _ _ | exact ⟨ng, fA _ _⟩ | exact ⟨rfl, ng, fA _ _⟩ | exact ⟨ng, fB _ _ _⟩ | exact ⟨rfl, ng, fB _ _ _⟩ | (exfalso; refine hn ⟨⟨?_, ?_, ?_, ?_, ?_, ?_, ?_, ?_⟩, ?_, ?_⟩ <;> first | omega | (intro h1; omega))
 ·repeat' (first | refine And.intro (by omega) ?_ | refine zN (zAW _) ?_ | simp -implicitDefEqProofs (disch := omega) only [e0, e42, e43, e44, gr, hrow, zB, zO, splice, List.length_map, zAl, hSr, L46, LCode.sub, zL, zAB, push_cast, ↓reduceIte, Nat.reduceEqDiff, reduceCtorEq, Nat.reduceAdd, Nat.reduceLeDiff, Int.reduceNeg, Bool.and_self])
  exact ⟨hng (.inr (.inl (by simp only [zBD]; omega))), fA _ _⟩
set_option maxHeartbeats 8000000 in
theorem rnd_3 (ps : List Pr) (k : Nat) (hk : k < ps.length) (hps : ps.length ≤ 1048576) (hp : zCK ps k) (hh : zCw (ps.getD k default)) (l : List Ins) (out : Bool) (level c : Int) (r : Nat) (G : zC) : RndP ps k l out level c r G 3 := by
 intro j h e' G' a b bd el hlt hx hs hbd hel hrl hc0 hl0 hl1 ⟨e0, e2, e3, e9, e10, e11, e12, e42, e43, e44, gr, g9, g10, fr, gl, hj, hhh, cc, lv, ef⟩
 have hrow : (l.map zAt).getD j [] = [int 3, int a, int b, .sl 5 (bd.map zAt), .sl 5 (el.map zAt)] := by
  rw [zU hlt, hx]; simp [zAt, zAm]
 have hrl' := Nat.lt_of_lt_of_le hrl fr.1
 have hb := zAk l (j + 1)
 have hb2 := zAG l (j + 1)
 have hsn := zAh hlt
 have hsl := zAD hlt
 rw [hx] at hsn hsl
 simp only [zBD, zCM] at hsn hsl
 have hbl := zM bd
 have hell := zM el
 have hbv := zAb bd
 have helv := zAb el
 obtain ⟨q1, q2, q3, q4, q5, q6, q7, q8⟩ := hh
 have ef0 := ef
 rw [zAM ps k hlt, hx] at ef
 have fA : ∀ B b, Fr1 r G (G'.set r B ++ [b]) := fun B b => (fr.trans (Fr1.set B)).trans (Fr1.app _)
 have fB : ∀ B b X, Fr1 r G ((G'.set r B).set (G.length + 1) X ++ [b]) := fun B b X => ((fr.trans (Fr1.set B)).set' (i := G.length + 1) (by omega) X).trans (Fr1.app _)
 have hng : ((∀ h', ¬ zCt ps k (.mk 3 a b bd el) out h = some h') ∨ 32768 < c + zQ (l.take j) + zBD (.mk 3 a b bd el) ∨ 257 < level + zCM (.mk 3 a b bd el)) → ¬ goodL ps k l out level c := zBd hlt hx ef0
 have hSr : ∀ B b, (G'.set r B ++ [b])[r]? = some B := fun B b => by rw [zB (by simpa using hrl'), zI hrl']
 have hS9 : ∀ B b, (G'.set r B ++ [b])[G.length]? = some (.box (prR (ps.getD k default))) := fun B b => by rw [zB (by rw [List.length_set]; omega), zF (by omega)]; exact g9
 have hS10 : ∀ B b, (G'.set r B ++ [b])[G.length + 1]? = some (.box [int h]) := fun B b => by rw [zB (by rw [List.length_set]; omega), zF (by omega)]; exact g10
 have hSx : ∀ B b, (G'.set r B ++ [b])[G'.length]? = some b := fun B b => by rw [List.getElem?_append_right (by simp)]; simp
 have hTx : ∀ B b X, ((G'.set r B).set (G.length + 1) X ++ [b])[G'.length]? = some b := fun B b X => by rw [List.getElem?_append_right (by simp)]; simp
 have hln := zM l
 have he : zCu ps k 3 a out h = chg h 1 0 := zBb.2.2.1 (by omega)
 have hes := fun h' => zBp (ps := ps) (k := k) (o := 3) (a := a) (b := b) (bd := bd) (el := el) (out := out) (h := h) (h' := h') (by omega) (by omega) he
 by_cases hcn : c + zQ (l.take j) + 1 ≤ 32768
 ·cases hI : zCt ps k (.mk 3 a b bd el) out h with
  | some h' =>
   obtain ⟨hf, f1, f2, rfl⟩ := (hes h').1 hI
   rw [hI] at ef
   have hf' := hf
   unfold zR at hf
   rw [zAw, decide_eq_true_eq] at hf
   have hem : bd.length = 0 ∧ el.length = 0 := by omega
   have hz : zQ bd = 0 ∧ zQ el = 0 ∧ zAI bd = 0 ∧ zAI el = 0 := by
    rw [List.length_eq_zero_iff.1 hem.1, List.length_eq_zero_iff.1 hem.2]; exact ⟨rfl, rfl, rfl, rfl⟩
   have hd1 : 0 ≤ a ∧ a < (ps.getD k default).slots → decide (0 ≤ a ∧ a < (ps.getD k default).slots) = true := fun hh => decide_eq_true hh
   have hd2 : 0 ≤ a + b - 1 ∧ a + b - 1 < (ps.getD k default).slots → decide (0 ≤ a + b - 1 ∧ a + b - 1 < (ps.getD k default).slots) = true := fun hh => decide_eq_true hh
   have hd := hd1 (by omega)
   have hd' := hd2 (by omega)
   repeat' (first | refine And.intro (by omega) ?_ | refine zD (zAF _) ?_ | refine zD (zCe a (ps.getD k default) G.length _ (hS9 _ _)) ?_ | refine zD (zCe (a + b - 1) (ps.getD k default) G.length _ (hS9 _ _)) ?_ | simp -implicitDefEqProofs (disch := omega) only [e0, e9, e11, e12, e42, e43, e44, gr, hrow, zB, zO, splice, zBJ, zP, List.length_map, zAl, hSr, hS9, hSx, L46, LCode.sub, hd, hd', zL, zAf, push_cast, ↓reduceIte, Nat.reduceEqDiff, reduceCtorEq, Nat.reduceAdd, Nat.reduceLeDiff, Int.reduceEq, Int.reduceNeg, Bool.and_self])
   refine zG (needX h 1 0 hhh (by omega) _ _ (hS10 _ _)) ?_ ?_
   ·rintro _ _ ⟨-, rfl⟩
    repeat' (first | refine zD (zAF _) ?_ | simp -implicitDefEqProofs (disch := omega) only [e44, zY, List.length_map, hTx, zAa, push_cast, ↓reduceIte, Nat.reduceEqDiff, Nat.reduceAdd, Nat.reduceLeDiff])
    exact .mk (j + 1, h + 0) ⟨e0, e2, e3, e9, e10, e11, e12, e42, e43, rfl, by rw [zB (by simp; omega), zF (by omega), zI hrl', hsn]; simp only [hz, Nat.add_zero, Nat.zero_add]; push_cast; rw [Int.add_assoc], by rw [zB (by simp; omega), zF (by omega), zF (by omega)]; exact g9, by rw [zB (by simp; omega), zI (by simp; omega)], fB _ _ _, by simp; omega, hlt, by dsimp only; omega, by dsimp only; rw [hsn]; omega, by dsimp only; rw [hsl]; omega, ef⟩ (by dsimp only; omega)
   ·rintro _ _ ⟨-, hn, -⟩
    exact absurd ⟨f1, f2⟩ hn
  | none =>
   have hn : ¬ (zR (ps.getD k default).slots 3 a b (bd.isEmpty && el.isEmpty) ∧ 1 ≤ h ∧ h + 0 ≤ 1024) := fun hh => by rw [(hes _).2 ⟨hh.1, hh.2.1, hh.2.2, rfl⟩] at hI; cases hI
   have ng := hng (.inl fun h' hh => by rw [hI] at hh; cases hh)
   unfold zR at hn
   rw [zAw, decide_eq_true_eq] at hn
   repeat' (first | intro y0 H2 h0; obtain ⟨hb, rfl⟩ : MT _ _ H2 := h0; (try (exfalso; contradiction)); (try simp only [decide_eq_true_eq] at hb) | intro z0 H2 h0; obtain ⟨hb, rfl, rfl⟩ : MF _ z0 _ H2 := h0; clear hb | intro y0 H2 h0; obtain ⟨hb, rfl⟩ : NT _ _ _ _ _ H2 := h0 | intro z0 H2 h0; obtain ⟨rfl, hb, rfl | rfl⟩ : NF _ _ _ _ z0 _ H2 := h0 | refine And.intro (by omega) ?_ | refine zD (zCe a (ps.getD k default) G.length _ (hS9 _ _)) ?_ | refine zD (zCe (a + b - 1) (ps.getD k default) G.length _ (hS9 _ _)) ?_ | refine zG (zCQ _ _) ?_ ?_ | refine zG (zB5 h 1 0 hhh (by omega) _ _ (hS10 _ _)) ?_ ?_ | simp -implicitDefEqProofs (disch := omega) only [e0, e9, e11, e12, e42, e43, e44, gr, hrow, zB, zO, zY, splice, zBJ, zP, List.length_map, zAl, hSr, hS9, hSx, hTx, L46, LCode.sub, zL, zAf, zAB, zAa, zX, push_cast, ↓reduceIte, Nat.reduceEqDiff, reduceCtorEq, Nat.reduceAdd, Nat.reduceLeDiff, Int.reduceEq, Int.reduceNeg, Bool.and_self] | split)
   all_goals first | exact fA _ _ | exact fB _ _ _ | exact ⟨ng, fA _ _⟩ | exact ⟨rfl, ng, fA _ _⟩ | exact ⟨ng, fB _ _ _⟩ | exact ⟨rfl, ng, fB _ _ _⟩ | (exfalso; refine hn ⟨⟨?_, ?_, ?_, ?_, ?_, ?_, ?_, ?_⟩, ?_, ?_⟩ <;> first | omega | (intro h1; omega))
 ·repeat' (first | refine And.intro (by omega) ?_ | refine zN (zAW _) ?_ | simp -implicitDefEqProofs (disch := omega) only [e0, e42, e43, e44, gr, hrow, zB, zO, splice, List.length_map, zAl, hSr, L46, LCode.sub, zL, zAB, push_cast, ↓reduceIte, Nat.reduceEqDiff, reduceCtorEq, Nat.reduceAdd, Nat.reduceLeDiff, Int.reduceNeg, Bool.and_self])
  exact ⟨hng (.inr (.inl (by simp only [zBD]; omega))), fA _ _⟩
set_option maxHeartbeats 8000000 in
theorem rnd_4 (ps : List Pr) (k : Nat) (hk : k < ps.length) (hps : ps.length ≤ 1048576) (hp : zCK ps k) (hh : zCw (ps.getD k default)) (l : List Ins) (out : Bool) (level c : Int) (r : Nat) (G : zC) : RndP ps k l out level c r G 4 := by
 intro j h e' G' a b bd el hlt hx hs hbd hel hrl hc0 hl0 hl1 ⟨e0, e2, e3, e9, e10, e11, e12, e42, e43, e44, gr, g9, g10, fr, gl, hj, hhh, cc, lv, ef⟩
 have hrow : (l.map zAt).getD j [] = [int 4, int a, int b, .sl 5 (bd.map zAt), .sl 5 (el.map zAt)] := by
  rw [zU hlt, hx]; simp [zAt, zAm]
 have hrl' := Nat.lt_of_lt_of_le hrl fr.1
 have hb := zAk l (j + 1)
 have hb2 := zAG l (j + 1)
 have hsn := zAh hlt
 have hsl := zAD hlt
 rw [hx] at hsn hsl
 simp only [zBD, zCM] at hsn hsl
 have hbl := zM bd
 have hell := zM el
 have hbv := zAb bd
 have helv := zAb el
 obtain ⟨q1, q2, q3, q4, q5, q6, q7, q8⟩ := hh
 have ef0 := ef
 rw [zAM ps k hlt, hx] at ef
 have fA : ∀ B b, Fr1 r G (G'.set r B ++ [b]) := fun B b => (fr.trans (Fr1.set B)).trans (Fr1.app _)
 have fB : ∀ B b X, Fr1 r G ((G'.set r B).set (G.length + 1) X ++ [b]) := fun B b X => ((fr.trans (Fr1.set B)).set' (i := G.length + 1) (by omega) X).trans (Fr1.app _)
 have hng : ((∀ h', ¬ zCt ps k (.mk 4 a b bd el) out h = some h') ∨ 32768 < c + zQ (l.take j) + zBD (.mk 4 a b bd el) ∨ 257 < level + zCM (.mk 4 a b bd el)) → ¬ goodL ps k l out level c := zBd hlt hx ef0
 have hSr : ∀ B b, (G'.set r B ++ [b])[r]? = some B := fun B b => by rw [zB (by simpa using hrl'), zI hrl']
 have hS9 : ∀ B b, (G'.set r B ++ [b])[G.length]? = some (.box (prR (ps.getD k default))) := fun B b => by rw [zB (by rw [List.length_set]; omega), zF (by omega)]; exact g9
 have hS10 : ∀ B b, (G'.set r B ++ [b])[G.length + 1]? = some (.box [int h]) := fun B b => by rw [zB (by rw [List.length_set]; omega), zF (by omega)]; exact g10
 have hSx : ∀ B b, (G'.set r B ++ [b])[G'.length]? = some b := fun B b => by rw [List.getElem?_append_right (by simp)]; simp
 have hTx : ∀ B b X, ((G'.set r B).set (G.length + 1) X ++ [b])[G'.length]? = some b := fun B b X => by rw [List.getElem?_append_right (by simp)]; simp
 have hln := zM l
 have he : zCu ps k 4 a out h = chg h 2 (-2) := zBb.2.2.2.1 (by omega)
 have hes := fun h' => zBp (ps := ps) (k := k) (o := 4) (a := a) (b := b) (bd := bd) (el := el) (out := out) (h := h) (h' := h') (by omega) (by omega) he
 by_cases hcn : c + zQ (l.take j) + 1 ≤ 32768
 ·cases hI : zCt ps k (.mk 4 a b bd el) out h with
  | some h' =>
   obtain ⟨hf, f1, f2, rfl⟩ := (hes h').1 hI
   rw [hI] at ef
   have hf' := hf
   unfold zR at hf
   rw [zAw, decide_eq_true_eq] at hf
   have hem : bd.length = 0 ∧ el.length = 0 := by omega
   have hz : zQ bd = 0 ∧ zQ el = 0 ∧ zAI bd = 0 ∧ zAI el = 0 := by
    rw [List.length_eq_zero_iff.1 hem.1, List.length_eq_zero_iff.1 hem.2]; exact ⟨rfl, rfl, rfl, rfl⟩
   have hd1 : 0 ≤ a ∧ a < (ps.getD k default).slots → decide (0 ≤ a ∧ a < (ps.getD k default).slots) = true := fun hh => decide_eq_true hh
   have hd2 : 0 ≤ a + b - 1 ∧ a + b - 1 < (ps.getD k default).slots → decide (0 ≤ a + b - 1 ∧ a + b - 1 < (ps.getD k default).slots) = true := fun hh => decide_eq_true hh
   have hd := hd1 (by omega)
   have hd' := hd2 (by omega)
   repeat' (first | refine And.intro (by omega) ?_ | refine zD (zAF _) ?_ | refine zD (zCe a (ps.getD k default) G.length _ (hS9 _ _)) ?_ | refine zD (zCe (a + b - 1) (ps.getD k default) G.length _ (hS9 _ _)) ?_ | simp -implicitDefEqProofs (disch := omega) only [e0, e9, e11, e12, e42, e43, e44, gr, hrow, zB, zO, splice, zBJ, zP, List.length_map, zAl, hSr, hS9, hSx, L46, LCode.sub, hd, hd', zL, zAf, push_cast, ↓reduceIte, Nat.reduceEqDiff, reduceCtorEq, Nat.reduceAdd, Nat.reduceLeDiff, Int.reduceEq, Int.reduceNeg, Bool.and_self])
   refine zG (needX h 2 (-2) hhh (by omega) _ _ (hS10 _ _)) ?_ ?_
   ·rintro _ _ ⟨-, rfl⟩
    repeat' (first | refine zD (zAF _) ?_ | simp -implicitDefEqProofs (disch := omega) only [e44, zY, List.length_map, hTx, zAa, push_cast, ↓reduceIte, Nat.reduceEqDiff, Nat.reduceAdd, Nat.reduceLeDiff, Int.reduceNeg])
    exact .mk (j + 1, h + (-2)) ⟨e0, e2, e3, e9, e10, e11, e12, e42, e43, rfl, by rw [zB (by simp; omega), zF (by omega), zI hrl', hsn]; simp only [hz, Nat.add_zero, Nat.zero_add]; push_cast; rw [Int.add_assoc], by rw [zB (by simp; omega), zF (by omega), zF (by omega)]; exact g9, by rw [zB (by simp; omega), zI (by simp; omega)], fB _ _ _, by simp; omega, hlt, by dsimp only; omega, by dsimp only; rw [hsn]; omega, by dsimp only; rw [hsl]; omega, ef⟩ (by dsimp only; omega)
   ·rintro _ _ ⟨-, hn, -⟩
    exact absurd ⟨f1, f2⟩ hn
  | none =>
   have hn : ¬ (zR (ps.getD k default).slots 4 a b (bd.isEmpty && el.isEmpty) ∧ 2 ≤ h ∧ h + (-2) ≤ 1024) := fun hh => by rw [(hes _).2 ⟨hh.1, hh.2.1, hh.2.2, rfl⟩] at hI; cases hI
   have ng := hng (.inl fun h' hh => by rw [hI] at hh; cases hh)
   unfold zR at hn
   rw [zAw, decide_eq_true_eq] at hn
   repeat' (first | intro y0 H2 h0; obtain ⟨hb, rfl⟩ : MT _ _ H2 := h0; (try (exfalso; contradiction)); (try simp only [decide_eq_true_eq] at hb) | intro z0 H2 h0; obtain ⟨hb, rfl, rfl⟩ : MF _ z0 _ H2 := h0; clear hb | intro y0 H2 h0; obtain ⟨hb, rfl⟩ : NT _ _ _ _ _ H2 := h0 | intro z0 H2 h0; obtain ⟨rfl, hb, rfl | rfl⟩ : NF _ _ _ _ z0 _ H2 := h0 | refine And.intro (by omega) ?_ | refine zD (zCe a (ps.getD k default) G.length _ (hS9 _ _)) ?_ | refine zD (zCe (a + b - 1) (ps.getD k default) G.length _ (hS9 _ _)) ?_ | refine zG (zCQ _ _) ?_ ?_ | refine zG (zB5 h 2 (-2) hhh (by omega) _ _ (hS10 _ _)) ?_ ?_ | simp -implicitDefEqProofs (disch := omega) only [e0, e9, e11, e12, e42, e43, e44, gr, hrow, zB, zO, zY, splice, zBJ, zP, List.length_map, zAl, hSr, hS9, hSx, hTx, L46, LCode.sub, zL, zAf, zAB, zAa, zX, push_cast, ↓reduceIte, Nat.reduceEqDiff, reduceCtorEq, Nat.reduceAdd, Nat.reduceLeDiff, Int.reduceEq, Int.reduceNeg, Bool.and_self] | split)
   all_goals first | exact fA _ _ | exact fB _ _ _ | exact ⟨ng, fA _ _⟩ | exact ⟨rfl, ng, fA _ _⟩ | exact ⟨ng, fB _ _ _⟩ | exact ⟨rfl, ng, fB _ _ _⟩ | (exfalso; refine hn ⟨⟨?_, ?_, ?_, ?_, ?_, ?_, ?_, ?_⟩, ?_, ?_⟩ <;> first | omega | (intro h1; omega))
 ·repeat' (first | refine And.intro (by omega) ?_ | refine zN (zAW _) ?_ | simp -implicitDefEqProofs (disch := omega) only [e0, e42, e43, e44, gr, hrow, zB, zO, splice, List.length_map, zAl, hSr, L46, LCode.sub, zL, zAB, push_cast, ↓reduceIte, Nat.reduceEqDiff, reduceCtorEq, Nat.reduceAdd, Nat.reduceLeDiff, Int.reduceNeg, Bool.and_self])
  exact ⟨hng (.inr (.inl (by simp only [zBD]; omega))), fA _ _⟩
end Go.Proofs.YtbibhcmcjldhdaaGreatDoor
