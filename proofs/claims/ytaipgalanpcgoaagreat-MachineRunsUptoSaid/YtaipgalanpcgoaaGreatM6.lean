/- Parts, merged by a program (wip/tools/merge2.py): Mc30 Mc31 Mc32 Mc33 Mc34 Mc36 Mc37 Ax31 Ax32 Ax33 Ax34 Ax35 Ax36 Ax36b ChU ChV Mc38 Mc35 Mc40. -/
import Derived.Test.YtaipgalanpcgoaaGreatM5
import Derived.Test.YtaipgalanpcgoaaGreatChecked
namespace Go.Proofs.YtaipgalanpcgoaaGreat
open Go Go.Ax
set_option maxRecDepth 100000
set_option linter.unusedSimpArgs false
set_option linter.unusedVariables false
set_option maxHeartbeats 4000000
structure SpO (C : Cx) (st sz : AV) (N0 rx : Nat) (G : zC) : Prop where
 s : ∃ a v rows, st = .os a v 0 C.ps.length ∧ a < N0 ∧ ¬ a = rx ∧ G[a]? = some (.arr v 1 rows) ∧ rows.length = C.ps.length ∧ ∀ i, i < C.ps.length → rows.getD i [] = [.sl 8 (zBE (C.ps.getD i default).body 0)]
 z : ∃ a v rows, sz = .os a v 0 C.ps.length ∧ a < N0 ∧ ¬ a = rx ∧ G[a]? = some (.arr v 1 rows) ∧ rows.length = C.ps.length ∧ ∀ i, i < C.ps.length → rows.getD i [] = [int (zM (C.ps.getD i default).body)]
theorem SpO.kp {C : Cx} {st sz : AV} {N0 rx rf : Nat} {G G' : zC} (h : SpO C st sz N0 rx G) (hk : KpX N0 rx rf G G') : SpO C st sz N0 rx G' := by
 obtain ⟨⟨a, v, rows, h1, h2, h3, h4, h5⟩, ⟨a', v', rows', g1, g2, g3, g4, g5⟩⟩ := h
 exact ⟨⟨a, v, rows, h1, h2, h3, (hk.keep a h2 h3).trans h4, h5⟩, ⟨a', v', rows', g1, g2, g3, (hk.keep a' g2 g3).trans g4, g5⟩⟩
theorem SpO.up {C : Cx} {st sz : AV} {N0 N1 rx : Nat} {G : zC} (h : SpO C st sz N0 rx G) (hN : N0 ≤ N1) : SpO C st sz N1 rx G := by
 obtain ⟨⟨a, v, rows, h1, h2, h3, h4, h5⟩, ⟨a', v', rows', g1, g2, g3, g4, g5⟩⟩ := h
 exact ⟨⟨a, v, rows, h1, by omega, h3, h4, h5⟩, ⟨a', v', rows', g1, by omega, g3, g4, g5⟩⟩
def lsM (C : Cx) (st sz om : AV) (l : List Ins) : Prop := ∀ (num base h h' lev : Int) (out : Bool) (N0 rx rf rs vs : Nat) (s : St) (G : zC), zBl C.ps C.k l out h = some h' → 0 ≤ h → h ≤ 1024 → 0 ≤ base → (out = true → base = 0) → TyS C s (base + h) →
 base ≤ 1024 * lev → 1 ≤ lev → lev + zAy l ≤ 257 → 0 ≤ num → num + zM l ≤ 32768 → StM C st sz om N0 rx rf rs vs s G → SpO C st sz N0 rx G → N0 ≤ G.length →
 ACallX Tryz.prog 133 [.ptr rx 0 0, .ptr rf 0 0, .sl 8 (zBE l num)] G (fun y G' => StMR C st sz om N0 rx rf rs vs (exL C l num s) y G G') fun z G' => StMZ C st sz om N0 rx rf (exL C l num s) z G G'
theorem StMR.kp {C : Cx} {st sz om : AV} {N0 rx rf rs vs : Nat} {r : Flow × St} {y : AV} {G G1 G2 : zC} (hk : KpX N0 rx rf G G1) (h : StMR C st sz om N0 rx rf rs vs r y G1 G2) : StMR C st sz om N0 rx rf rs vs r y G G2 := ⟨hk.trans h.1, h.2⟩
theorem StMZ.kp {C : Cx} {st sz om : AV} {N0 rx rf : Nat} {r : Flow × St} {z : Value} {G G1 G2 : zC} (hk : KpX N0 rx rf G G1) (h : StMZ C st sz om N0 rx rf r z G1 G2) : StMZ C st sz om N0 rx rf r z G G2 := ⟨hk.trans h.1, h.2⟩
structure LmI (C : Cx) (st sz om : AV) (N0 rx rf rs vs : Nat) (num oth : Int) (bd el : List Ins) (cs : List AV) (s0 : St) (G : zC) (r : Nat) (s : St) (e' : Env) (G1 : zC) : Prop where
 e0 : e' 0 = .ptr rx 0 0
 e4 : e' 4 = .ptr G.length 0 0
 e5 : e' 5 = .ptr (G.length + 1) 0 0
 e7 : e' 7 = .ptr (G.length + 2) 0 0
 e10 : e' 10 = int r
 kp : KpX N0 rx rf G G1
 b0 : G1[G.length]? = some (.box [.ptr rf 0 0])
 b1 : G1[G.length + 1]? = some (.box cs)
 b2 : G1[G.length + 2]? = some (.box [.fn (.func 223) [] [.ptr G.length 0 0, .ptr (G.length + 1) 0 0]])
 sh : StM C st sz om N0 rx rf rs vs s G1
 ty : TyS C s 0
 hr : (r : Int) ≤ C.L
 eq : zBL (exL C el oth) (exL C bd (num + 1)) C.k num C.L.toNat s0 = zBL (exL C el oth) (exL C bd (num + 1)) C.k num (C.L.toNat - r) s
section
variable {C : Cx} {st sz om : AV} {N0 rx rf rs vs : Nat} {slots stk : List Int} {cnt : Int} {G : zC} {a b num : Int} {bd el : List Ins}
theorem zQb (v : Int) (base h e lev : Int) (out : Bool) (hn : 0 ≤ num) (h0 : 1 ≤ h) (h1 : h ≤ 1024) (hb0 : 0 ≤ base) (ho : out = true → base = 0) (hty : TyS C ⟨slots, v :: stk, cnt⟩ (base + h)) (hlev : base ≤ 1024 * lev) (hl1 : 1 ≤ lev) (he1 : zBl C.ps C.k bd (out && decide (h = 1)) 0 = some e) (he2 : zBl C.ps C.k el (out && decide (h = 1)) 0 = some e) (hlv : lev + 1 + max (zAy bd) (zAy el) ≤ 257) (hnum : num + 1 + zM bd + zM el ≤ 32768) (p1 : lsM C st sz om bd) (p2 : lsM C st sz om el) (hsp : SpO C st sz N0 rx G) (h : StM C st sz om N0 rx rf rs vs ⟨slots, v :: stk, cnt⟩ G) (hN : N0 ≤ G.length) (hl : stk.length ≤ 300000) :
  ACallX Tryz.prog 180 [.ptr rx 0 0, .ptr rf 0 0, .agg (zAE 18 a b bd el num)] G (fun y G' => StMR C st sz om N0 rx rf rs vs (if (St.tick ⟨slots, v :: stk, cnt⟩).top = 0 then exL C el (num + 1 + zM bd) (St.tick ⟨slots, v :: stk, cnt⟩).pop else exL C bd (num + 1) (St.tick ⟨slots, v :: stk, cnt⟩).pop) y G G') fun z G' => StMZ C st sz om N0 rx rf (if (St.tick ⟨slots, v :: stk, cnt⟩).top = 0 then exL C el (num + 1 + zM bd) (St.tick ⟨slots, v :: stk, cnt⟩).pop else exL C bd (num + 1) (St.tick ⟨slots, v :: stk, cnt⟩).pop) z G G' := by
 obtain ⟨hrn, ⟨sk, hfr⟩, hx⟩ := h
 simp only at hrn hfr
 have hff := hfr.f
 have hss := hfr.s
 have nf := hfr.nf
 have ns := hfr.ns
 have hrx := zD hrn
 have hrf := zD hff
 have hrs := zD hss
 have hfs := zV hss hff (by simp)
 have hfr1 : FR (G3 C st sz om (IntKind.i64.wrap (cnt + 1)) rx rf G (zAE 18 a b bd el num)) N0 rf rs vs C.k slots (v :: stk) sk := hfr.mono fun i h1 h2 => zCe (by omega) h2
 have q0 : (G3 C st sz om (IntKind.i64.wrap (cnt + 1)) rx rf G (zAE 18 a b bd el num))[G.length]? = _ := zKV
 have q1 : (G3 C st sz om (IntKind.i64.wrap (cnt + 1)) rx rf G (zAE 18 a b bd el num))[G.length + 1]? = _ := zKU
 have q2 : (G3 C st sz om (IntKind.i64.wrap (cnt + 1)) rx rf G (zAE 18 a b bd el num))[G.length + 2]? = _ := zKT
 have qx : (G3 C st sz om (IntKind.i64.wrap (cnt + 1)) rx rf G (zAE 18 a b bd el num))[rx]? = _ := zII hrx
 have qf : (G3 C st sz om (IntKind.i64.wrap (cnt + 1)) rx rf G (zAE 18 a b bd el num))[rf]? = _ := hfr1.f
 have qs : (G3 C st sz om (IntKind.i64.wrap (cnt + 1)) rx rf G (zAE 18 a b bd el num))[rs]? = _ := hfr1.s
 have hty2 : TyS C (St.pop (St.tick ⟨slots, v :: stk, cnt⟩)) (base + h - 1 + 0) := ⟨hty.sl, hty.sr, fun x hx => hty.st x (by simp only [St.pop, St.tick, zYG] at hx; exact zYE _ hx), by have := hty.ln; simp only [zXI] at this; simp only [St.pop, St.tick, zYG]; omega⟩
 have hout : (out && decide (h = 1)) = true → base + h - 1 = 0 := fun hh => by
  rw [zXE, zXB] at hh
  have := ho hh.1
  omega
 by_cases h1v : v = 0
 ·rw [show (if (St.tick ⟨slots, v :: stk, cnt⟩).top = 0 then exL C el (num + 1 + zM bd) (St.tick ⟨slots, v :: stk, cnt⟩).pop else exL C bd (num + 1) (St.tick ⟨slots, v :: stk, cnt⟩).pop) = exL C el (num + 1 + zM bd) (St.pop (St.tick ⟨slots, v :: stk, cnt⟩)) from if_pos h1v]
  refine zBr Tryz.func180 L180_ok (zXs rfl) ?_
  repeat' (simp -implicitDefEqProofs (disch := omega) only [L180, hrn, q0, q1, zB, zG, zY, splice, zXv, zXw, zAZ, zAY, push_cast, simprocAttr, ↓reduceIte, zXq])
  refine zL (zN4 hfr1) ?_
  rintro _ G' ⟨rfl, hk, sk', hfr'⟩
  have hff' := hfr'.f
  have hss' := hfr'.s
  have b0 := hk.box G.length _ (by omega) q0
  have b1 := hk.box (G.length + 1) _ (by omega) q1
  have b2 := hk.box (G.length + 2) _ (by omega) q2
  have bx : _ = some (RnM C st sz om (IntKind.i64.wrap (cnt + 1))) := (hk.keep rx hx).trans qx
  have hle := hk.le
  simp only [zXT, zXG, zXI, zX6] at hle
  have hKX := (zIg (C := C) (st := st) (sz := sz) (om := om) (rx := rx) (rf := rf) hN).trans (hk.x rx)
  have hSH : StM C st sz om N0 rx rf rs vs (St.pop (St.tick ⟨slots, v :: stk, cnt⟩)) G' := ⟨bx, ⟨sk', hfr'⟩, hx⟩
  have hP := p2 (num + 1 + zM bd) (base + h - 1) 0 e (lev + 1) _ N0 rx rf rs vs _ G' he2 (by omega) (by omega) (by omega) hout hty2 (by omega) (by omega) (by omega) (by omega) (by omega) hSH (hsp.kp hKX) (by omega)
  repeat' (simp -implicitDefEqProofs (disch := omega) only [b0, b1, zXv, zXw, zAi, push_cast, simprocAttr, ↓reduceIte])
  refine zJ hP ?_ ?_
  ·rintro y G2 hst
   repeat' (simp -implicitDefEqProofs (disch := omega) only [push_cast])
   exact hst.kp hKX
  ·rintro z G2 hst
   repeat' (simp -implicitDefEqProofs (disch := omega) only [push_cast])
   exact hst.kp hKX
 ·rw [show (if (St.tick ⟨slots, v :: stk, cnt⟩).top = 0 then exL C el (num + 1 + zM bd) (St.tick ⟨slots, v :: stk, cnt⟩).pop else exL C bd (num + 1) (St.tick ⟨slots, v :: stk, cnt⟩).pop) = exL C bd (num + 1) (St.pop (St.tick ⟨slots, v :: stk, cnt⟩)) from if_neg h1v]
  refine zBr Tryz.func180 L180_ok (zXs rfl) ?_
  repeat' (simp -implicitDefEqProofs (disch := omega) only [L180, hrn, q0, q1, zB, zG, zY, splice, zXv, zXw, zAZ, zAY, push_cast, simprocAttr, ↓reduceIte, zXq])
  refine zL (zN4 hfr1) ?_
  rintro _ G' ⟨rfl, hk, sk', hfr'⟩
  have hff' := hfr'.f
  have hss' := hfr'.s
  have b0 := hk.box G.length _ (by omega) q0
  have b1 := hk.box (G.length + 1) _ (by omega) q1
  have b2 := hk.box (G.length + 2) _ (by omega) q2
  have bx : _ = some (RnM C st sz om (IntKind.i64.wrap (cnt + 1))) := (hk.keep rx hx).trans qx
  have hle := hk.le
  simp only [zXT, zXG, zXI, zX6] at hle
  have hKX := (zIg (C := C) (st := st) (sz := sz) (om := om) (rx := rx) (rf := rf) hN).trans (hk.x rx)
  have hSH : StM C st sz om N0 rx rf rs vs (St.pop (St.tick ⟨slots, v :: stk, cnt⟩)) G' := ⟨bx, ⟨sk', hfr'⟩, hx⟩
  have hP := p1 (num + 1) (base + h - 1) 0 e (lev + 1) _ N0 rx rf rs vs _ G' he1 (by omega) (by omega) (by omega) hout hty2 (by omega) (by omega) (by omega) (by omega) (by omega) hSH (hsp.kp hKX) (by omega)
  repeat' (simp -implicitDefEqProofs (disch := omega) only [b0, b1, zXv, zXw, zX, push_cast, simprocAttr, ↓reduceIte])
  refine zJ hP ?_ ?_
  ·rintro y G2 hst
   repeat' (simp -implicitDefEqProofs (disch := omega) only [push_cast])
   exact hst.kp hKX
  ·rintro z G2 hst
   repeat' (simp -implicitDefEqProofs (disch := omega) only [push_cast])
   exact hst.kp hKX
theorem zP9 (lev : Int) (hn : 0 ≤ num) (hwk : wOk C.w) (hp : zBZ C.ps C.k) (hcl : zSb C) (hL : 0 ≤ C.L ∧ C.L ≤ 8) (hlev0 : 1 ≤ lev) (hty : TyS C ⟨slots, stk, cnt⟩ 0) (he1 : zBl C.ps C.k bd true 0 = some 0) (he2 : zBl C.ps C.k el false 0 = some 1) (hlv : lev + 1 + max (zAy bd) (zAy el) ≤ 257) (hnum : num + 1 + zM bd + zM el ≤ 32768) (p1 : lsM C st sz om bd) (p2 : lsM C st sz om el) (hsp : SpO C st sz N0 rx G) (h : StM C st sz om N0 rx rf rs vs ⟨slots, stk, cnt⟩ G) (hN : N0 ≤ G.length) (hl : stk.length ≤ 300000) :
  ACallX Tryz.prog 180 [.ptr rx 0 0, .ptr rf 0 0, .agg (zAE 19 a b bd el num)] G (fun y G' => StMR C st sz om N0 rx rf rs vs (zBL (exL C el (num + 1 + zM bd)) (exL C bd (num + 1)) C.k num C.L.toNat (St.tick ⟨slots, stk, cnt⟩)) y G G') fun z G' => StMZ C st sz om N0 rx rf (zBL (exL C el (num + 1 + zM bd)) (exL C bd (num + 1)) C.k num C.L.toNat (St.tick ⟨slots, stk, cnt⟩)) z G G' := by
 obtain ⟨hrn, ⟨sk, hfr⟩, hx⟩ := h
 simp only at hrn hfr
 have hff := hfr.f
 have hss := hfr.s
 have nf := hfr.nf
 have ns := hfr.ns
 have hrx := zD hrn
 have hrf := zD hff
 have hrs := zD hss
 have hfs := zV hss hff (by simp)
 have hfr1 : FR (G3 C st sz om (IntKind.i64.wrap (cnt + 1)) rx rf G (zAE 19 a b bd el num)) N0 rf rs vs C.k slots (stk) sk := hfr.mono fun i h1 h2 => zCe (by omega) h2
 have q0 : (G3 C st sz om (IntKind.i64.wrap (cnt + 1)) rx rf G (zAE 19 a b bd el num))[G.length]? = _ := zKV
 have q1 : (G3 C st sz om (IntKind.i64.wrap (cnt + 1)) rx rf G (zAE 19 a b bd el num))[G.length + 1]? = _ := zKU
 have q2 : (G3 C st sz om (IntKind.i64.wrap (cnt + 1)) rx rf G (zAE 19 a b bd el num))[G.length + 2]? = _ := zKT
 have qx : (G3 C st sz om (IntKind.i64.wrap (cnt + 1)) rx rf G (zAE 19 a b bd el num))[rx]? = _ := zII hrx
 have qf : (G3 C st sz om (IntKind.i64.wrap (cnt + 1)) rx rf G (zAE 19 a b bd el num))[rf]? = _ := hfr1.f
 have qs : (G3 C st sz om (IntKind.i64.wrap (cnt + 1)) rx rf G (zAE 19 a b bd el num))[rs]? = _ := hfr1.s
 refine zBr Tryz.func180 L180_ok (zXs rfl) ?_
 repeat' (simp -implicitDefEqProofs (disch := omega) only [L180, hrn, q1, zB, zG, zY, splice, zXv, zXw, zAZ, zAY, push_cast, simprocAttr, ↓reduceIte, zXq])
 refine zAh (fun (t : Nat × St) e' G1 => LmI C st sz om N0 rx rf rs vs num (num + 1 + zM bd) bd el (zAE 19 a b bd el num) ⟨slots, stk, IntKind.i64.wrap (cnt + 1)⟩ G t.1 t.2 e' G1) (fun t => C.L.toNat - t.1) (0, ⟨slots, stk, IntKind.i64.wrap (cnt + 1)⟩) ?_ ?_
 ·exact ⟨rfl, rfl, rfl, rfl, rfl, zIg hN, q0, q1, q2, ⟨qx, ⟨sk, hfr1⟩, hx⟩, ⟨hty.sl, hty.sr, hty.st, hty.ln⟩, by dsimp only; omega, rfl⟩
 clear q0 q1 q2 qx qf qs hfr1
 rintro ⟨r, s⟩ e' G1 ⟨h0, h4, h5, h7, h10, hkp, b0, b1, b2, hsh, hts, hrL, heq⟩
 simp only at h10 hkp b0 b1 b2 hsh hts hrL heq
 have hlG := hkp.le
 have hlG2 := zD b2
 have hP2 := p2 (num + 1 + zM bd) 0 0 1 (lev + 1) false N0 rx rf rs vs s G1 he2 (by omega) (by omega) (by omega) (by intro hh; cases hh) (by simpa using hts) (by omega) (by omega) (by omega) (by omega) (by omega) hsh (hsp.kp hkp) (by omega)
 have hok := zDg hwk hp hcl el (num + 1 + zM bd) 0 0 1 false s he2 (by omega) (by omega) (by intro hh; cases hh) (by simpa using hts)
 have heq : zBL (exL C el (num + 1 + zM bd)) (exL C bd (num + 1)) C.k num C.L.toNat (St.tick ⟨slots, stk, cnt⟩) = zBL (exL C el (num + 1 + zM bd)) (exL C bd (num + 1)) C.k num (C.L.toNat - r) s := heq
 repeat' (simp -implicitDefEqProofs (disch := omega) only [h0, h4, h5, b0, b1, zXv, zXw, push_cast, simprocAttr, ↓reduceIte])
 refine zJ hP2 ?_ ?_
 rotate_left
 ·clear hP2
  cases hr1 : exL C el (num + 1 + zM bd) s with
  | mk f1 s1 =>
  cases f1 with
  | ret => rintro z G2 ⟨_, hh⟩; exact hh.elim
  | go => rintro z G2 ⟨_, hh⟩; exact hh.elim
  | flt f p at1 =>
   rintro z G2 ⟨hk2, rfl, hrn2⟩
   rw [heq, zPm hr1]
   repeat' (simp -implicitDefEqProofs (disch := omega) only [push_cast])
   exact ⟨hkp.trans hk2, rfl, hrn2⟩
 clear hP2
 cases hr1 : exL C el (num + 1 + zM bd) s with
 | mk f1 s1 =>
 rw [hr1] at hok
 cases f1 with
 | ret => exact absurd hok.1 (by decide)
 | flt f p at1 => rintro y G2 ⟨_, hh⟩; exact hh.elim
 | go =>
  rintro y G2 ⟨hk2, rfl, ⟨hrn2, ⟨sk2, hfr2⟩, _⟩⟩
  have hts2 : TyS C s1 (0 + 1) := hok
  obtain ⟨sl1, st1, c1⟩ := s1
  cases st1 with
  | nil => have := hts2.ln; simp at this
  | cons v st2 =>
  simp only at hrn2 hfr2
  have hff2 := hfr2.f
  have hts3 : TyS C ⟨sl1, st2, c1⟩ 0 := ⟨hts2.sl, hts2.sr, fun x hx => hts2.st x (zYE _ hx), by have := hts2.ln; simp only [zXI] at this; simp only; omega⟩
  have d0 := hk2.box _ _ (by omega) (by omega) b0
  have d1 := hk2.box _ _ (by omega) (by omega) b1
  have d2 := hk2.box _ _ (by omega) (by omega) b2
  by_cases hv : v = 0
  ·rw [heq, zMg hr1 hv]
   repeat' (simp -implicitDefEqProofs (disch := omega) only [h4, d0, zXw, push_cast, simprocAttr, ↓reduceIte])
   refine zL (zN4 hfr2) ?_
   rintro _ G3 ⟨rfl, hk3, sk3, hfr3⟩
   repeat' (simp -implicitDefEqProofs (disch := omega) only [hv, push_cast, ↓reduceIte])
   exact ⟨(hkp.trans hk2).trans (hk3.x rx), rfl, by rw [hk3.keep rx hx]; exact hrn2, ⟨sk3, hfr3⟩, hx⟩
  ·repeat' (simp -implicitDefEqProofs (disch := omega) only [h4, d0, zXw, push_cast, simprocAttr, ↓reduceIte])
   refine zL (zN4 hfr2) ?_
   rintro _ G3 ⟨rfl, hk3, sk3, hfr3⟩
   have hff3 := hfr3.f
   have hrn3 : G3[rx]? = some (RnM C st sz om c1) := by rw [hk3.keep rx hx]; exact hrn2
   have c0 := hk3.box _ _ (by omega) d0
   have c1' := hk3.box _ _ (by omega) d1
   have c2 := hk3.box _ _ (by omega) d2
   have hkk := (hkp.trans hk2).trans (hk3.x rx)
   by_cases hlim : (r : Int) = C.L
   ·rw [heq, show C.L.toNat - r = 0 by omega, zPl hr1 hv]
    repeat' (simp -implicitDefEqProofs (disch := omega) only [h0, h7, h10, c2, hrn3, zXv, zXw, zAi, zX, push_cast, simprocAttr, ↓reduceIte])
    refine zJ (zOr C G3 rf G.length (G.length + 1) C.k num 5 [] _ _ c0 hff3 _ _ _ _ _ _ _ c1') (fun _ _ hh => hh.elim) ?_
    rintro _ G4 ⟨rfl, rfl⟩
    repeat' (first | refine zXx (by omega) ?_ | simp -implicitDefEqProofs (disch := omega) only [push_cast])
    first | exact ⟨hkk, rfl, hrn3⟩ | exact hrn3
   ·have hL1 : C.L.toNat - r = (C.L.toNat - (r + 1)) + 1 := by omega
    have hsh3 : StM C st sz om N0 rx rf rs vs ⟨sl1, st2, c1⟩ G3 := ⟨hrn3, ⟨sk3, hfr3⟩, hx⟩
    have hP1 := p1 (num + 1) 0 0 0 (lev + 1) true N0 rx rf rs vs _ G3 he1 (by omega) (by omega) (by omega) (fun _ => rfl) (by simpa using hts3) (by omega) (by omega) (by omega) (by omega) (by omega) hsh3 (hsp.kp hkk) (by have := hkk.le; omega)
    have hok1 := zDg hwk hp hcl bd (num + 1) 0 0 0 true _ he1 (by omega) (by omega) (fun _ => rfl) (show TyS C ⟨sl1, st2, c1⟩ (0 + 0) by simpa using hts3)
    repeat' (simp -implicitDefEqProofs (disch := omega) only [h0, h4, h5, h10, c0, c1', hrn3, zXv, zXw, zX, push_cast, simprocAttr, ↓reduceIte])
    refine zJ hP1 ?_ ?_
    rotate_left
    ·clear hP1
     cases hr2 : exL C bd (num + 1) ⟨sl1, st2, c1⟩ with
     | mk f2 s2 =>
     cases f2 with
     | ret => rintro z G4 ⟨_, hh⟩; exact hh.elim
     | go => rintro z G4 ⟨_, hh⟩; exact hh.elim
     | flt f p at1 =>
      rintro z G4 ⟨hk4, rfl, hrn4⟩
      rw [heq, hL1, zPn hr1 hv hr2]
      repeat' (simp -implicitDefEqProofs (disch := omega) only [push_cast])
      exact ⟨hkk.trans hk4, rfl, hrn4⟩
    clear hP1
    cases hr2 : exL C bd (num + 1) ⟨sl1, st2, c1⟩ with
    | mk f2 s2 =>
    rw [hr2] at hok1
    cases f2 with
    | ret =>
     rintro y G4 ⟨hk4, rfl, hsh4⟩
     rw [heq, hL1, zPk hr1 hv hr2]
     repeat' (simp -implicitDefEqProofs (disch := omega) only [push_cast, ↓reduceIte])
     exact ⟨hkk.trans hk4, rfl, hsh4⟩
    | flt f p at1 => rintro y G4 ⟨_, hh⟩; exact hh.elim
    | go =>
     rintro y G4 ⟨hk4, rfl, hsh4⟩
     have e0 := hk4.box _ _ (by omega) (by omega) c0
     have e1 := hk4.box _ _ (by omega) (by omega) c1'
     have e2 := hk4.box _ _ (by omega) (by omega) c2
     have heq4 := heq.trans (by rw [hL1, zUg hr1 hv hr2])
     repeat' (simp -implicitDefEqProofs (disch := omega) only [h10, push_cast, ↓reduceIte, Nat.reduceEqDiff])
     exact .mk (r + 1, s2) ⟨h0, h4, h5, h7, rfl, hkk.trans hk4, e0, e1, e2, hsh4, by have : TyS C s2 (0 + 0) := hok1; simpa using this, by dsimp only; omega, heq4⟩ (by dsimp only; omega)
end
def InM (G : zC) (x : AV) (l : List Int) : Prop := InO G x l ∨ (x = zAg ∧ l = [])
def zNh (C : Cx) (st sz om : AV) (rx : Nat) (r : CR × Int) (y : AV) (G G' : zC) : Prop := Fr1 rx G G' ∧ match r with
 | (.ok out, c) => (∃ z, y = .sl z (out.map iR) ∧ (z = 1 ∨ out = [])) ∧ G'[rx]? = some (RnM C st sz om c)
 | (.flt f p a, c) => False
def zOR (C : Cx) (st sz om : AV) (rx : Nat) (r : CR × Int) (z : Value) (G G' : zC) : Prop := Fr1 rx G G' ∧ match r with
 | (.ok out, c) => False
 | (.flt f p a, c) => z = zIV f p a ∧ G'[rx]? = some (RnM C st sz om c)
def rnM (C : Cx) (st sz om : AV) : Prop := ∀ (j : Nat) (inp : List Int) (cnt : Int) (rx : Nat) (G : zC) (x : AV), j < C.k → (inp.length : Int) = (C.ps.getD j default).par → (∀ v ∈ inp, inI C.w v) → G[rx]? = some (RnM C st sz om cnt) → SpO C st sz G.length rx G → InM G x inp →
 ACallX Tryz.prog 74 [.ptr rx 0 0, int j, x] G (fun y G' => zNh C st sz om rx (C.cl j inp cnt) y G G') fun z G' => zOR C st sz om rx (C.cl j inp cnt) z G G'
theorem zUL (H : zC) : zAe 31 [zAg] H zAg := by
 refine enter Tryz.func31 L31_ok (zXs rfl) ?_
 repeat' (simp -implicitDefEqProofs (disch := omega) only [L31, push_cast, simprocAttr, ↓reduceIte])
 refine ⟨trivial, fun b hb => ?_⟩
 have hb : b = true := hb
 subst hb
 repeat' (simp -implicitDefEqProofs (disch := omega) only [push_cast, ↓reduceIte])
theorem zUK {r v off n : Nat} {rows : List (List AV)} {H : zC} (hg : H[r]? = some (.arr v 1 rows)) (hl : off + n ≤ rows.length) (hb : rows.length ≤ 1048576) : ACall Tryz.prog 31 [.os r v off n] H fun y G => (y = zAg ∧ n = 0 ∧ G = H) ∨ (y = .os H.length 1 0 n ∧ G = H ++ [.arr 1 1 ((rows.drop off).take n)]) := by
 have hlt := zD hg
 have hln : ((rows.drop off).take n).length = n := by rw [zX1, zY9]; omega
 refine enter Tryz.func31 L31_ok (zXs rfl) ?_
 repeat' (simp -implicitDefEqProofs (disch := omega) only [L31, push_cast, simprocAttr, ↓reduceIte])
 refine ⟨by simp [slcK, hg, isArr, isVer], fun b hb => ?_⟩
 cases b with
 | true =>
  have hb : n = 0 := hb rfl
  subst hb
  repeat' (simp -implicitDefEqProofs (disch := omega) only [push_cast, ↓reduceIte, reduceCtorEq])
 | false =>
  repeat' (first | refine zXx (by omega) ?_ | simp -implicitDefEqProofs (disch := omega) only [hg, zB, zF, zZw, zXF, hl, hln, push_cast, simprocAttr, ↓reduceIte])
  all_goals first | omega | exact .inr ⟨rfl, rfl⟩
section
variable {C : Cx} {st sz om : AV} {N0 rx rf rs vs : Nat} {slots stk : List Int} {cnt : Int} {G : zC} {a b num : Int} {bd el : List Ins}
theorem zP7 (p : Nat) (ha : 0 ≤ a ∧ a < C.k) (hkl : C.k < C.ps.length) (hps : C.ps.length ≤ 1048576) (hpp : (C.ps.getD a.toNat default).par = p) (hpl : p ≤ stk.length) (hin : ∀ v ∈ stk.take p, inI C.w v) (hcl : ∀ out c, C.cl a.toNat (stk.take p).reverse (IntKind.i64.wrap (cnt + 1)) = (.ok out, c) → out.length ≤ 90000) (hsp : SpO C st sz N0 rx G) (hR : rnM C st sz om) (h : StM C st sz om N0 rx rf rs vs ⟨slots, stk, cnt⟩ G) (hN : N0 ≤ G.length) (hl : stk.length ≤ 300000) :
  ACallX Tryz.prog 180 [.ptr rx 0 0, .ptr rf 0 0, .agg (zAE 20 a b bd el num)] G (fun y G' => StMR C st sz om N0 rx rf rs vs (exS C 20 a b num (St.tick ⟨slots, stk, cnt⟩)) y G G') fun z G' => StMZ C st sz om N0 rx rf (exS C 20 a b num (St.tick ⟨slots, stk, cnt⟩)) z G G' := by
 obtain ⟨hrn, ⟨sk, hfr⟩, hx⟩ := h
 simp only at hrn hfr
 have hff := hfr.f
 have hss := hfr.s
 have nf := hfr.nf
 have ns := hfr.ns
 have hrx := zD hrn
 have hrf := zD hff
 have hrs := zD hss
 have hfs := zV hss hff (by simp)
 have hfr1 : FR (G3 C st sz om (IntKind.i64.wrap (cnt + 1)) rx rf G (zAE 20 a b bd el num)) N0 rf rs vs C.k slots (stk) sk := hfr.mono fun i h1 h2 => zCe (by omega) h2
 have q0 : (G3 C st sz om (IntKind.i64.wrap (cnt + 1)) rx rf G (zAE 20 a b bd el num))[G.length]? = _ := zKV
 have q1 : (G3 C st sz om (IntKind.i64.wrap (cnt + 1)) rx rf G (zAE 20 a b bd el num))[G.length + 1]? = _ := zKU
 have q2 : (G3 C st sz om (IntKind.i64.wrap (cnt + 1)) rx rf G (zAE 20 a b bd el num))[G.length + 2]? = _ := zKT
 have qx : (G3 C st sz om (IntKind.i64.wrap (cnt + 1)) rx rf G (zAE 20 a b bd el num))[rx]? = _ := zII hrx
 have qf : (G3 C st sz om (IntKind.i64.wrap (cnt + 1)) rx rf G (zAE 20 a b bd el num))[rf]? = _ := hfr1.f
 have qs : (G3 C st sz om (IntKind.i64.wrap (cnt + 1)) rx rf G (zAE 20 a b bd el num))[rs]? = _ := hfr1.s
 have hex : exS C 20 a b num (St.tick ⟨slots, stk, cnt⟩) = zGb (St.tick ⟨slots, stk, cnt⟩) p (C.cl a.toNat (stk.take p).reverse (IntKind.i64.wrap (cnt + 1))) := by
  show zGb _ (C.ps.getD a.toNat default).par.toNat _ = _
  rw [hpp]; rfl
 rw [hex]
 have hgd : (C.ps.map prR).getD a.toNat [] = prR (C.ps.getD a.toNat default) := zAD (by omega)
 have hinp : ((stk.take p).reverse.length : Int) = (C.ps.getD a.toNat default).par := by rw [hpp, zXS, zX1]; omega
 have hinI : ∀ v ∈ (stk.take p).reverse, inI C.w v := fun v hv => hin v (zZa.1 hv)
 have hR' := fun G' x h1 h2 h3 => hR a.toNat (stk.take p).reverse (IntKind.i64.wrap (cnt + 1)) rx G' x (by omega) hinp hinI h1 h2 h3
 rw [show ((a.toNat : Nat) : Int) = a by omega] at hR'
 clear hex
 generalize hRR : C.cl a.toNat (stk.take p).reverse (IntKind.i64.wrap (cnt + 1)) = R at *
 have hgo : ∀ outl c, R = (.ok outl, c) → zGb (St.tick ⟨slots, stk, cnt⟩) p R = (.go, ⟨slots, outl.reverse ++ stk.drop p, c⟩) := fun outl c h => by rw [h]; rfl
 have hflt : ∀ f q a1 c, R = (.flt f q a1, c) → zGb (St.tick ⟨slots, stk, cnt⟩) p R = (.flt f q a1, ⟨slots, stk, c⟩) := fun f q a1 c h => by rw [h]; rfl
 generalize zGb (St.tick ⟨slots, stk, cnt⟩) p R = S at *
 have hsp1 := hsp.kp (zIg (C := C) (st := st) (sz := sz) (om := om) (cnt := IntKind.i64.wrap (cnt + 1)) (rx := rx) (rf := rf) (cs := zAE 20 a b bd el num) hN)
 have hkp1 := zIg (C := C) (st := st) (sz := sz) (om := om) (cnt := IntKind.i64.wrap (cnt + 1)) (rx := rx) (rf := rf) (cs := zAE 20 a b bd el num) hN
 have hl1 : (G3 C st sz om (IntKind.i64.wrap (cnt + 1)) rx rf G (zAE 20 a b bd el num)).length = G.length + 3 := zUq
 cases hfr.t with
 | nil =>
  have hp0 : p = 0 := by simpa using hpl
  subst hp0
  refine zBr Tryz.func180 L180_ok (zXs rfl) ?_
  repeat' (first | refine zXx (by omega) ?_ | simp -implicitDefEqProofs (disch := omega) only [L180, hrn, q0, q1, qx, qf, zB, zG, zY, splice, zXv, zXw, zAZ, zAY, push_cast, simprocAttr, ↓reduceIte, zXq])
  generalize hZ : (G.set rx (RnM C st sz om (IntKind.i64.wrap (cnt + 1))) ++ [HO.box [.ptr rf 0 0], HO.box (zAE 20 a b bd el num), HO.box [.fn (.func 223) [] [.ptr G.length 0 0, .ptr (G.length + 1) 0 0]]]) = Z
  have hZ' : G3 C st sz om (IntKind.i64.wrap (cnt + 1)) rx rf G (zAE 20 a b bd el num) = Z := hZ
  rw [hZ'] at q0 q1 q2 qx qf qs hfr1 hsp1 hkp1 hl1
  clear hZ hZ'
  repeat' (first | refine zA (zUL _) ?_ | simp -implicitDefEqProofs (disch := omega) only [q0, q1, qf, hgd, hpp, zP, zBH, zXF, zH, splice, zXv, zXw, push_cast, simprocAttr, ↓reduceIte, zXq])
  have k2 : Kp0 N0 rf Z (Z.set rf (.box [int C.k, .os rs vs 0 slots.length, zAg])) := Kp0.setf nf _
  have f2 : FR (Z.set rf (.box [int C.k, .os rs vs 0 slots.length, zAg])) N0 rf rs vs C.k slots (([] : List Int).drop 0) zAg := ⟨by rw [zXD (zD qf)], by rw [zXy (fun e => hfs e.symm)]; exact qs, .nil, nf, ns⟩
  have m2 : InM (Z.set rf (.box [int C.k, .os rs vs 0 slots.length, zAg])) zAg ((([] : List Int).take 0).reverse) := .inr ⟨rfl, rfl⟩
  have hl0 : (([] : List Int).drop 0).length ≤ 300000 := by simp
  have bx2 := (k2.keep rx hx).trans qx
  have sp2 := hsp1.kp (k2.x rx)
  have hNZ : N0 ≤ Z.length := by omega
  have hle2 := k2.le
  have b0' := k2.box _ _ (by omega) q0
  obtain ⟨r, c⟩ := R
  cases r with
  | flt f q a1 =>
   refine zAU (hR' _ _ bx2 (sp2.up (zX3 hNZ k2.le)) m2) (fun y G2 hh => hh.2.elim) ?_
   rintro z G2 ⟨hF, rfl, hrn2⟩
   rw [hflt _ _ _ _ rfl]
   repeat' (simp -implicitDefEqProofs (disch := omega) only [push_cast])
   exact ⟨(hkp1.trans (k2.x rx)).trans (zE2 hF (zX3 hNZ k2.le)), rfl, hrn2⟩
  | ok outl =>
   refine zAU (hR' _ _ bx2 (sp2.up (zX3 hNZ k2.le)) m2) ?_ (fun z G2 hh => hh.2.elim)
   rintro y G2 ⟨hF, ⟨z, rfl, hz⟩, hrn2⟩
   have f3 := f2.fr1 hx hF
   have f3f := f3.f
   have b0'' := (hF.2 G.length (zD b0') (by omega)).trans b0'
   rw [hgo _ _ rfl]
   repeat' (simp -implicitDefEqProofs (disch := omega) only [b0'', zXw, push_cast, simprocAttr, ↓reduceIte])
   refine zL (zN1 outl z hz (hcl _ _ rfl) f3 hl0) ?_
   rintro _ G4 ⟨rfl, hk4, sk4, hf4⟩
   repeat' (simp -implicitDefEqProofs (disch := omega) only [push_cast])
   exact ⟨((hkp1.trans (k2.x rx)).trans (zE2 hF (zX3 hNZ k2.le))).trans (hk4.x rx), rfl, by rw [hk4.keep rx hx]; exact hrn2, ⟨sk4, by simpa using hf4⟩, hx⟩
 | os rt vt rows _ n hnn hg ht hlr hbb0 h0 hne =>
  subst hnn
  have hft := zV hg hff (by simp)
  have hrt := zD hg
  have qt : (G3 C st sz om (IntKind.i64.wrap (cnt + 1)) rx rf G (zAE 20 a b bd el num))[rt]? = some (.arr vt 1 rows) := (zCe (by omega) hrt).trans hg
  have hix : ((stk.length : Int) - p).toNat = stk.length - p := by omega
  have hix2 : stk.length - (stk.length - p) = p := by omega
  have hdr := zIq ht hpl
  have htr := zDo ht hpl
  refine zBr Tryz.func180 L180_ok (zXs rfl) ?_
  repeat' (simp -implicitDefEqProofs (disch := omega) only [L180, hrn, q0, q1, qx, qf, zB, zG, zH, zZ, zY, splice, zXv, zXw, zAZ, zAY, push_cast, simprocAttr, ↓reduceIte, zXq])
  generalize hZ : (G.set rx (RnM C st sz om (IntKind.i64.wrap (cnt + 1))) ++ [HO.box [.ptr rf 0 0], HO.box (zAE 20 a b bd el num), HO.box [.fn (.func 223) [] [.ptr G.length 0 0, .ptr (G.length + 1) 0 0]]]) = Z
  have hZ' : G3 C st sz om (IntKind.i64.wrap (cnt + 1)) rx rf G (zAE 20 a b bd el num) = Z := hZ
  rw [hZ'] at q0 q1 q2 qx qf qs hfr1 hsp1 hkp1 hl1 qt
  clear hZ hZ'
  have hfrt : ∀ Z2 : zC, Z2[rf]? = some (.box [int C.k, .os rs vs 0 slots.length, .os rt vt 0 (stk.length - p)]) → Z2[rs]? = Z[rs]? → Z2[rt]? = Z[rt]? → FR Z2 N0 rf rs vs C.k slots (stk.drop p) (.os rt vt 0 (stk.length - p)) := fun Z2 e1 e2 e3 =>
   ⟨e1, e2.trans qs, .os rt vt rows _ _ (by simp) (e3.trans qt) htr (by omega) hbb0 h0 hne, nf, ns⟩
  have hl0 : (stk.drop p).length ≤ 300000 := by rw [zY9]; omega
  repeat' (first | refine zXx (by omega) ?_ | simp -implicitDefEqProofs (disch := omega) only [q0, qf, qt, hg, hix, hix2, hgd, hpp, zP, zBH, zXF, zXv, zXw, push_cast, simprocAttr, ↓reduceIte])
  refine zL (zUK (off := stk.length - p) (n := p) qt (by omega) (by omega)) ?_
  rintro y Z1 (⟨rfl, hp0, hZ1⟩ | ⟨rfl, hZ1⟩)
  ·rw [hZ1]
   repeat' (first | refine zXx (by omega) ?_ | simp -implicitDefEqProofs (disch := omega) only [q0, q1, qf, qt, hix, zYD, zH, splice, zXv, zXw, push_cast, simprocAttr, ↓reduceIte, zXq])
   have k2 : Kp0 N0 rf Z (Z.set rf (.box [int C.k, .os rs vs 0 slots.length, .os rt vt 0 (stk.length - p)])) := Kp0.setf nf _
   have f2 := hfrt (Z.set rf (.box [int C.k, .os rs vs 0 slots.length, .os rt vt 0 (stk.length - p)])) (by rw [zXD (zD qf)]) (by rw [zXy (fun e => hfs e.symm)]) (by rw [zXy (fun e => hft e.symm)])
   have m2 : InM (Z.set rf (.box [int C.k, .os rs vs 0 slots.length, .os rt vt 0 (stk.length - p)])) zAg (stk.take p).reverse := .inr ⟨rfl, by rw [hp0]; rfl⟩
   have bx2 := (k2.keep rx hx).trans qx
   have sp2 := hsp1.kp (k2.x rx)
   have hNZ : N0 ≤ Z.length := by omega
   have hle2 := k2.le
   have b0' := k2.box _ _ (by omega) q0
   obtain ⟨r, c⟩ := R
   cases r with
   | flt f q a1 =>
    refine zAU (hR' _ _ bx2 (sp2.up (zX3 hNZ k2.le)) m2) (fun y G2 hh => hh.2.elim) ?_
    rintro z G2 ⟨hF, rfl, hrn2⟩
    rw [hflt _ _ _ _ rfl]
    repeat' (simp -implicitDefEqProofs (disch := omega) only [push_cast])
    exact ⟨(hkp1.trans (k2.x rx)).trans (zE2 hF (zX3 hNZ k2.le)), rfl, hrn2⟩
   | ok outl =>
    refine zAU (hR' _ _ bx2 (sp2.up (zX3 hNZ k2.le)) m2) ?_ (fun z G2 hh => hh.2.elim)
    rintro y G2 ⟨hF, ⟨z, rfl, hz⟩, hrn2⟩
    have f3 := f2.fr1 hx hF
    have f3f := f3.f
    have b0'' := (hF.2 G.length (zD b0') (by omega)).trans b0'
    rw [hgo _ _ rfl]
    repeat' (simp -implicitDefEqProofs (disch := omega) only [b0'', zXw, push_cast, simprocAttr, ↓reduceIte])
    refine zL (zN1 outl z hz (hcl _ _ rfl) f3 hl0) ?_
    rintro _ G4 ⟨rfl, hk4, sk4, hf4⟩
    repeat' (simp -implicitDefEqProofs (disch := omega) only [push_cast])
    exact ⟨((hkp1.trans (k2.x rx)).trans (zE2 hF (zX3 hNZ k2.le))).trans (hk4.x rx), rfl, by rw [hk4.keep rx hx]; exact hrn2, ⟨sk4, by simpa using hf4⟩, hx⟩
  ·rw [hZ1]
   repeat' (first | refine zXx (by omega) ?_ | simp -implicitDefEqProofs (disch := omega) only [q0, q1, qf, qt, hix, zYD, zB, zG, zH, zZ, splice, zXv, zXw, push_cast, simprocAttr, ↓reduceIte, zXq])
   have k2 : Kp0 N0 rf Z (Z.set rf (.box [int C.k, .os rs vs 0 slots.length, .os rt vt 0 (stk.length - p)]) ++ [HO.arr 1 1 ((rows.drop (stk.length - p)).take p)]) := (Kp0.setf nf _).trans (Kp0.app (by simp; omega) _)
   have f2 := hfrt (Z.set rf (.box [int C.k, .os rs vs 0 slots.length, .os rt vt 0 (stk.length - p)]) ++ [HO.arr 1 1 ((rows.drop (stk.length - p)).take p)]) (by rw [zXu (by simpa using zD qf), zXD (zD qf)]) (by rw [zXu (by simpa using zD qs), zXy (fun e => hfs e.symm)]) (by rw [zXu (by simpa using zD qt), zXy (fun e => hft e.symm)])
   have m2 : InM (Z.set rf (.box [int C.k, .os rs vs 0 slots.length, .os rt vt 0 (stk.length - p)]) ++ [HO.arr 1 1 ((rows.drop (stk.length - p)).take p)]) (.os Z.length 1 0 p) (stk.take p).reverse := .inl (.inr ⟨Z.length, 1, by rw [zXS, zX1, zYQ hpl], by rw [zAs, hdr]⟩)
   have bx2 := (k2.keep rx hx).trans qx
   have sp2 := hsp1.kp (k2.x rx)
   have hNZ : N0 ≤ Z.length := by omega
   have hle2 := k2.le
   have b0' := k2.box _ _ (by omega) q0
   obtain ⟨r, c⟩ := R
   cases r with
   | flt f q a1 =>
    refine zAU (hR' _ _ bx2 (sp2.up (zX3 hNZ k2.le)) m2) (fun y G2 hh => hh.2.elim) ?_
    rintro z G2 ⟨hF, rfl, hrn2⟩
    rw [hflt _ _ _ _ rfl]
    repeat' (simp -implicitDefEqProofs (disch := omega) only [push_cast])
    exact ⟨(hkp1.trans (k2.x rx)).trans (zE2 hF (zX3 hNZ k2.le)), rfl, hrn2⟩
   | ok outl =>
    refine zAU (hR' _ _ bx2 (sp2.up (zX3 hNZ k2.le)) m2) ?_ (fun z G2 hh => hh.2.elim)
    rintro y G2 ⟨hF, ⟨z, rfl, hz⟩, hrn2⟩
    have f3 := f2.fr1 hx hF
    have f3f := f3.f
    have b0'' := (hF.2 G.length (zD b0') (by omega)).trans b0'
    rw [hgo _ _ rfl]
    repeat' (simp -implicitDefEqProofs (disch := omega) only [b0'', zXw, push_cast, simprocAttr, ↓reduceIte])
    refine zL (zN1 outl z hz (hcl _ _ rfl) f3 hl0) ?_
    rintro _ G4 ⟨rfl, hk4, sk4, hf4⟩
    repeat' (simp -implicitDefEqProofs (disch := omega) only [push_cast])
    exact ⟨((hkp1.trans (k2.x rx)).trans (zE2 hF (zX3 hNZ k2.le))).trans (hk4.x rx), rfl, by rw [hk4.keep rx hx]; exact hrn2, ⟨sk4, by simpa using hf4⟩, hx⟩
end
theorem zNE {C : Cx} {st sz : AV} {ks : List Value} {vm : List AV} (ok : zSa C) (hm : OpM C.w [] ks vm) (hR : rnM C st sz (.mp ks vm)) (x : Ins) (p1 : lsM C st sz (.mp ks vm) x.body) (p2 : lsM C st sz (.mp ks vm) x.els) {num base h h' lev : Int} {out : Bool} {N0 rx rf rs vs : Nat} {s : St} {G : zC} (H : zVU C x num base h h' lev out s) (hs : StM C st sz (.mp ks vm) N0 rx rf rs vs s G) (hsp : SpO C st sz N0 rx G) (hN : N0 ≤ G.length) :
  ACallX Tryz.prog 180 [.ptr rx 0 0, .ptr rf 0 0, .agg (zLb x num)] G (fun y G' => StMR C st sz (.mp ks vm) N0 rx rf rs vs (exI C x num s) y G G') fun z G' => StMZ C st sz (.mp ks vm) N0 rx rf (exI C x num s) z G G' := by
 obtain ⟨hw, hp, hcl, hL, hkl, hps, hsl⟩ := ok
 obtain ⟨he, h0, h1, b0, bo, hty, hlev, l1, lv, n0, nn⟩ := H
 obtain ⟨o, a, b, bd, el⟩ := x
 have hins : zLb (.mk o a b bd el) num = zAE o a b bd el num := by rw [zFD]; rfl
 rw [hins]
 simp only [Ins.body, Ins.els] at p1 p2
 simp only [zBs] at nn
 simp only [zCz] at lv
 have hln := hty.ln
 have hlb : base ≤ 263168 := by omega
 have hn : 0 ≤ num ∧ num ≤ 1000000 := by omega
 have hc : zM bd ≤ 1000000 := by omega
 have hsll : (s.slots.length : Int) ≤ 1024 := by rw [hty.sl]; exact hsl
 have hslq := hty.sl
 by_cases h18 : o = 18
 ·subst h18
  obtain ⟨_, _, g1, e, g2, g3, g4, g5⟩ := zCE.1 he
  obtain ⟨slots, stk, cnt⟩ := s
  cases stk with
  | nil => simp at hln; omega
  | cons v stk =>
   rw [zIn, if_pos rfl]
   exact zQb v base h e lev out n0 g1 h1 b0 bo hty hlev l1 g2 g3 (by omega) (by omega) p1 p2 hsp hs hN (by simp only [zXI] at hln; omega)
 by_cases h19 : o = 19
 ·subst h19
  obtain ⟨_, _, g1, g2, g3, g4, _⟩ := zGk.1 he
  obtain ⟨slots, stk, cnt⟩ := s
  have hb := bo g1
  subst hb; subst g2
  rw [zIn, if_neg (by decide), if_pos rfl]
  exact zP9 lev n0 hw hp hcl hL l1 (by simpa using hty) g4 g3 (by omega) (by omega) p1 p2 hsp hs hN (by simp only at hln; omega)
 rw [zME C o a b num s h18 h19]
 by_cases h20 : o = 20
 ·subst h20
  obtain ⟨_, _, g1, g2, g3, _⟩ := zMU.1 he
  obtain ⟨slots, stk, cnt⟩ := s
  have hpj := hp a.toNat (by omega)
  obtain ⟨p, hpp⟩ : ∃ p : Nat, (C.ps.getD a.toNat default).par = p := ⟨(C.ps.getD a.toNat default).par.toNat, by omega⟩
  have hpl : p ≤ stk.length := by simp only at hln; omega
  have hin : ∀ v ∈ stk.take p, inI C.w v := fun v hv => hty.st v (zYf hv)
  refine zP7 p g1 hkl hps hpp hpl hin (fun outl c hcc => ?_) hsp hR hs hN (by simp only at hln; omega)
  have := hcl a.toNat (by omega) (stk.take p).reverse (IntKind.i64.wrap (cnt + 1)) (by rw [hpp, zXS, zX1]; omega) fun v hv => hin v (zZa.1 hv)
  rw [hcc] at this
  have h2 := zDO hpj.2.2.1 hpj.2.2.2
  have := this.1
  omega
 simp only [zB1] at he
 split at he
 case isFalse => cases he
 rename_i hf
 obtain ⟨f1, f2, f3, f4, f5, f6, f7, f8⟩ := hf
 have hsl2 : (s.slots.length : Int) = (C.ps.getD C.k default).slots := hty.sl
 obtain ⟨e01, e2, e3, e4, e5⟩ := @zA2 C.ps C.k o a out h
 by_cases ho : o = 22
 ·subst ho
  rw [e2 (.inr rfl)] at he
  have := zAW he
  obtain ⟨slots, stk, cnt⟩ := s
  cases stk with
  | nil => simp at hln; omega
  | cons v stk => exact zP3 v hs hN (by simp only [zXI] at hln; omega)
 have u22 : o ≤ 21 := by omega
 clear ho
 by_cases ho : o = 21
 ·subst ho
  obtain ⟨slots, stk, cnt⟩ := s
  exact zP5 hs hN (by simp only at hln; omega)
 have u21 : o ≤ 20 := by omega
 clear ho
 have u17 : o ≤ 17 := by omega
 clear h18 h19 h20 u22 u21
 by_cases ho : o = 17
 ·subst ho
  rw [e3 (.inr (.inr rfl))] at he
  have := zAW he
  obtain ⟨slots, stk, cnt⟩ := s
  cases stk with
  | nil => simp at hln; omega
  | cons v stk => exact zQd v hm hs hN (by simp only [zXI] at hln; omega)
 have v17 : o ≤ 16 := by omega
 clear ho
 by_cases ho : o = 16
 ·subst ho
  rw [e3 (.inr (.inl rfl))] at he
  have := zAW he
  obtain ⟨slots, stk, cnt⟩ := s
  cases stk with
  | nil => simp at hln; omega
  | cons v stk => exact zQf v hm hw (hty.st v (by simp)) hs hN (by simp only [zXI] at hln; omega)
 have v16 : o ≤ 15 := by omega
 clear ho
 by_cases ho : o = 0
 ·subst ho
  obtain ⟨slots, stk, cnt⟩ := s
  have := f4 rfl
  exact zSW (by omega) hs hN (by simp only at hln; omega)
 have w0 : 1 ≤ o := by omega
 clear ho
 by_cases ho : o = 1
 ·subst ho
  obtain ⟨slots, stk, cnt⟩ := s
  have := f5 (.inl rfl)
  exact zSU (by simp only at hsl2; omega) hs hN (by simp only at hln; omega)
 have w1 : 2 ≤ o := by omega
 clear ho
 by_cases ho : o = 2
 ·subst ho
  rw [e2 (.inl rfl)] at he
  have := zAW he
  obtain ⟨slots, stk, cnt⟩ := s
  cases stk with
  | nil => simp at hln; omega
  | cons v stk =>
   have := f5 (.inr rfl)
   exact zSS v (by simp only at hsl2; omega) hs hN (by simp only [zXI] at hln; omega)
 have w2 : 3 ≤ o := by omega
 clear ho
 by_cases ho : o = 3
 ·subst ho
  rw [e3 (.inl rfl)] at he
  have := zAW he
  obtain ⟨slots, stk, cnt⟩ := s
  cases stk with
  | nil => simp at hln; omega
  | cons v stk =>
   have := f6 (.inl rfl)
   exact zSQ v (by simp only at hsl2; omega) (by simp only at hsl2; omega) (by simp only at hsll; omega) (zEu hw (hty.st v (by simp))) hs hN (by simp only [zXI] at hln; omega)
 have w3 : 4 ≤ o := by omega
 clear ho
 by_cases ho : o = 4
 ·subst ho
  rw [e4 rfl] at he
  have := zAW he
  obtain ⟨slots, stk, cnt⟩ := s
  match stk, hln with
  | [], hln => simp at hln; omega
  | [v], hln => simp at hln; omega
  | v :: i :: stk, hln =>
   have := f6 (.inr rfl)
   exact zSO v i (by simp only at hsl2; omega) (by simp only at hsl2; omega) (by simp only at hsll; omega) (zEu hw (hty.st i (by simp))) hs hN (by simp only [zXI] at hln; omega)
 have w4 : 5 ≤ o := by omega
 clear ho
 rw [e5 (by omega)] at he
 have := zAW he
 obtain ⟨slots, stk, cnt⟩ := s
 match stk, hty, hs, hln with
 | [], _, _, hln => simp at hln; omega
 | [v], _, _, hln => simp at hln; omega
 | v :: i :: stk, hty, hs, hln =>
  have k1 : inI C.w i := hty.st i (zYE _ (zZc ..))
  have k2 : inI C.w v := hty.st v (zZc ..)
  have k3 : 5 ≤ o := by omega
  have k4 : o ≤ 15 := by omega
  have k5 : stk.length ≤ 300000 := by simp only [zXI] at hln; omega
  exact zSM (o := o) (v2 := v) (v1 := i) hm hw k3 k4 k1 k2 hs hN k5
structure LmsI (C : Cx) (st sz om : AV) (l : List Ins) (num base lev : Int) (out : Bool) (N0 rx rf rs vs : Nat) (s0 : St) (h' : Int) (G : zC) (j : Nat) (s : St) (h : Int) (e' : Env) (G1 : zC) : Prop where
 e0 : e' 0 = .ptr rx 0 0
 e1 : e' 1 = .ptr rf 0 0
 e9 : e' 9 = .sl 8 (zBE l num)
 e10 : e' 10 = int l.length
 e11 : e' 11 = int j
 hj : j ≤ l.length
 kp : KpX N0 rx rf G G1
 sh : StM C st sz om N0 rx rf rs vs s G1
 ty : TyS C s (base + h)
 h0 : 0 ≤ h
 h1 : h ≤ 1024
 ef : zBl C.ps C.k (l.drop j) out h = some h'
 eq : exL C l num s0 = exL C (l.drop j) (num + zM (l.take j)) s
theorem zUf {C : Cx} {st sz : AV} {ks : List Value} {vm : List AV} (ok : zSa C) (hm : OpM C.w [] ks vm) (hR : rnM C st sz (.mp ks vm)) (l : List Ins) : lsM C st sz (.mp ks vm) l := by
 induction l using Ins.indL with
 | h l ih =>
 intro num base h0 h' lev out N0 rx rf rs vs s0 G hef hh0 hh1 b0 bo hty hlev l1 lv n0 nn hsh hsp hN
 have hln := zR l
 refine zBr Tryz.func133 L133_ok (zXs rfl) ?_
 repeat' (simp -implicitDefEqProofs (disch := omega) only [L133, zEm, push_cast, simprocAttr, ↓reduceIte])
 refine zAh (fun (t : Nat × St × Int) e' G1 => LmsI C st sz (.mp ks vm) l num base lev out N0 rx rf rs vs s0 h' G t.1 t.2.1 t.2.2 e' G1) (fun t => l.length - t.1) (0, s0, h0) ?_ ?_
 ·exact ⟨rfl, rfl, rfl, rfl, rfl, zXJ _, KpX.refl, hsh, hty, hh0, hh1, by simpa using hef, by simp [zM]⟩
 rintro ⟨j, s, h⟩ e' G1 ⟨e0, e1, e9, e10, e11, hj, kp, sh, ty, g0, g1, ef, eq⟩
 simp only at e11 hj kp sh ty g0 g1 ef eq
 by_cases hlt : j < l.length
 ·have hmem := zAq hlt
  obtain ⟨p1, p2⟩ := ih _ hmem
  rw [zAR _ _ hlt] at ef
  cases hxe : zB1 C.ps C.k (l.getD j default) out h with
  | none => rw [hxe] at ef; cases ef
  | some g =>
  rw [hxe] at ef
  have ef : zBl C.ps C.k (l.drop (j + 1)) out g = some h' := ef
  have hgr := zES ok.hp _ out h g g0 g1 hxe
  have hit := zAl l (j + 1)
  rw [zAf hlt] at hit
  have hlm := zHm hmem
  have hIH : zVU C (l.getD j default) (num + zM (l.take j)) base h g lev out s := ⟨hxe, g0, g1, b0, bo, ty, hlev, l1, by omega, by omega, by omega⟩
  have kp1 : ∀ x, KpX N0 rx rf G1 (G1 ++ [x]) := fun x => KpX.app (zX3 hN kp.le) [x]
  have sh1 : ∀ x, StM C st sz (.mp ks vm) N0 rx rf rs vs s (G1 ++ [x]) := fun x => by
   obtain ⟨a1, ⟨sk, a2⟩, a3⟩ := sh
   exact ⟨by rw [zXu (zD a1)]; exact a1, ⟨sk, a2.mono fun i _ hi => zXu hi⟩, a3⟩
  have hstep := fun x => zNE ok hm hR (l.getD j default) p1 p2 hIH (sh1 x) ((hsp.kp kp).kp (kp1 x)) (by have := kp.le; simp; omega)
  have hok := zMG ok.hw ok.hp ok.hcl (l.getD j default) (num + zM (l.take j)) base h g out s hxe g0 b0 bo ty
  rw [zKa C hlt] at eq
  have hrow : (zBE l num).getD j [] = zLb (l.getD j default) (num + zM (l.take j)) := zGp hlt num
  repeat' (first | refine zXx (by omega) ?_ | simp -implicitDefEqProofs (disch := omega) only [e0, e1, e9, e10, e11, hrow, zPZ, zND, zP0, zEm, zY, zY, splice, zXv, zXw, zO, push_cast, simprocAttr, ↓reduceIte, zXq])
  refine zJ (hstep _) ?_ ?_
  rotate_left
  ·cases hx : exI C (l.getD j default) (num + zM (l.take j)) s with
   | mk f s1 =>
   rw [hx] at eq
   cases f with
   | ret => rintro z G2 ⟨_, hh⟩; exact hh.elim
   | go => rintro z G2 ⟨_, hh⟩; exact hh.elim
   | flt f p a =>
    rintro z G2 ⟨hk2, rfl, hrn2⟩
    rw [show exL C l num s0 = (.flt f p a, s1) from eq]
    repeat' (simp -implicitDefEqProofs (disch := omega) only [push_cast])
    exact ⟨(kp.trans (kp1 _)).trans hk2, rfl, hrn2⟩
  cases hx : exI C (l.getD j default) (num + zM (l.take j)) s with
  | mk f s1 =>
  rw [hx] at hok eq
  cases f with
  | ret =>
   rintro y G2 ⟨hk2, rfl, hsh2⟩
   rw [show exL C l num s0 = (.ret, s1) from eq]
   repeat' (simp -implicitDefEqProofs (disch := omega) only [push_cast, ↓reduceIte])
   exact ⟨(kp.trans (kp1 _)).trans hk2, rfl, hsh2⟩
  | flt f p a => rintro z G2 ⟨_, hh⟩; exact hh.elim
  | go =>
   rintro y G2 ⟨hk2, rfl, hsh2⟩
   have hsn := zAf hlt
   repeat' (simp -implicitDefEqProofs (disch := omega) only [e11, push_cast, ↓reduceIte, Nat.reduceEqDiff])
   refine .mk (j + 1, s1, g) ⟨e0, e1, e9, e10, rfl, hlt, (kp.trans (kp1 _)).trans hk2, hsh2, hok, hgr.1, hgr.2, ef, ?_⟩ (by dsimp only; omega)
   rw [show exL C l num s0 = exL C (l.drop (j + 1)) (num + zM (l.take j) + zBs (l.getD j default)) s1 from eq, hsn]
   congr 1
   omega
 ·have e : j = l.length := by omega
  subst e
  rw [zZi] at eq
  rw [show exL C l num s0 = (.go, s) from eq]
  repeat' (first | refine zXx (by omega) ?_ | simp -implicitDefEqProofs (disch := omega) only [e10, e11, zT, push_cast, ↓reduceIte])
  first | exact ⟨kp, rfl, sh⟩ | exact sh
theorem InM.mono {G G' : zC} {x : AV} {l : List Int} (h : InM G x l) (hk : ∀ i, i < G.length → G'[i]? = G[i]?) : InM G' x l := h.imp (fun h => h.mono hk) id
theorem zV9 {G : zC} {x : AV} {l : List Int} (h : InM G x l) : rowsOf G x = some (l.map iR) := by
 rcases h with (rfl | ⟨r, v, rfl, hg⟩) | ⟨rfl, rfl⟩
 ·rfl
 ·have e : (l.map iR).take l.length = l.map iR := zXR (by simp)
  simp [rowsOf, osRows, hg, e]
 ·rfl
theorem szM {G : zC} {x : AV} {l : List Int} (h : InM G x l) : szOk G 1 x := by
 rcases h with (rfl | ⟨r, v, rfl, hg⟩) | ⟨rfl, rfl⟩
 ·simp [szOk]
 ·simp [szOk, hg]
 ·simp [szOk]
theorem zTv {C : Cx} {st sz om : AV} {rx rq rf rs vs : Nat} {sl : List Int} {sk : AV} {c1 : Int} {G G2 : zC} {e : Env} {Z : Value → zC → Prop} (hF : Fr1 rx G G2) (hrx : rx < G.length) (hrn : G2[rx]? = some (RnM C st sz om c1)) (hq : G2[rq]? = some (.box (prR C.q))) (hf : G2[rf]? = some (.box [int C.k, .os rs vs 0 sl.length, sk])) (hs : G2[rs]? = some (.arr vs 1 (sl.map iR)))
  (h6 : C.q.outs.length ≤ 128) (h8 : ∀ s ∈ C.q.outs, 0 ≤ s ∧ s < sl.length) (hsl : sl.length ≤ 100000) (e7 : e 7 = .ptr rq 0 0) (e8 : e 8 = .ptr rf 0 0) (e10 : e 10 = .os G2.length 0 0 0) (e63 : e 63 = .sl 1 (C.q.outs.map iR)) (e64 : e 64 = int C.q.outs.length) (e65 : e 65 = int 0) :
  zAj Tryz.prog [.code (L74.body.sub [1, 1, 1, 1, 1, 1, 1, 0, 1, 0]), .blk 0, .code (L74.body.sub [1, 1, 1, 1, 1, 1, 1, 1])] (zI1 [RV.tmp 6] (fun y G' => zNh C st sz om rx (CR.ok (C.q.outs.map fun i => sl.getD i.toNat default), c1) y G G') Z) .normal e (G2 ++ [.arr 0 1 []]) := by
 refine zAh (fun (s : Nat × Nat) e' H' => e' 7 = .ptr rq 0 0 ∧ e' 8 = .ptr rf 0 0 ∧ e' 10 = .os G2.length s.2 0 s.1 ∧ e' 63 = .sl 1 (C.q.outs.map iR) ∧ e' 64 = int C.q.outs.length ∧ e' 65 = int s.1 ∧ H' = G2 ++ [.arr s.2 1 (((C.q.outs.take s.1).map fun i => sl.getD i.toNat default).map iR)] ∧ s.1 ≤ C.q.outs.length) (fun s => C.q.outs.length - s.1) (0, 0) ?_ ?_
 ·exact ⟨e7, e8, e10, e63, e64, e65, rfl, zXJ _⟩
 have hlq := zD hq
 have hlf := zD hf
 have hls := zD hs
 rintro ⟨i, v⟩ e' H' ⟨e7, e8, e10, e63, e64, e65, rfl, hi⟩
 simp only at e10 e65 hi
 by_cases hlt : i < C.q.outs.length
 ·have hm := h8 _ (zAq hlt)
  have hor : (C.q.outs.map iR).getD i [] = [int (C.q.outs.getD i default)] := zQ hlt
  have hmt : (C.q.outs.getD i default).toNat < sl.length := by have h1 := hm.1; have h2 := hm.2; generalize C.q.outs.getD i default = z at *; omega
  have hsr : (sl.map iR).getD (C.q.outs.getD i default).toNat [] = [int (sl.getD (C.q.outs.getD i default).toNat default)] := zQ hmt
  have htk : (((C.q.outs.take i).map fun i => sl.getD i.toNat default).map iR).take i = ((C.q.outs.take i).map fun i => sl.getD i.toNat default).map iR := zXR (by rw [zXr, zXr, zX1]; omega)
  have hln : (((C.q.outs.take i).map fun i => sl.getD i.toNat default).map iR).length = i := by rw [zXr, zXr, zX1]; omega
  have hsn := zBT hlt
  repeat' (first | refine zXx (by omega) ?_ | simp -implicitDefEqProofs (disch := omega) only [e8, e10, e63, e64, e65, hf, hs, hor, hsr, htk, hln, zF, zXF, zXr, zB, zXv, zXw, zO, push_cast, simprocAttr, ↓reduceIte, zXq])
  refine .mk (i + 1, v + 1) ⟨e7, e8, rfl, e63, e64, rfl, ?_, hlt⟩ (by dsimp only; omega)
  simp only [hsn, zYg, zYx, zZk, iR]
 ·have e : i = C.q.outs.length := by omega
  subst e
  rw [zZb] at *
  have hln : ((C.q.outs.map fun i => sl.getD i.toNat default).map iR).length = C.q.outs.length := by simp
  repeat' (first | refine zXx (by omega) ?_ | simp -implicitDefEqProofs (disch := omega) only [L74, LCode.sub, e10, e64, e65, hln, zF, zXF, zXw, zT, push_cast, ↓reduceIte, Nat.reduceEqDiff])
  refine ⟨⟨by rw [zXT]; have := hF.1; omega, fun i hi hne => ?_⟩, ⟨1, ?_, .inl rfl⟩, ?_⟩
  ·rw [zXu (zXN hi hF.1)]; exact hF.2 i hi hne
  ·rw [zXR (by simp)]
  ·rw [zXu (zD hrn)]; exact hrn
set_option maxHeartbeats 1000000 in
theorem zLG {C : Cx} {st sz : AV} {ks : List Value} {vm : List AV} (ok : zSa C) (hm : OpM C.w [] ks vm) (hR : rnM C st sz (.mp ks vm)) (hh : zCk C.q) (hb : zM C.q.body ≤ 32768) (hlv : zAy C.q.body ≤ 256) (hef : zBl C.ps C.k C.q.body true 0 = some 0) (inp : List Int) (cnt : Int) (rx : Nat) (G : zC) (x : AV) (hi : (inp.length : Int) = C.q.par) (hin : ∀ v ∈ inp, inI C.w v) (hrn : G[rx]? = some (RnM C st sz (.mp ks vm) cnt)) (hsp : SpO C st sz G.length rx G) (hx : InM G x inp) :
  ACallX Tryz.prog 74 [.ptr rx 0 0, int C.k, x] G (fun y G' => zNh C st sz (.mp ks vm) rx (fin C.q C.k (exL C C.q.body 0 ⟨zCG C.q inp, [], cnt⟩)) y G G') fun z G' => zOR C st sz (.mp ks vm) rx (fin C.q C.k (exL C C.q.body 0 ⟨zCG C.q inp, [], cnt⟩)) z G G' := by
 obtain ⟨h1, h2, h3, h4, h5, h6, h7, h8⟩ := hh
 have hrx := zD hrn
 have hgd : (C.ps.map prR).getD C.k [] = prR C.q := zAD ok.hkl
 have hkl := ok.hkl
 have hps := ok.hps
 obtain ⟨n, hn⟩ : ∃ n : Nat, C.q.slots = n := ⟨C.q.slots.toNat, by omega⟩
 have hS : zCG C.q inp = zBo n inp inp.length := by rw [zCP]; unfold zCG; rw [hn]; rfl
 rw [hS]
 have hro : ∀ l, rowsOf (G ++ l) x = some (inp.map iR) := fun l => zV9 (hx.mono fun i hi => zXu hi)
 have hso : ∀ l, szOk (G ++ l) 1 x = True := fun l => by simp only [eq_iff_iff, iff_true]; exact szM (hx.mono fun i hi => zXu hi)
 have hsp0 := hsp
 obtain ⟨⟨a, va, rowsA, rfl, ha0, ha1, ha2, ha3, ha4⟩, ⟨a', v', rows', rfl, hb0, hb1, hb2, hb3, hb4⟩⟩ := hsp
 have hst := ha4 C.k hkl
 have hnl : inp.length ≤ n := by omega
 have hmin : min inp.length n = inp.length := by omega
 have hcp : inp.map iR ++ (List.replicate n [int 0]).drop inp.length = (zBo n inp inp.length).map iR := by
  rw [zCP, List.drop_replicate, zYg, List.map_replicate]; rfl
 refine zBr Tryz.func74 L74_ok (zXs rfl) ?_
 repeat' (first | refine zXx (by omega) ?_ | simp -implicitDefEqProofs (disch := omega) only [L74, hrn, hgd, zAc, zF, hn, zP, zBK, zDf, zBA, rBuild, fillA, hro, hso, ha2, hst, ha3, hmin, hcp, zXF, zXr, List.length_replicate, zB, zY, splice, zXv, zXw, push_cast, simprocAttr, ↓reduceIte, zXq])
 generalize hZ : G ++ [HO.box (prR C.q), HO.arr 0 1 ((zBo n inp inp.length).map iR), HO.box [int C.k, .os (G.length + 1) 0 0 n, zAg]] = Z
 have kp : Kp0 G.length (G.length + 2) G Z := by rw [← hZ]; exact Kp0.app (zXL _) _
 have bx : Z[G.length]? = some (.box (prR C.q)) := by rw [← hZ]; simp
 have hsl := zGs (zXL inp.length) hnl
 have fr : FR Z G.length (G.length + 2) (G.length + 1) 0 C.k (zBo n inp inp.length) [] zAg := by
  rw [← hZ]
  exact ⟨by rw [hsl]; simp [zAc], by simp [zAc], .nil, by omega, by omega⟩
 clear hZ hro hso
 have hrn1 : Z[rx]? = some (RnM C (.os a va 0 C.ps.length) (.os a' v' 0 C.ps.length) (.mp ks vm) cnt) := by rw [kp.keep rx hrx]; exact hrn
 have hS0 : ∀ v ∈ zBo n inp inp.length, inI C.w v := fun v hv => by
  rw [zCP] at hv
  rcases zXV.1 hv with hv | hv
  ·exact hin v hv
  ·rw [(zZJ.1 hv).2, zBM ok.hw]
   have := zCA ok.hw
   omega
 have hty : TyS C ⟨zBo n inp inp.length, [], cnt⟩ (0 + 0) := ⟨by simp only [hsl]; exact hn.symm, hS0, by simp, rfl⟩
 have hkX := kp.x rx
 have hls := zUf ok hm hR C.q.body 0 0 0 0 1 true G.length rx (G.length + 2) (G.length + 1) 0 ⟨zBo n inp inp.length, [], cnt⟩ Z hef (by omega) (by omega) (by omega) (fun _ => rfl) hty (by omega) (by omega) (by omega) (by omega) (by omega) ⟨hrn1, ⟨_, fr⟩, hrx⟩ (hsp0.kp hkX) kp.le
 have hok := zDg ok.hw ok.hp ok.hcl C.q.body 0 0 0 0 true _ hef (by omega) (by omega) (fun _ => rfl) hty
 have hfr1 : ∀ {G' : zC}, KpX G.length rx (G.length + 2) G G' → Fr1 rx G G' := fun h => ⟨h.1, fun i hi hne => h.2 i hi hne⟩
 refine zJ hls ?_ ?_
 rotate_left
 ·cases hx : exL C C.q.body 0 ⟨zBo n inp inp.length, [], cnt⟩ with
  | mk f s1 =>
  cases f with
  | ret => rintro z G2 ⟨_, hh⟩; exact hh.elim
  | go => rintro z G2 ⟨_, hh⟩; exact hh.elim
  | flt f p a1 =>
   rintro z G2 ⟨hk2, rfl, hrn2⟩
   rw [show fin C.q C.k (Flow.flt f p a1, s1) = (.flt f p a1, s1.cnt) from rfl]
   repeat' (simp -implicitDefEqProofs (disch := omega) only [push_cast])
   exact ⟨hfr1 (hkX.trans hk2), rfl, hrn2⟩
 cases hx : exL C C.q.body 0 ⟨zBo n inp inp.length, [], cnt⟩ with
 | mk f s1 =>
 rw [hx] at hok
 obtain ⟨sl1, stk1, c1⟩ := s1
 cases f with
 | flt f p a1 => rintro y G2 ⟨_, hh⟩; exact hh.elim
 | ret =>
  rintro y G2 ⟨hk2, rfl, ⟨hrn2, ⟨sk2, fr2⟩, _⟩⟩
  have hbx2 := hk2.box _ _ (by omega) (by omega) bx
  have hff2 := fr2.f
  have hss2 := fr2.s
  by_cases hres : 0 ≤ C.q.res
  ·rw [show fin C.q C.k (Flow.ret, (⟨sl1, stk1, c1⟩ : St)) = (.ok stk1.reverse, c1) from if_pos hres]
   cases fr2.t with
   | nil =>
    repeat' (simp -implicitDefEqProofs (disch := omega) only [hbx2, hff2, zA7, zP, zXv, zXw, zAd, push_cast, simprocAttr, ↓reduceIte])
    exact ⟨hfr1 (hkX.trans hk2), ⟨0, rfl, .inr rfl⟩, hrn2⟩
   | os rt vt rows _ m hm' hg ht hl hb h0' hne =>
    have hk3 : KpX G.length rx (G.length + 2) G2 (G2.set rt .dead) := (Kp0.seta h0' hg _).x rx
    have hm2 : m = stk1.length := hm'
    clear hm'
    subst hm2
    repeat' (first | refine zXx (by omega) ?_ | simp -implicitDefEqProofs (disch := omega) only [hbx2, hff2, hg, zA7, zP, zXv, zXw, zAd, push_cast, simprocAttr, ↓reduceIte])
    exact ⟨hfr1 ((hkX.trans hk2).trans hk3), ⟨1, by rw [ht], .inl rfl⟩, by rw [zXy (by omega)]; exact hrn2⟩
  ·rw [show fin C.q C.k (Flow.ret, (⟨sl1, stk1, c1⟩ : St)) = (.ok (C.q.outs.map fun i => sl1.getD i.toNat default), c1) from if_neg hres]
   have hs1 : (sl1.length : Int) = C.q.slots := hok.2.sl
   have hlb := zD hbx2
   have hO := fun Z e0 e1 e2 e3 e4 e5 e6 => zTv (C := C) (sl := sl1) (e := e0) (Z := Z) (hfr1 (hkX.trans hk2)) hrx hrn2 hbx2 hff2 hss2 h6 (by rw [hs1]; exact h8) (by omega) e1 e2 e3 e4 e5 e6
   repeat' (simp -implicitDefEqProofs (disch := omega) only [hbx2, zA7, zAV, zP, zXr, zB, zAn, push_cast, simprocAttr, ↓reduceIte])
   exact hO _ _ rfl rfl rfl rfl rfl rfl
 | go =>
  rintro y G2 ⟨hk2, rfl, ⟨hrn2, ⟨sk2, fr2⟩, _⟩⟩
  have hbx2 := hk2.box _ _ (by omega) (by omega) bx
  have hff2 := fr2.f
  have hss2 := fr2.s
  by_cases hres : 0 ≤ C.q.res
  ·rw [show fin C.q C.k (Flow.go, (⟨sl1, stk1, c1⟩ : St)) = (.flt 4 C.k (zM C.q.body), c1) from if_pos hres]
   have hsz := ((hkX.trans hk2).keep a' hb0 hb1).trans hb2
   have hst2 := hb4 C.k hkl
   repeat' (first | refine zXx (by omega) ?_ | simp -implicitDefEqProofs (disch := omega) only [hbx2, hrn2, hsz, hst2, hb3, zXF, zA7, zP, rBuild, fillA, splice, zXv, zXw, zAd, push_cast, simprocAttr, ↓reduceIte, zXq])
   exact ⟨hfr1 (hkX.trans hk2), rfl, hrn2⟩
  ·rw [show fin C.q C.k (Flow.go, (⟨sl1, stk1, c1⟩ : St)) = (.ok (C.q.outs.map fun i => sl1.getD i.toNat default), c1) from if_neg hres]
   have hty2 : TyS C ⟨sl1, stk1, c1⟩ (0 + 0) := hok
   have hs1 : (sl1.length : Int) = C.q.slots := hty2.sl
   have hlb := zD hbx2
   have hO := fun Z e0 e1 e2 e3 e4 e5 e6 => zTv (C := C) (sl := sl1) (e := e0) (Z := Z) (hfr1 (hkX.trans hk2)) hrx hrn2 hbx2 hff2 hss2 h6 (by rw [hs1]; exact h8) (by omega) e1 e2 e3 e4 e5 e6
   repeat' (simp -implicitDefEqProofs (disch := omega) only [hbx2, zA7, zAV, zP, zXr, zB, zAn, push_cast, simprocAttr, ↓reduceIte])
   exact hO _ _ rfl rfl rfl rfl rfl rfl
theorem zS8 {ps : List Pr} {w L : Int} {st sz : AV} {ks : List Value} {vm : List AV} (hw : wOk w) (hL : 0 ≤ L ∧ L ≤ 8) (hv : zBt ps) (hm : OpM w [] ks vm) : ∀ (m k n : Nat), k ≤ m → k ≤ n → k < ps.length → rnM ⟨ps, w, L, k, zCQ ps w L n⟩ st sz (.mp ks vm) := by
 intro m
 induction m with
 | zero =>
  intro k n h1 _ _ j inp cnt rx G x hj
  simp only at hj; omega
 | succ m ih =>
  intro k n h1 h2 h3 j inp cnt rx G x hj hi hin hrn hsp hx
  simp only at hj
  obtain ⟨n, rfl⟩ : ∃ n', n = n' + 1 := ⟨n - 1, by omega⟩
  obtain ⟨_, p2, p3, p4, p5⟩ := hv.2 j (by omega)
  have hsn := zBf (show j < ps.length by omega)
  exact zLG (C := ⟨ps, w, L, j, zCQ ps w L n⟩) (zVG hw hL hv (by omega) (by omega)) hm (ih j n (by omega) (by omega) (by omega)) p2 (by simp only [Cx.q]; omega) p4 p5 inp cnt rx G x hi hin hrn ⟨hsp.s, hsp.z⟩ hx
theorem zQv {ps : List Pr} {w L : Int} {st sz : AV} {ks : List Value} {vm : List AV} (hw : wOk w) (hL : 0 ≤ L ∧ L ≤ 8) (hv : zBt ps) (hm : OpM w [] ks vm) {k : Nat} (hk : k < ps.length) (inp : List Int) (cnt : Int) (rx : Nat) (G : zC) (x : AV) (hi : (inp.length : Int) = (ps.getD k default).par) (hin : ∀ v ∈ inp, inI w v)
  (hrn : G[rx]? = some (.box [zAM ps, int w, int L, st, sz, .mp ks vm, int cnt])) (hsp : SpO ⟨ps, w, L, k, zCQ ps w L k⟩ st sz G.length rx G) (hx : InM G x inp) :
  ACallX Tryz.prog 74 [.ptr rx 0 0, int k, x] G (fun y G' => zNh ⟨ps, w, L, k, zCQ ps w L k⟩ st sz (.mp ks vm) rx (zCQ ps w L (k + 1) k inp cnt) y G G') fun z G' => zOR ⟨ps, w, L, k, zCQ ps w L k⟩ st sz (.mp ks vm) rx (zCQ ps w L (k + 1) k inp cnt) z G G' := by
 obtain ⟨_, p2, p3, p4, p5⟩ := hv.2 k hk
 have hsn := zBf hk
 exact zLG (C := ⟨ps, w, L, k, zCQ ps w L k⟩) (zVG hw hL hv (zXL _) hk) hm (zS8 hw hL hv hm k k k (zXL _) (zXL _) hk) p2 (by simp only [Cx.q]; omega) p4 p5 inp cnt rx G x hi hin hrn hsp hx
theorem zSX (w n : Int) (r : Nat) (L : AV) (H : zC) (hr : H[r]? = some (.box [int w, L])) : zAe 71 [int n, .ptr r 0 0] H (bool (!decide (inI w n))) := by
 refine enter Tryz.func71 L71_ok (zXs rfl) ?_
 repeat' (first | refine zA (zPv w n _) ?_ | simp -implicitDefEqProofs (disch := omega) only [L71, hr, push_cast, simprocAttr, ↓reduceIte])
def zCY (ps : List Pr) (p w L : Int) (inp : List Int) (H : zC) (x : AV) (H' : zC) : Prop :=
 (∃ rest, H' = H ++ rest) ∧ ((¬ zEY ps p w L inp ∧ x = .tup [.v (.pointer none), int (zC0 ps p w L inp)]) ∨
  (zEY ps p w L inp ∧ ∃ rx st sz ks vm, x = .tup [.ptr rx 0 0, int 0] ∧ OpM w [] ks vm ∧ H.length ≤ rx ∧ H'[rx]? = some (.box [zAM ps, int w, int L, st, sz, .mp ks vm, int 0]) ∧ ∀ k cl, SpO ⟨ps, w, L, k, cl⟩ st sz H'.length rx H'))
def zXm (ps : List Pr) (H G : zC) (j : Nat) (st sz : AV) : Prop :=
 (j = 0 ∧ st = zAg ∧ sz = zAg) ∨ (∃ a v rows a' v' rows', st = .os a v 0 j ∧ sz = .os a' v' 0 j ∧ H.length + 3 ≤ a ∧ H.length + 3 ≤ a' ∧ ¬ a = a' ∧ G[a]? = some (.arr v 1 rows) ∧ G[a']? = some (.arr v' 1 rows') ∧ rows.length = j ∧ rows'.length = j ∧
  (∀ i, i < j → rows.getD i [] = [.sl 8 (zBE (ps.getD i default).body 0)]) ∧ (∀ i, i < j → rows'.getD i [] = [int (zM (ps.getD i default).body)]))
structure StI (ps : List Pr) (w L : Int) (om : AV) (H : zC) (j : Nat) (e' : Env) (G : zC) : Prop where
 e12 : e' 12 = .ptr (H.length + 2) 0 0
 e77 : e' 77 = zAM ps
 e78 : e' 78 = int ps.length
 e79 : e' 79 = int j
 hj : j ≤ ps.length
 gl : H.length + 3 ≤ G.length
 fr : ∀ i, i < H.length → G[i]? = H[i]?
 bx : ∃ st sz, G[H.length + 2]? = some (.box [zAM ps, int w, int L, st, sz, om, int 0]) ∧ zXm ps H G j st sz
theorem zIe {rows : List (List AV)} {j : Nat} {f : Nat → List AV} {x : List AV} (hl : rows.length = j) (h : ∀ i, i < j → rows.getD i [] = f i) (hx : x = f j) : ∀ i, i < j + 1 → (rows ++ [x]).getD i [] = f i := fun i hi => by
 by_cases hij : i = j
 ·subst hij
  rw [zXC, zXz (by omega), hl, zZl, ← hx]; rfl
 ·rw [← h i (by omega), zXC, zXC, zXu (by omega)]
theorem zMz {G : zC} {a b c : Nat} {X Y Z : HO} {l : zC} (hc : c < G.length) : (((G.set a X).set b Y).set c Z ++ l)[c]? = some Z := by
 rw [zXu (by simpa using hc), zXD (by simpa using hc)]
theorem zRr {G : zC} {a b c : Nat} {X Y Z W : HO} {l : zC} (hc : c < G.length) : (((G.set a X).set b Y).set c Z ++ l).set c W = ((G.set a X).set b Y).set c W ++ l := by
 rw [zY6 _ _ (by simpa using hc), List.set_set]
set_option maxHeartbeats 2000000 in
theorem zOZ (ps : List Pr) (hs : zB0 ps) (p w L : Int) (hp : zBP p) (inp : List Int) (hl : inp.length ≤ 1048576) (hi : ∀ v ∈ inp, zBP v) (H : zC) : ACall Tryz.prog 41 [.agg [zAM ps], int p, .agg [int w, int L], .sl 1 (inp.map iR)] H fun x H' => zCY ps p w L inp H x H' := by
 refine enter Tryz.func41 L41_ok (zXs rfl) ?_
 have cV := fun H => zGP ps hs H
 have cC := fun H => zUJ ps hs p L H
 by_cases h1 : wOk w ∧ 0 ≤ L ∧ L ≤ 8
 rotate_left
 ·have hE : zC0 ps p w L inp = 1 := by unfold zC0; rw [if_pos h1]
  have hS : ∀ x H', x = .tup [.v (.pointer none), int 1] → (∃ rest, H' = H ++ rest) → zCY ps p w L inp H x H' := fun x H' hx hr => ⟨hr, .inl ⟨fun hh => h1 ⟨hh.hw, hh.hl⟩, by rw [hE]; exact hx⟩⟩
  generalize zCY ps p w L inp H = S at *
  unfold wOk at h1
  by_cases a1 : w < 2
  ·repeat' (simp -implicitDefEqProofs (disch := omega) only [L41, zY, zO, push_cast, simprocAttr, ↓reduceIte, zXq])
   exact hS _ _ rfl ⟨_, rfl⟩
  by_cases a2 : 8 < w
  ·repeat' (simp -implicitDefEqProofs (disch := omega) only [L41, zY, zO, zT, push_cast, simprocAttr, ↓reduceIte, zXq])
   exact hS _ _ rfl ⟨_, rfl⟩
  by_cases a3 : L < 0
  ·repeat' (simp -implicitDefEqProofs (disch := omega) only [L41, zY, zO, zT, push_cast, simprocAttr, ↓reduceIte, zXq])
   exact hS _ _ rfl ⟨_, rfl⟩
  ·have a4 : 8 < L := by omega
   repeat' (simp -implicitDefEqProofs (disch := omega) only [L41, zY, zO, zT, push_cast, simprocAttr, ↓reduceIte, zXq])
   exact hS _ _ rfl ⟨_, rfl⟩
 have b1 := h1.1.1
 have b2 := h1.1.2
 have b3 := h1.2.1
 have b4 := h1.2.2
 by_cases h2 : zBt ps
 rotate_left
 ·have hE : zC0 ps p w L inp = 1 := by unfold zC0; rw [if_neg (zX2 h1), if_pos h2]
  have hS : ∀ x H', x = .tup [.v (.pointer none), int 1] → (∃ rest, H' = H ++ rest) → zCY ps p w L inp H x H' := fun x H' hx hr => ⟨hr, .inl ⟨fun hh => h2 hh.hv, by rw [hE]; exact hx⟩⟩
  rw [zEl h2] at cV
  generalize zCY ps p w L inp H = S at *
  repeat' (first | refine zA (cV _) ?_ | simp -implicitDefEqProofs (disch := omega) only [L41, zF, zY, zT, push_cast, simprocAttr, ↓reduceIte, zXq])
  exact hS _ _ rfl ⟨_, rfl⟩
 rw [zB9.2 h2] at cV
 have h8 := h2.1
 by_cases h3 : p < 0 ∨ ps.length ≤ p
 ·have hE : zC0 ps p w L inp = 7 := by unfold zC0; rw [if_neg (zX2 h1), if_neg (zX2 h2), if_pos h3]
  have hS : ∀ x H', x = .tup [.v (.pointer none), int 7] → (∃ rest, H' = H ++ rest) → zCY ps p w L inp H x H' := fun x H' hx hr => ⟨hr, .inl ⟨fun hh => by have := hh.hp; omega, by rw [hE]; exact hx⟩⟩
  have hcA : zBC ps p L = .tup [int 0, int 7] := by unfold zBC; rw [if_neg (by simp [zB9.2 h2]), if_pos h3]
  rw [hcA] at cC
  generalize zCY ps p w L inp H = S at *
  repeat' (first | refine zA (cV _) ?_ | refine zA (cC _) ?_ | simp -implicitDefEqProofs (disch := omega) only [L41, zF, zY, zT, push_cast, simprocAttr, ↓reduceIte, zXq])
  exact hS _ _ rfl ⟨_, rfl⟩
 have hcA : zBC ps p L = .tup [int (zET ps p.toNat L), int 0] := by unfold zBC; rw [if_neg (by simp [zB9.2 h2]), if_neg h3, if_neg (by omega)]
 rw [hcA] at cC
 by_cases h4 : 67108864 < zET ps p.toNat L
 ·have hE : zC0 ps p w L inp = 8 := by unfold zC0; rw [if_neg (zX2 h1), if_neg (zX2 h2), if_neg h3, if_pos h4]
  have hS : ∀ x H', x = .tup [.v (.pointer none), int 8] → (∃ rest, H' = H ++ rest) → zCY ps p w L inp H x H' := fun x H' hx hr => ⟨hr, .inl ⟨fun hh => by have := hh.hc; omega, by rw [hE]; exact hx⟩⟩
  generalize zCY ps p w L inp H = S at *
  repeat' (first | refine zA (cV _) ?_ | refine zA (cC _) ?_ | simp -implicitDefEqProofs (disch := omega) only [L41, zF, zY, zO, zT, push_cast, simprocAttr, ↓reduceIte, zXq])
  exact hS _ _ rfl ⟨_, rfl⟩
 have hgd : (ps.map prR).getD p.toNat [] = prR (ps.getD p.toNat default) := zAD (by omega)
 by_cases h5 : (inp.length : Int) = (ps.getD p.toNat default).par
 rotate_left
 ·have hE : zC0 ps p w L inp = 2 := by unfold zC0; rw [if_neg (zX2 h1), if_neg (zX2 h2), if_neg h3, if_neg h4, if_pos h5]
  have hS : ∀ x H', x = .tup [.v (.pointer none), int 2] → (∃ rest, H' = H ++ rest) → zCY ps p w L inp H x H' := fun x H' hx hr => ⟨hr, .inl ⟨fun hh => h5 hh.hn, by rw [hE]; exact hx⟩⟩
  generalize zCY ps p w L inp H = S at *
  repeat' (first | refine zXx (by omega) ?_ | refine zA (cV _) ?_ | refine zA (cC _) ?_ | simp -implicitDefEqProofs (disch := omega) only [L41, zF, zY, hgd, zBH, zP, h5, zXr, zT, push_cast, simprocAttr, ↓reduceIte, zXq])
  exact hS _ _ rfl ⟨_, rfl⟩
 have cI : zAe 28 [.sl 1 (inp.map iR), .fn (.func 71) [] [.ptr (H.length + 1) 0 0]] (H ++ [.box [zAM ps], .box [int w, int L]]) (bool (inp.any fun n => !decide (inI w n))) := zMA inp (by omega) _ _ _ _ fun n => zSX w n (H.length + 1) (int L) _ (by simp [zAc])
 cases hA : inp.any fun n => !decide (inI w n) with
 | true =>
  obtain ⟨n, hn, hnI⟩ := zZD.1 hA
  have hnI : ¬ inI w n := by simpa using hnI
  have hE : zC0 ps p w L inp = 2 := by unfold zC0; rw [if_neg (zX2 h1), if_neg (zX2 h2), if_neg h3, if_neg h4, if_neg (zX2 h5), if_pos fun h => hnI (h _ hn)]
  have hS : ∀ x H', x = .tup [.v (.pointer none), int 2] → (∃ rest, H' = H ++ rest) → zCY ps p w L inp H x H' := fun x H' hx hr => ⟨hr, .inl ⟨fun hh => hnI (hh.hi _ hn), by rw [hE]; exact hx⟩⟩
  rw [hA] at cI
  generalize zCY ps p w L inp H = S at *
  repeat' (first | refine zXx (by omega) ?_ | refine zA (cV _) ?_ | refine zA (cC _) ?_ | refine zA (cI) ?_ | simp -implicitDefEqProofs (disch := omega) only [L41, zF, zY, hgd, zBH, zP, h5, zXr, zT, push_cast, simprocAttr, ↓reduceIte, zXq])
  exact hS _ _ rfl ⟨_, rfl⟩
 | false =>
  have hin : ∀ v ∈ inp, inI w v := fun v hv => by
   have := zZn.1 hA v hv
   simpa using this
  have hok : zEY ps p w L inp := ⟨h1.1, h1.2, h2, by omega, by omega, h5, hin⟩
  rw [hA] at cI
  repeat' (first | refine zXx (by omega) ?_ | refine zA (cV _) ?_ | refine zA (cC _) ?_ | refine zA (cI) ?_ | simp -implicitDefEqProofs (disch := omega) only [L41, zF, zY, hgd, zBH, zP, h5, zXr, zT, push_cast, simprocAttr, ↓reduceIte, zXq])
  refine zL (zBv w _) ?_
  rintro _ _ ⟨⟨ks, vm, rfl, hm⟩, rfl⟩
  repeat' (simp -implicitDefEqProofs (disch := omega) only [zF, zAc, zY, rBuild, fillA, splice, zXr, push_cast, simprocAttr, ↓reduceIte, zXq])
  refine zAh (fun (j : Nat) e' G => StI ps w L (.mp ks vm) H j e' G) (fun j => ps.length - j) 0 ?_ ?_
  ·exact ⟨rfl, rfl, rfl, rfl, zXJ _, by simp, fun i hi => zXu hi, ⟨zAg, zAg, by simp [zAc], .inl ⟨rfl, rfl, rfl⟩⟩⟩
  rintro j e' G ⟨e12, e77, e78, e79, hj, gl, fr, st, sz, bx, hrow⟩
  by_cases hlt : j < ps.length
  ·have hq : (ps.map prR).getD j [] = prR (ps.getD j default) := zAD hlt
   have hpc := (h2.2 j hlt).2.2.1
   have hic : zM (ps.getD j default).body ≤ 32768 := by have := zBf hlt; omega
   have cN := fun H => zQ7 (ps.getD j default).body hic 0 (by omega) (by omega) H
   have hlb := zD bx
   rcases hrow with ⟨rfl, rfl, rfl⟩ | ⟨a, v, rows, a', v', rows', rfl, rfl, ha, ha', hne, hg, hg', hl, hl', hr, hr'⟩
   ·repeat' (first | refine zXx (by omega) ?_ | refine zA (cN _) ?_ | simp -implicitDefEqProofs (disch := omega) only [e12, e77, e78, e79, hq, bx, zP, zBK, zDf, zA6, zB, zG, zI, zZ, zU, zY, splice, zXv, zXw, zXr, zO, push_cast, simprocAttr, ↓reduceIte, zXq])
    refine .mk 1 ⟨e12, e77, e78, rfl, hlt, by simp; omega, fun i hi => by rw [zXu (by simp; omega), zXy (by omega), zXy (by omega), fr i hi], ⟨_, _, by rw [zXu (by simp; omega), zXD (by simp; omega)], .inr ⟨_, _, _, _, _, _, rfl, rfl, by omega, by omega, by omega, by rw [zXz (by simp)]; simp; rfl, by rw [zXz (by simp)]; simp; rfl, rfl, rfl, fun i hi => ?_, fun i hi => ?_⟩⟩⟩ (by omega)
    ·obtain rfl : i = 0 := by omega
     rfl
    ·obtain rfl : i = 0 := by omega
     simp
   ·have htk : rows.take j = rows := zXR (by omega)
    have htk' : rows'.take j = rows' := zXR (by omega)
    have hla := zD hg
    have hla' := zD hg'
    repeat' (first | refine zXx (by omega) ?_ | refine zA (cN _) ?_ | simp -implicitDefEqProofs (disch := omega) only [e12, e77, e78, e79, hq, bx, hg, hg', htk, htk', hl, hl', zMz, zRr, zP, zBK, zDf, zA6, zB, zG, zH, zZ, zU, zAv, zAA, zY, splice, zXv, zXw, zXF, zXr, zO, push_cast, simprocAttr, ↓reduceIte, zXq])
    refine .mk (j + 1) ⟨e12, e77, e78, rfl, hlt, by simp; omega, fun i hi => by rw [zXu (by simp; omega), zXy (by omega), zXy (by omega), zXy (by omega), fr i hi], ⟨_, _, zMz hlb, .inr ⟨a, v + 1, _, a', v' + 1, _, rfl, rfl, ha, ha', hne, by rw [zXu (by simp; omega), zXy (by omega), zXy (by omega), zXD hla], by rw [zXu (by simp; omega), zXy (by omega), zXD (by simp; omega)], by simp [hl], by simp [hl'], zIe hl hr rfl, zIe hl' hr' (by rw [Int.zero_add])⟩⟩⟩ (by omega)
  ·have e : j = ps.length := by omega
   subst e
   repeat' (simp -implicitDefEqProofs (disch := omega) only [e12, e78, e79, zT, push_cast, ↓reduceIte, Nat.reduceEqDiff])
   have hps : ¬ ps.length = 0 := by omega
   obtain ⟨a, v, rows, a', v', rows', rfl, rfl, ha, ha', hne, hg, hg', hl, hl', hr, hr'⟩ := hrow.resolve_left fun h => hps h.1
   refine ⟨zBp (by omega) fr, .inr ⟨hok, _, _, _, _, _, rfl, hm, by omega, bx, fun k cl => ⟨⟨a, v, rows, rfl, zD hg, by omega, hg, hl, hr⟩, ⟨a', v', rows', rfl, zD hg', by omega, hg', hl', hr'⟩⟩⟩⟩
theorem zOB : zHz Tryz.prog 73 := ⟨_, Tryz.func73, by kernel_rfl, by kernel_rfl⟩
theorem zQV (a b c : AV) (H : zC) : zPH Tryz.prog 73 [a, b, c] none H fun H' => H' = H := by
 refine zFq Tryz.func73 L73_ok (zXs rfl) ?_
 repeat' (simp -implicitDefEqProofs (disch := omega) only [L73, zTl, zZg, List.foldl_nil, push_cast, simprocAttr, ↓reduceIte])
theorem zOo {G : zC} (a b : Nat) (X Y z : HO) : ((G.set a X).set b Y ++ [z])[G.length]? = some z := by
 rw [zXz (by simp)]; simp
theorem zQU (n : Nat) (f p a : Int) (hf : 1 ≤ f) (x0 x1 x2 x3 : AV) (H : zC) (h0 : H[n]? = some (.box [x0, x1])) (h1 : H[n + 1]? = some (.box [x2])) (h2 : H[n + 2]? = some (.box [x3])) : zPH Tryz.prog 73 [.ptr n 0 0, .ptr (n + 1) 0 0, .ptr (n + 2) 0 0] (some (zIV f p a)) H fun H' => H' = (((H ++ [HO.box [int f, int p, int a]]).set n (.box [int f, zAg])).set (n + 1) (.box [int p])).set (n + 2) (.box [int a]) := by
 have hk : (kEq (.int .i64 f) (.int .i64 0) = true) = False := by simp [kEq]; omega
 have hl := zD h2
 have g0 : (H ++ [HO.box [int f, int p, int a]])[n]? = some (.box [x0, x1]) := by rw [zXu (by omega)]; exact h0
 have g1 : (H ++ [HO.box [int f, int p, int a]])[n + 1]? = some (.box [x2]) := by rw [zXu (by omega)]; exact h1
 have g2 : (H ++ [HO.box [int f, int p, int a]])[n + 2]? = some (.box [x3]) := by rw [zXu (by omega)]; exact h2
 refine zFq Tryz.func73 L73_ok (zXs rfl) ?_
 repeat' (simp -implicitDefEqProofs (disch := omega) only [L73, zTl, zZg, List.foldl_nil, g0, h1, h2, hk, false_and, zOo, rBuild, fillA, zG, zH, zZ, zU, zAv, zAA, zAs, zY, splice, zXv, zXw, push_cast, simprocAttr, ↓reduceIte, zXq])
theorem zPb {e : Env} {H : zC} {n : Nat} {a s b c : AV} (h6 : e 6 = .ptr n 0 0) (h7 : e 7 = .ptr (n + 1) 0 0) (h8 : e 8 = .ptr (n + 2) 0 0) (g0 : H[n]? = some (.box [a, s])) (g1 : H[n + 1]? = some (.box [b])) (g2 : H[n + 2]? = some (.box [c])) :
  (zAO e H L42.res).ok ∧ (zAO e H L42.res).x = .tup [.agg [a, s], b, c] := by
 constructor <;> simp [L42, zAO, zC3, h6, h7, h8, rLoad, g0, g1, g2, rLoadO, isVer, Res.also, isBox, cellsV]
theorem zT3 {R : AV → zC → Prop} {e : Env} {G : zC} {n : Nat} {a s b c : AV} (h6 : e 6 = .ptr n 0 0) (h7 : e 7 = .ptr (n + 1) 0 0) (h8 : e 8 = .ptr (n + 2) 0 0) (g0 : G[n]? = some (.box [a, s])) (g1 : G[n + 1]? = some (.box [b])) (g2 : G[n + 2]? = some (.box [c])) (hR : R (.tup [.agg [a, s], b, c]) G) (x y z : AV) :
  zHf Tryz.prog L42.res R 73 [x, y, z] .ret e G := by
 intro X ρ w vs hr hv
 refine (zQV x y z G X ρ w vs hr hv).mono ?_
 rintro en u' w' ⟨v, H', ρ', h1, h2', h3, h4, h5⟩
 subst h3
 obtain ⟨o1, o2⟩ := zPb h6 h7 h8 g0 g1 g2
 exact ⟨v, H', ρ', h1, h2', ⟨o1, by rw [o2]; exact hR⟩, h4, h5⟩
theorem zT4 {R : AV → zC → Prop} {e : Env} {G : zC} {n : Nat} {x0 x1 x2 x3 : AV} {f p a : Int} (hf : 1 ≤ f) (h6 : e 6 = .ptr n 0 0) (h7 : e 7 = .ptr (n + 1) 0 0) (h8 : e 8 = .ptr (n + 2) 0 0) (g0 : G[n]? = some (.box [x0, x1])) (g1 : G[n + 1]? = some (.box [x2])) (g2 : G[n + 2]? = some (.box [x3])) (hR : R (.tup [.agg [int f, zAg], int p, int a]) ((((G ++ [HO.box [int f, int p, int a]]).set n (.box [int f, zAg])).set (n + 1) (.box [int p])).set (n + 2) (.box [int a]))) :
  zHf Tryz.prog L42.res R 73 [.ptr n 0 0, .ptr (n + 1) 0 0, .ptr (n + 2) 0 0] (.pan (zIV f p a)) e G := by
 have hl := zD g2
 intro X ρ w vs hr hv
 refine (zQU n f p a hf x0 x1 x2 x3 G g0 g1 g2 X ρ w vs hr hv).mono ?_
 rintro en u' w' ⟨v, H', ρ', h1, h2', h3, h4, h5⟩
 subst h3
 obtain ⟨o1, o2⟩ := zPb (H := (((G ++ [HO.box [int f, int p, int a]]).set n (.box [int f, zAg])).set (n + 1) (.box [int p])).set (n + 2) (.box [int a])) h6 h7 h8 (a := int f) (s := zAg) (b := int p) (c := int a)
  (by rw [zXy (by omega), zXy (by omega), zXD (by simp; omega)]) (by rw [zXy (by omega), zXD (by simp; omega)]) (by rw [zXD (by simp; omega)])
 exact ⟨v, _, ρ', h1, h2', ⟨o1, by rw [o2]; exact hR⟩, h4, h5⟩
def zXn (r : CR × Int) (y : AV) : Prop := match r with
 | (.ok out, c) => ∃ z, (z = 1 ∨ out = []) ∧ y = .tup [.agg [int 0, .sl z (out.map iR)], int (-1), int (-1)]
 | (.flt f p a, c) => y = .tup [.agg [int f, zAg], int p, int a]
theorem zN8 {C : Cx} {st sz om : AV} {rx : Nat} {k : Int} {x : AV} {r : CR × Int} {G : zC} (hrx : rx < G.length) (hf : ∀ f p a c, r = (.flt f p a, c) → 1 ≤ f)
  (hR : ∀ l, ACallX Tryz.prog 74 [.ptr rx 0 0, int k, x] (G ++ l) (fun y G' => zNh C st sz om rx r y (G ++ l) G') fun z G' => zOR C st sz om rx r z (G ++ l) G') :
  ACall Tryz.prog 42 [.ptr rx 0 0, int k, x] G fun y G' => zXn r y ∧ Fr1 rx G G' ∧ G'[rx]? = some (RnM C st sz om r.2) := by
 refine zPx Tryz.func42 L42_ok (zXs rfl) ?_
 show wpD _ L42.res (fun y G' => zXn r y ∧ Fr1 rx G G' ∧ G'[rx]? = some (RnM C st sz om r.2)) _ _ _
 generalize hres : L42.res = res
 repeat' (simp -implicitDefEqProofs (disch := omega) only [L42, splice, zXv, zXw, zAc, push_cast, simprocAttr, ↓reduceIte, zXq])
 refine ⟨_, _, _, rfl, zOB, ?_⟩
 repeat' (simp -implicitDefEqProofs (disch := omega) only [push_cast, Int.reduceNeg])
 subst hres
 refine zJ (hR _) ?_ ?_
 ·rintro y G2 ⟨hF, hm⟩
  have hle := hF.1
  simp only [zXT, zXI, zX6] at hle
  have b0 := (hF.2 G.length (by simp) (by omega)).trans (show _ = some (HO.box [int 0, zAg]) by simp [zAc])
  have b1 := (hF.2 (G.length + 1) (by simp) (by omega)).trans (show _ = some (HO.box [int (-1)]) by simp [zAc])
  have b2 := (hF.2 (G.length + 2) (by simp) (by omega)).trans (show _ = some (HO.box [int (-1)]) by simp [zAc])
  obtain ⟨r, c⟩ := r
  cases r with
  | flt f p a => exact hm.elim
  | ok out =>
   obtain ⟨⟨z, rfl, hz⟩, hrn⟩ := hm
   generalize hres : L42.res = res
   repeat' (simp -implicitDefEqProofs (disch := omega) only [b0, b1, b2, rBuild, fillA, zH, zY, splice, zXv, zXw, push_cast, simprocAttr, ↓reduceIte, zXq])
   subst hres
   refine zT3 (n := G.length) rfl rfl rfl (by rw [zXy (by omega), zXy (by omega), zXD (by omega)]) (by rw [zXy (by omega), zXD (by simp; omega)]) (by rw [zXD (by simp; omega)]) ⟨⟨z, hz, rfl⟩, ⟨by simp; omega, fun i hi hne => ?_⟩, ?_⟩ _ _ _
   ·rw [zXy (by omega), zXy (by omega), zXy (by omega), hF.2 i (by simp; omega) hne, zXu hi]
   ·rw [zXy (by omega), zXy (by omega), zXy (by omega)]; exact hrn
 ·rintro v G2 ⟨hF, hm⟩
  obtain ⟨r, c⟩ := r
  cases r with
  | ok out => exact hm.elim
  | flt f p a =>
   obtain ⟨rfl, hrn⟩ := hm
   have hle := hF.1
   simp only [zXT, zXI, zX6] at hle
   have b0 := (hF.2 G.length (by simp) (by omega)).trans (show _ = some (HO.box [int 0, zAg]) by simp [zAc])
   have b1 := (hF.2 (G.length + 1) (by simp) (by omega)).trans (show _ = some (HO.box [int (-1)]) by simp [zAc])
   have b2 := (hF.2 (G.length + 2) (by simp) (by omega)).trans (show _ = some (HO.box [int (-1)]) by simp [zAc])
   generalize hres : L42.res = res
   repeat' (simp -implicitDefEqProofs (disch := omega) only [push_cast, Int.reduceNeg])
   subst hres
   refine zT4 (hf f p a c rfl) rfl rfl rfl b0 b1 b2 ⟨rfl, ⟨by simp; omega, fun i hi hne => ?_⟩, ?_⟩
   ·rw [zXy (by omega), zXy (by omega), zXy (by omega), zXu (by omega), hF.2 i (by simp; omega) hne, zXu hi]
   ·rw [zXy (by omega), zXy (by omega), zXy (by omega), zXu (by omega)]; exact hrn
theorem SpO.app {C : Cx} {st sz : AV} {rx : Nat} {G : zC} (h : SpO C st sz G.length rx G) (l : zC) : SpO C st sz (G ++ l).length rx (G ++ l) :=
 (h.kp (rf := 0) (KpX.app (zXL _) l)).up (by simp)
theorem zUr {ps : List Pr} {p w L : Int} {inp : List Int} (h : zEY ps p w L inp) : ∀ f q a c, zCQ ps w L (p.toNat + 1) p.toNat inp 0 = (.flt f q a, c) → 1 ≤ f := fun f q a c hr => by
 have := zG9 (L := L) h.hw h.hv (p.toNat + 1) p.toNat inp 0 (by omega) (by have := h.hp; omega) h.hn h.hi
 rw [hr] at this
 exact this.1
theorem goM {ps : List Pr} {p w L : Int} {inp : List Int} {rx : Nat} {st sz : AV} {ks : List Value} {vm : List AV} {G : zC} (h : zEY ps p w L inp) (hm : OpM w [] ks vm) (hrn : G[rx]? = some (.box [zAM ps, int w, int L, st, sz, .mp ks vm, int 0])) (hsp : ∀ k cl, SpO ⟨ps, w, L, k, cl⟩ st sz G.length rx G) :
  ACall Tryz.prog 42 [.ptr rx 0 0, int p, .sl 1 (inp.map iR)] G fun y G' => zXn (zCQ ps w L (p.toNat + 1) p.toNat inp 0) y ∧ Fr1 rx G G' ∧ G'[rx]? = some (.box [zAM ps, int w, int L, st, sz, .mp ks vm, int (zCQ ps w L (p.toNat + 1) p.toNat inp 0).2]) := by
 have hp := h.hp
 have e : p = ((p.toNat : Nat) : Int) := by omega
 have hrx := zD hrn
 have hR := fun l => zQv (k := p.toNat) h.hw h.hl h.hv hm (by omega) inp 0 rx (G ++ l) (.sl 1 (inp.map iR)) h.hn h.hi (by rw [zXu hrx]; exact hrn) ((hsp _ _).app l) (.inl (.inl rfl))
 rw [← e] at hR
 exact zN8 (C := ⟨ps, w, L, p.toNat, zCQ ps w L p.toNat⟩) hrx (zUr h) hR
theorem zS0 (ps : List Pr) (hs : zB0 ps) (p w L : Int) (hp : zBP p) (inp : List Int) (hl : inp.length ≤ 1048576) (hi : ∀ v ∈ inp, zBP v) (H : zC) : zAe 17 [.agg [zAM ps], int p, .agg [int w, int L], .sl 1 (inp.map iR)] H (zKI (zD3 ps p w L inp) (.sl 1 ((zD3 ps p w L inp).2.1.map iR))) := by
 refine zO9 ?_
 refine ACall.drop (R := zJz (zD3 ps p w L inp)) ?_
 refine enter Tryz.func17 L17_ok (zXs rfl) ?_
 repeat' (simp -implicitDefEqProofs (disch := omega) only [L17, zAc, zF, zY, push_cast, simprocAttr, ↓reduceIte, zXq])
 refine zL (zOZ ps hs p w L hp inp hl hi _) ?_
 rintro x G1 ⟨⟨rest, hG⟩, hS⟩
 have hl1 : H.length + 3 ≤ G1.length := by rw [hG]; simp
 have b1 : G1[H.length + 2]? = some (HO.box [int 0, zAg]) := by rw [hG, zXu (by simp)]; simp [zAc]
 have fr1 : ∀ i, i < H.length → G1[i]? = H[i]? := fun i hi => by rw [hG, zXu (by simp; omega), zXu hi]
 clear hG
 rcases hS with ⟨hn, rfl⟩ | ⟨hok, rx, st, sz, ks, vm, rfl, hm, hrx, hrn, hsp⟩
 ·have hV : zD3 ps p w L inp = (0, [], -1, -1, zC0 ps p w L inp) := if_neg hn
  have he := zJp hn
  have hF : ∀ x, x = zKI (0, [], -1, -1, zC0 ps p w L inp) zAg → zJz (zD3 ps p w L inp) x := fun x hx => by rw [hV]; exact ⟨_, hx, zHy⟩
  generalize zJz (zD3 ps p w L inp) = S at *
  generalize zC0 ps p w L inp = er at *
  repeat' (simp -implicitDefEqProofs (disch := omega) only [zI, zY, splice, zXv, zXw, b1, rBuild, fillA, zX, push_cast, simprocAttr, ↓reduceIte, zXq])
  exact ⟨hF _ rfl, zBp (by simp; omega) fun i hi => by rw [zXy (by omega)]; exact fr1 i hi⟩
 ·repeat' (simp -implicitDefEqProofs (disch := omega) only [push_cast, simprocAttr, ↓reduceIte])
  refine zL (goM hok hm hrn hsp) ?_
  rintro y G2 ⟨hO, hF, hrn2⟩
  simp only [zXT, zXI, zX6] at hrx
  have hle := hF.1
  have b2 : G2[H.length + 2]? = some (HO.box [int 0, zAg]) := (hF.2 (H.length + 2) (by omega) (by omega)).trans b1
  have fr : ∀ i, i < H.length → G2[i]? = H[i]? := fun i hi => by
   rw [hF.2 i (by omega) (by omega)]; exact fr1 i hi
  cases hr : zCQ ps w L (p.toNat + 1) p.toNat inp 0 with
  | mk r c =>
  rw [hr] at hO
  cases r with
  | ok out =>
   obtain ⟨z, hz, rfl⟩ := hO
   have hV : zD3 ps p w L inp = (0, out, -1, -1, 0) := by unfold zD3; rw [if_pos hok, hr]
   have hF : ∀ x, x = zKI (0, out, -1, -1, 0) (.sl z (out.map iR)) → zJz (zD3 ps p w L inp) x := fun x hx => by rw [hV]; exact ⟨_, hx, zPG z out hz⟩
   generalize zJz (zD3 ps p w L inp) = S at *
   repeat' (simp -implicitDefEqProofs (disch := omega) only [b2, zB, zG, zI, zZ, zY, splice, zXv, zXw, push_cast, simprocAttr, ↓reduceIte, zXq])
   exact ⟨hF _ rfl, zBp (by simp; omega) fun i hi => by rw [zXu (by simp; omega), zXy (by omega)]; exact fr i hi⟩
  | flt f q a =>
   have hO : y = _ := hO
   subst hO
   have hV : zD3 ps p w L inp = (f, [], q, a, 0) := by unfold zD3; rw [if_pos hok, hr]
   have hF : ∀ x, x = zKI (f, [], q, a, 0) zAg → zJz (zD3 ps p w L inp) x := fun x hx => by rw [hV]; exact ⟨_, hx, zHy⟩
   generalize zJz (zD3 ps p w L inp) = S at *
   repeat' (simp -implicitDefEqProofs (disch := omega) only [b2, zB, zG, zI, zZ, zY, splice, zXv, zXw, push_cast, simprocAttr, ↓reduceIte, zXq])
   exact ⟨hF _ rfl, zBp (by simp; omega) fun i hi => by rw [zXu (by simp; omega), zXy (by omega)]; exact fr i hi⟩
theorem zW8 (ps : List Pr) (hs : zB0 ps) (p w L : Int) (hp : zBP p) (inp : List Int) (hl : inp.length ≤ 1048576) (hi : ∀ v ∈ inp, zBP v) (H : zC) : zAe 20 [.agg [zAM ps], int p, .agg [int w, int L], .sl 1 (inp.map iR)] H (.tup [int (zK7 ps p w L inp).1, int (zK7 ps p w L inp).2]) := by
 refine ACall.drop (R := fun x => x = .tup [int (zK7 ps p w L inp).1, int (zK7 ps p w L inp).2]) ?_
 refine enter Tryz.func20 L20_ok (zXs rfl) ?_
 repeat' (simp -implicitDefEqProofs (disch := omega) only [L20, zAc, zF, zY, push_cast, simprocAttr, ↓reduceIte, zXq])
 refine zL (zOZ ps hs p w L hp inp hl hi _) ?_
 rintro x G1 ⟨⟨rest, hG⟩, hS⟩
 have hl1 : H.length + 2 ≤ G1.length := by rw [hG]; simp
 have fr1 : ∀ i, i < H.length → G1[i]? = H[i]? := fun i hi => by rw [hG, zXu (by simp; omega), zXu hi]
 clear hG
 rcases hS with ⟨hn, rfl⟩ | ⟨hok, rx, st, sz, ks, vm, rfl, hm, hrx, hrn, hsp⟩
 ·have hV : zK7 ps p w L inp = (0, zC0 ps p w L inp) := if_neg hn
  have he := zJp hn
  rw [hV]
  generalize zC0 ps p w L inp = er at *
  repeat' (simp -implicitDefEqProofs (disch := omega) only [zX, push_cast, simprocAttr, ↓reduceIte, zXq])
  exact zBp (by omega) fr1
 ·have hV : zK7 ps p w L inp = ((zCQ ps w L (p.toNat + 1) p.toNat inp 0).2, 0) := if_pos hok
  rw [hV]
  repeat' (simp -implicitDefEqProofs (disch := omega) only [push_cast, simprocAttr, ↓reduceIte])
  refine zL (goM hok hm hrn hsp) ?_
  rintro y G2 ⟨hO, hF, hrn2⟩
  simp only [zXT, zXI, zX6] at hrx
  have hle := hF.1
  have fr : ∀ i, i < H.length → G2[i]? = H[i]? := fun i hi => by
   rw [hF.2 i (by omega) (by omega)]; exact fr1 i hi
  repeat' (simp -implicitDefEqProofs (disch := omega) only [hrn2, zXv, zXw, push_cast, simprocAttr, ↓reduceIte, zXq])
  exact zBp (by omega) fr
theorem zJk {H : zC} : ∃ rest, H = H ++ rest := ⟨[], (zZf H).symm⟩
end Go.Proofs.YtaipgalanpcgoaaGreat
namespace Go.Ax
open Go
set_option linter.unusedSimpArgs false
set_option linter.unusedVariables false
inductive Tr (α : Type) where
 | leaf
 | node (v : α) (l r : Tr α)
def Tr.getN {α : Type} (v : α) (gl gr : Nat → α) (i : Nat) : α := Nat.casesOn (motive := fun _ => α) i v fun n => cond (Nat.beq (Nat.mod n 2) 0) (gl (Nat.div n 2)) (gr (Nat.div n 2))
noncomputable def Tr.get {α : Type} (d : α) (t : Tr α) : Nat → α := Tr.rec (motive := fun _ => Nat → α) (fun _ => d) (fun v _ _ gl gr => Tr.getN v gl gr) t
def Tr.set {α : Type} (d x : α) : Nat → Nat → Tr α → Tr α
 | 0, _, t => t
 | f + 1, i, .leaf => Nat.casesOn i (.node x .leaf .leaf) fun n => cond (Nat.beq (Nat.mod n 2) 0) (.node d (set d x f (Nat.div n 2) .leaf) .leaf) (.node d .leaf (set d x f (Nat.div n 2) .leaf))
 | f + 1, i, .node v l r => Nat.casesOn i (.node x l r) fun n => cond (Nat.beq (Nat.mod n 2) 0) (.node v (set d x f (Nat.div n 2) l) r) (.node v l (set d x f (Nat.div n 2) r))
def Tr.setL {α β : Type} (d x : α) (ih : Nat → Tr α → (Tr α → β) → β) (i : Nat) (k : Tr α → β) : β :=
 Nat.casesOn (motive := fun _ => β) i (k (.node x .leaf .leaf)) fun n => cond (Nat.beq (Nat.mod n 2) 0) (ih (Nat.div n 2) .leaf fun l => k (.node d l .leaf)) (ih (Nat.div n 2) .leaf fun r => k (.node d .leaf r))
def Tr.setN {α β : Type} (x : α) (ih : Nat → Tr α → (Tr α → β) → β) (i : Nat) (k : Tr α → β) (v : α) (l r : Tr α) : β :=
 Nat.casesOn (motive := fun _ => β) i (k (.node x l r)) fun n => cond (Nat.beq (Nat.mod n 2) 0) (ih (Nat.div n 2) l fun l => k (.node v l r)) (ih (Nat.div n 2) r fun r => k (.node v l r))
def Tr.setS {α β : Type} (d x : α) (ih : Nat → Tr α → (Tr α → β) → β) (i : Nat) (t : Tr α) (k : Tr α → β) : β :=
 Tr.casesOn (motive := fun _ => β) t (Tr.setL d x ih i k) fun v l r => Tr.setN x ih i k v l r
noncomputable def Tr.setK {α β : Type} (d x : α) (f : Nat) : Nat → Tr α → (Tr α → β) → β :=
 Nat.rec (motive := fun _ => Nat → Tr α → (Tr α → β) → β) (fun _ t k => k t) (fun _ ih => Tr.setS d x ih) f
theorem Tr.setK_eq {α β : Type} (d x : α) : ∀ (f i : Nat) (t : Tr α) (k : Tr α → β), Tr.setK d x f i t k = k (t.set d x f i)
 | 0, i, t, k => by cases t <;> rfl
 | f + 1, 0, .leaf, k => rfl
 | f + 1, 0, .node v l r, k => rfl
 | f + 1, n + 1, .leaf, k => by
  show cond (Nat.beq (Nat.mod n 2) 0) (Tr.setK d x f (Nat.div n 2) .leaf fun l => k (.node d l .leaf)) (Tr.setK d x f (Nat.div n 2) .leaf fun r => k (.node d .leaf r)) = _
  simp only [set]
  cases Nat.beq (Nat.mod n 2) 0 <;> simp [setK_eq d x f]
 | f + 1, n + 1, .node v l r, k => by
  show cond (Nat.beq (Nat.mod n 2) 0) (Tr.setK d x f (Nat.div n 2) l fun l => k (.node v l r)) (Tr.setK d x f (Nat.div n 2) r fun r => k (.node v l r)) = _
  simp only [set]
  cases Nat.beq (Nat.mod n 2) 0 <;> simp [setK_eq d x f]
theorem Tr.get_leaf {α : Type} (d : α) (i : Nat) : (Tr.leaf : Tr α).get d i = d := rfl
theorem Tr.get_z {α : Type} (d v : α) (l r : Tr α) : (Tr.node v l r).get d 0 = v := rfl
theorem Tr.get_s {α : Type} (d v : α) (l r : Tr α) (n : Nat) : (Tr.node v l r).get d (n + 1) = if n % 2 = 0 then l.get d (n / 2) else r.get d (n / 2) := by
 show cond (Nat.beq (n % 2) 0) _ _ = _
 by_cases h : n % 2 = 0
 ·rw [if_pos h, h]; rfl
 ·rw [if_neg h, show n % 2 = 1 by omega]; rfl
theorem Tr.set_s {α : Type} (d x v : α) (f n : Nat) (l r : Tr α) : (Tr.node v l r).set d x (f + 1) (n + 1) = if n % 2 = 0 then .node v (l.set d x f (n / 2)) r else .node v l (r.set d x f (n / 2)) := by
 show cond (Nat.beq (n % 2) 0) _ _ = _
 by_cases h : n % 2 = 0
 ·rw [if_pos h, h]; rfl
 ·rw [if_neg h, show n % 2 = 1 by omega]; rfl
theorem Tr.set_l {α : Type} (d x : α) (f n : Nat) : (Tr.leaf : Tr α).set d x (f + 1) (n + 1) = if n % 2 = 0 then .node d ((Tr.leaf : Tr α).set d x f (n / 2)) .leaf else .node d .leaf ((Tr.leaf : Tr α).set d x f (n / 2)) := by
 show cond (Nat.beq (n % 2) 0) _ _ = _
 by_cases h : n % 2 = 0
 ·rw [if_pos h, h]; rfl
 ·rw [if_neg h, show n % 2 = 1 by omega]; rfl
theorem Tr.get_set {α : Type} (d x : α) : ∀ (f i : Nat) (t : Tr α) (j : Nat), i < 2 ^ f - 1 → (t.set d x f i).get d j = if j = i then x else t.get d j
 | 0, i, t, j, h => by simp at h
 | f + 1, 0, .leaf, j, h => by
  show (Tr.node x .leaf .leaf).get d j = _
  cases j with
  | zero => rfl
  | succ j => rw [get_s, get_leaf]; simp [get_leaf]
 | f + 1, 0, .node v l r, j, h => by
  show (Tr.node x l r).get d j = _
  cases j with
  | zero => rfl
  | succ j => rw [get_s, get_s]; simp
 | f + 1, n + 1, .leaf, j, h => by
  have hp : 2 ^ (f + 1) = 2 * 2 ^ f := by rw [Nat.pow_succ]; omega
  have hn : n / 2 < 2 ^ f - 1 := by omega
  rw [set_l]
  cases j with
  | zero => split <;> simp [get_z, get_leaf]
  | succ j =>
   have e : (j = n) ↔ (j % 2 = n % 2 ∧ j / 2 = n / 2) := by omega
   by_cases hn2 : n % 2 = 0
   ·rw [if_pos hn2, get_s]
    by_cases hj2 : j % 2 = 0
    ·rw [if_pos hj2, get_set d x f _ _ _ hn]; simp [get_leaf, e, hj2, hn2]
    ·rw [if_neg hj2]; simp [get_leaf, e, hj2, hn2]
   ·rw [if_neg hn2, get_s]
    by_cases hj2 : j % 2 = 0
    ·rw [if_pos hj2]; have : ¬ 0 = n % 2 := fun h => hn2 h.symm
     simp [get_leaf, e, hj2, this]
    ·rw [if_neg hj2, get_set d x f _ _ _ hn]
     have e2 : j % 2 = n % 2 := by omega
     simp [get_leaf, e, e2]
 | f + 1, n + 1, .node v l r, j, h => by
  have hp : 2 ^ (f + 1) = 2 * 2 ^ f := by rw [Nat.pow_succ]; omega
  have hn : n / 2 < 2 ^ f - 1 := by omega
  rw [set_s]
  cases j with
  | zero => split <;> simp [get_z]
  | succ j =>
   have e : (j = n) ↔ (j % 2 = n % 2 ∧ j / 2 = n / 2) := by omega
   rw [get_s]
   by_cases hn2 : n % 2 = 0
   ·rw [if_pos hn2, get_s]
    by_cases hj2 : j % 2 = 0
    ·rw [if_pos hj2, if_pos hj2, get_set d x f _ _ _ hn]; simp [e, hj2, hn2]
    ·rw [if_neg hj2, if_neg hj2]; simp [e, hj2, hn2]
   ·rw [if_neg hn2, get_s]
    by_cases hj2 : j % 2 = 0
    ·rw [if_pos hj2, if_pos hj2]; have : ¬ 0 = n % 2 := fun h => hn2 h.symm
     simp [e, hj2, this]
    ·rw [if_neg hj2, if_neg hj2, get_set d x f _ _ _ hn]
     have e2 : j % 2 = n % 2 := by omega
     simp [e, e2]
inductive Up where
 | keep
 | set (r : Nat) (o : HO)
 | push (o : HO)
def Up.app : Up → zC → zC
 | .keep, H => H
 | .set r o, H => H.set r o
 | .push o, H => H ++ [o]
abbrev Rt := Option (AV × Up)
def gB (b : Bool) (x : AV) (u : Up) : Rt := cond b (some (x, u)) none
theorem zC7 {b : Bool} {x y : AV} {u v : Up} (h : gB b x u = some (y, v)) : b = true ∧ x = y ∧ u = v := by
 cases b
 ·cases h
 ·simp only [gB, zYd, zXt, zXO] at h; exact ⟨rfl, h⟩
def zFc (t : Rt) (r : Res) (H : zC) : Prop := ∀ x u, t = some (x, u) → r.ok ∧ r.x = x ∧ r.H = u.app H
def ltI : Int → Int → Bool
 | .ofNat a, .ofNat b => Nat.blt a b
 | .negSucc _, .ofNat _ => true
 | .ofNat _, .negSucc _ => false
 | .negSucc a, .negSucc b => Nat.blt b a
def eqI : Int → Int → Bool
 | .ofNat a, .ofNat b => Nat.beq a b
 | .negSucc a, .negSucc b => Nat.beq a b
 | _, _ => false
def leI (a b : Int) : Bool := !ltI b a
theorem zGx (a b : Int) : ltI a b = decide (a < b) := by
 rw [zY0, zXB]
 cases a <;> cases b <;> simp only [ltI, zYI, zXH, true_iff, zYZ, zY7] <;> omega
theorem zMO (a b : Int) : eqI a b = decide (a = b) := by
 rw [zY0, zXB]
 cases a <;> cases b <;> simp only [eqI, Nat.beq_eq_true_eq, zXH, zYZ, zY7, zYl] <;> omega
theorem zPq (a b : Int) : leI a b = decide (a ≤ b) := by
 unfold leI
 rw [zGx, zY0]
 simp
def eqL : List UInt8 → List UInt8 → Bool
 | [], [] => true
 | a :: l, b :: m => cond (Nat.beq a.toNat b.toNat) (eqL l m) false
 | _, _ => false
theorem zKe : ∀ a b : List UInt8, eqL a b = decide (a = b)
 | [], [] => by simp [eqL]
 | [], _ :: _ => by simp [eqL]
 | _ :: _, [] => by simp [eqL]
 | a :: l, b :: m => by
  simp only [eqL]
  by_cases h : a.toNat = b.toNat
  ·rw [h, Nat.beq_refl, zYd, zKe l m]
   have e : a = b := zZT.1 h
   simp [e]
  ·have hb : Nat.beq a.toNat b.toNat = false := by
    cases hh : Nat.beq a.toNat b.toNat
    ·rfl
    ·exact (h (zYJ hh)).elim
   rw [hb, cond_false]
   have e : a ≠ b := fun e => h (by rw [e])
   simp [e]
def eqB : Bool → Bool → Bool
 | true, true => true
 | false, false => true
 | _, _ => false
theorem zMP (a b : Bool) : eqB a b = decide (a = b) := by cases a <;> cases b <;> rfl
def eqK : IntKind → IntKind → Bool
 | .i64, .i64 => true
 | .u8, .u8 => true
 | .u64, .u64 => true
 | .i32, .i32 => true
 | _, _ => false
theorem zMM {a b : IntKind} (h : eqK a b = true) : a = b := by cases a <;> cases b <;> first | rfl | cases h
def zG0 (k : IntKind) (n : Int) : Int := match k with
 | .i64 => cond (leI (-9223372036854775808) n && ltI n 9223372036854775808) n (IntKind.wrap .i64 n)
 | k => k.wrap n
theorem zGZ (k : IntKind) (n : Int) : zG0 k n = k.wrap n := by
 cases k <;> try rfl
 simp only [zG0]
 rw [zPq, zGx]
 by_cases h : -9223372036854775808 ≤ n ∧ n < 9223372036854775808
 ·rw [zXU h.1, zXU h.2, zBQ n h.1 h.2]; rfl
 ·have : (decide (-9223372036854775808 ≤ n) && decide (n < 9223372036854775808)) = false := by
   rw [zYN]
   simpa using h
  rw [this]; rfl
def fN {β : Type} (n : Nat) (k : Nat → β) : β := Nat.casesOn n (k 0) fun m => k (m + 1)
def fI {β : Type} (n : Int) (k : Int → β) : β := Int.casesOn n (fun m => fN m fun m => k (.ofNat m)) (fun m => fN m fun m => k (.negSucc m))
theorem zER {β : Type} (n : Nat) (k : Nat → β) : fN n k = k n := by cases n <;> rfl
theorem zRw {β : Type} (n : Int) (k : Int → β) : fI n k = k n := by cases n <;> simp [fI, zER]
def cl1 : AV → Bool
 | .os .. => false
 | .ptr .. => false
 | .pe .. => false
 | .om .. => false
 | .agg _ => false
 | .tup _ => false
 | .fn _ [] [] => true
 | .fn _ _ _ => false
 | _ => true
def clT : AV → Bool
 | .agg cs => cs.all cl1
 | x => cl1 x
def cl2 : AV → Bool
 | .agg cs => cs.all cl1
 | .tup cs => cs.all fun x => match x with | .agg cs => cs.all cl1 | x => cl1 x
 | .fn _ a b => a.all cl1 && b.all cl1
 | x => cl1 x
theorem zMY {x : AV} (h : cl1 x = true) : x.cl = true := by
 cases x with
 | fn f a b => cases a <;> cases b <;> simp [cl1] at h; simp [AV.cl, clL]
 | _ => first | (simp [cl1] at h; done) | simp [AV.cl]
theorem zDa : ∀ {l : List AV}, l.all cl1 = true → clL l = true
 | [], _ => by simp [clL]
 | x :: l, h => by
  simp only [zZL, zXE] at h
  simp only [clL, zXE]
  exact ⟨zMY h.1, zDa h.2⟩
theorem zPz : ∀ {l : List AV}, l.all clT = true → clL l = true
 | [], _ => by simp [clL]
 | x :: l, h => by
  simp only [zZL, zXE] at h
  simp only [clL, zXE]
  refine ⟨?_, zPz h.2⟩
  cases x with
  | agg cs => simp only [AV.cl]; exact zDa h.1
  | _ => exact zMY h.1
theorem zMW {x : AV} (h : cl2 x = true) : x.cl = true := by
 cases x with
 | agg cs => simp only [AV.cl]; exact zDa h
 | tup cs =>
  simp only [AV.cl]
  exact zPz h
 | fn f a b =>
  simp only [cl2, zXE] at h
  simp only [AV.cl, zXE]
  exact ⟨zDa h.1, zDa h.2⟩
 | _ => exact zMY h
def zLp (ag : Bool) (n off : Nat) (cs : List AV) (b : Bool) : Rt := gB (b && (Nat.ble (off + n) cs.length && (ag || Nat.beq n 1))) (cellsV ag n (cs.drop off)) .keep
theorem zFe {ag : Bool} {n off : Nat} {cs : List AV} {b : Bool} {x : AV} {u : Up} (h : zLp ag n off cs b = some (x, u)) : b = true ∧ off + n ≤ cs.length ∧ (ag = true ∨ n = 1) ∧ cellsV ag n (cs.drop off) = x ∧ u = .keep := by
 obtain ⟨h1, h2, h3⟩ := zC7 h
 simp only [zXE, zYY, zYS, zYl] at h1
 exact ⟨h1.1, h1.2.1, h1.2.2, h2, h3.symm⟩
def zIR (ag : Bool) (n : Nat) (g : Nat → Option HO) : AV → Rt
 | .vp cs off => zLp ag n off cs true
 | .ptr r ver off => match g r with
  | some (.box cs) => zLp ag n off cs (Nat.beq ver 0)
  | _ => none
 | .pe r ver i off => match g r with
  | some (.arr v sz xs) => cond (Nat.ble (off + n) sz) (zLp ag n off (xs.getD i []) (Nat.beq ver v && Nat.blt i xs.length)) none
  | _ => none
 | _ => none
theorem zG3 {ag : Bool} {n : Nat} {H : zC} {p : AV} : zFc (zIR ag n (fun r => H[r]?) p) (rLoad ag n p H) H := by
 intro x u h
 cases p with
 | vp cs off =>
  obtain ⟨_, h1, h2, h3, rfl⟩ := zFe h
  exact ⟨⟨h1, h2⟩, h3, rfl⟩
 | ptr r ver off =>
  simp only [zIR] at h
  split at h
  ·rename_i cs hr
   obtain ⟨h0, h1, h2, h3, rfl⟩ := zFe h
   have h0 := zYJ h0
   subst h0
   simp only [rLoad, hr, rLoadO, Res.also, isBox, isVer]
   exact ⟨⟨⟨trivial, trivial⟩, h1, h2⟩, h3, rfl⟩
  ·cases h
 | pe r ver i off =>
  simp only [zIR] at h
  split at h
  ·rename_i v sz xs hr
   cases hb : Nat.ble (off + n) sz
   ·rw [hb] at h; cases h
   ·rw [hb, zYd] at h
    obtain ⟨h0, h1, h2, h3, rfl⟩ := zFe h
    simp only [zXE, zYl, zYI] at h0
    obtain ⟨rfl, h0⟩ := h0
    simp only [rLoad, hr, rLoadO, Res.also, isArr, isVer]
    exact ⟨⟨⟨trivial, trivial⟩, h0, zXs hb, h2⟩, h3, rfl⟩
  ·cases h
 | _ => cases h
def zHJ (n : Nat) (g : Nat → Option HO) (p x : AV) : Rt :=
 match p with
 | .ptr r ver off => match g r with
  | some (.box cs) => gB (Nat.beq ver 0 && Nat.ble (off + n) cs.length && Nat.beq (cellsOf x).length n && c1s (cellsOf x)) .any (.set r (.box (splice cs off (cellsOf x))))
  | _ => none
 | .pe r ver i off => match g r with
  | some (.arr v sz xs) => gB (Nat.beq ver v && Nat.blt i xs.length && Nat.ble (off + n) sz && Nat.beq (cellsOf x).length n && c1s (cellsOf x) && (cellsOf x).all cl1) .any (.set r (.arr v sz (xs.set i (splice (xs.getD i []) off (cellsOf x)))))
  | _ => none
 | _ => none
theorem zLl {n : Nat} {H : zC} {p x : AV} : zFc (zHJ n (fun r => H[r]?) p x) (rStore n p x H) H := by
 intro y u h
 cases p with
 | ptr r ver off =>
  simp only [zHJ] at h
  split at h
  ·rename_i cs hr
   obtain ⟨h1, h2, h3⟩ := zC7 h
   simp only [zXE, zYY, zYl] at h1
   obtain ⟨⟨⟨rfl, a1⟩, a2⟩, a3⟩ := h1
   simp only [rStore, hr, rStoreO, Res.also, isBox, isVer]
   exact ⟨⟨⟨trivial, trivial⟩, a1, a2, a3⟩, h2, by rw [← h3]; rfl⟩
  ·cases h
 | pe r ver i off =>
  simp only [zHJ] at h
  split at h
  ·rename_i v sz xs hr
   obtain ⟨h1, h2, h3⟩ := zC7 h
   simp only [zXE, zYY, zYl, zYI] at h1
   obtain ⟨⟨⟨⟨⟨rfl, a1⟩, a2⟩, a3⟩, a4⟩, a5⟩ := h1
   simp only [rStore, hr, rStoreO, Res.also, isArr, isVer]
   exact ⟨⟨⟨trivial, trivial⟩, a1, a2, a3, a4, zDa a5⟩, h2, by rw [← h3]; rfl⟩
  ·cases h
 | _ => cases h
def zV5 (imm : Bool) (n : Nat) (x : AV) : Rt := cond imm (gB (c1s (cellsOf x) && (cellsOf x).all cl1) (.vp (cellsOf x) 0) .keep) (gB (c1s (cellsOf x)) (.ptr n 0 0) (.push (.box (cellsOf x))))
theorem zPS {imm : Bool} {x : AV} {H : zC} : zFc (zV5 imm H.length x) (rBox imm x H) H := by
 intro y u h
 cases imm with
 | true =>
  obtain ⟨h1, h2, h3⟩ := zC7 h
  simp only [zXE] at h1
  exact ⟨⟨h1.1, zDa h1.2⟩, h2, by rw [← h3]; rfl⟩
 | false =>
  obtain ⟨h1, h2, h3⟩ := zC7 h
  exact ⟨h1, h2, by rw [← h3]; rfl⟩
def zKt : List AV → List (Nat × Nat × AV) → Option (List AV)
 | cs, [] => some cs
 | cs, (off, n, x) :: ps => cond (Nat.beq (cellsOf x).length n && Nat.ble (off + n) cs.length && c1s (cellsOf x)) (zKt (splice cs off (cellsOf x)) ps) none
theorem zJE : ∀ {ps : List (Nat × Nat × AV)} {cs r : List AV}, zKt cs ps = some r → (fillA cs ps).1 ∧ (fillA cs ps).2 = r
 | [], cs, r, h => by simp only [zKt, zXt] at h; exact ⟨trivial, h⟩
 | (off, n, x) :: ps, cs, r, h => by
  simp only [zKt] at h
  cases hb : (Nat.beq (cellsOf x).length n && Nat.ble (off + n) cs.length && c1s (cellsOf x))
  ·rw [hb] at h; cases h
  ·rw [hb, zYd] at h
   simp only [zXE, zYY, zYl] at hb
   obtain ⟨h1, h2⟩ := zJE h
   exact ⟨⟨⟨hb.1.1, hb.1.2, hb.2⟩, h1⟩, h2⟩
def zHN (sz : Nat) : List (List AV) → List (Nat × AV) → Option (List (List AV))
 | xs, [] => some xs
 | xs, (i, x) :: ps => cond (Nat.beq (cellsOf x).length sz && Nat.blt i xs.length && c1s (cellsOf x) && (cellsOf x).all cl1) (zHN sz (xs.set i (cellsOf x)) ps) none
theorem zHM {sz : Nat} : ∀ {ps : List (Nat × AV)} {xs r : List (List AV)}, zHN sz xs ps = some r → (fillS sz xs ps).1 ∧ (fillS sz xs ps).2 = r
 | [], xs, r, h => by simp only [zHN, zXt] at h; exact ⟨trivial, h⟩
 | (i, x) :: ps, xs, r, h => by
  simp only [zHN] at h
  cases hb : (Nat.beq (cellsOf x).length sz && Nat.blt i xs.length && c1s (cellsOf x) && (cellsOf x).all cl1)
  ·rw [hb] at h; cases h
  ·rw [hb, zYd] at h
   simp only [zXE, zYI, zYl] at hb
   obtain ⟨h1, h2⟩ := zHM h
   exact ⟨⟨⟨hb.1.1.1, hb.1.1.2, hb.1.2, zDa hb.2⟩, h1⟩, h2⟩
def zU8 (imm : Bool) (sz len n : Nat) (zs : List AV) (ps : List (Nat × AV)) : Rt :=
 match zHN sz (List.replicate len zs) ps with
 | some r => cond imm (some (cond (Nat.beq len 0) .nc (.sl sz r), .keep)) (some (.os n 0 0 len, .push (.arr 0 sz r)))
 | none => none
theorem zPR {imm : Bool} {sz len : Nat} {zs : List AV} {ps : List (Nat × AV)} {H : zC} : zFc (zU8 imm sz len H.length zs ps) (rBsl imm sz len zs ps H) H := by
 intro y u h
 simp only [zU8] at h
 split at h
 ·rename_i r hr
  obtain ⟨h1, h2⟩ := zHM hr
  cases imm with
  | true =>
   simp only [zYd, zXt, zXO] at h
   simp only [rBsl, if_true]
   refine ⟨h1, ?_, by rw [← h.2]; rfl⟩
   rw [h2, ← h.1]
   by_cases h0 : len = 0
   ·subst h0; rfl
   ·rw [if_neg h0]
    have hb : Nat.beq len 0 = false := by cases len with | zero => exact absurd rfl h0 | succ n => rfl
    rw [hb]; rfl
  | false =>
   simp only [cond_false, zXt, zXO] at h
   simp only [rBsl, zXH, if_false]
   exact ⟨h1, h.1, by rw [← h.2, h2]; rfl⟩
 ·cases h
def vI (op : BinOp) (k k' : IntKind) (a b : Int) : Option AV :=
 cond (eqK k k') (match op with
  | .add => fI (zG0 k (a + b)) fun n => some (.v (.int k n))
  | .sub => fI (zG0 k (a - b)) fun n => some (.v (.int k n))
  | .mul => fI (zG0 k (a * b)) fun n => some (.v (.int k n))
  | .quo => cond (eqI b 0) none (fI (zG0 k (a.tdiv b)) fun n => some (.v (.int k n)))
  | .rem => cond (eqI b 0) none (fI (a.tmod b) fun n => some (.v (.int k n)))
  | .eql => some (bool (eqI a b))
  | .neq => some (bool (!eqI a b))
  | .lss => some (bool (ltI a b))
  | .leq => some (bool (leI a b))
  | .gtr => some (bool (ltI b a))
  | .geq => some (bool (leI b a))
  | _ => none) none
theorem zV1 {op : BinOp} {k k' : IntKind} {a b : Int} {x : AV} (H : zC) (h : vI op k k' a b = some x) : (iBin op k k' a b H).ok ∧ (iBin op k k' a b H).x = x ∧ (iBin op k k' a b H).H = H := by
 unfold vI at h
 cases hk : eqK k k' with
 | false => rw [hk] at h; cases h
 | true =>
  rw [hk, zYd] at h
  have hkk := zMM hk
  cases op <;> simp only [zRw, zGZ, zMO, zGx, zPq, zXt] at h <;> first | (cases h; done) | exact ⟨hkk, h, rfl⟩ | skip
  all_goals
   by_cases hb : b = 0
   ·simp [hb] at h
   ·simp only [hb, decide_false, cond_false, zXt] at h
    exact ⟨⟨hkk, hb⟩, h, rfl⟩
def vS (op : BinOp) (a b : List UInt8) : Option AV :=
 match op with
 | .add => cond (Nat.ble (a.length + b.length) 9223372036854775807) (some (str (a ++ b))) none
 | .eql => some (bool (eqL a b))
 | .neq => some (bool (!eqL a b))
 | .lss => some (bool (Op.bytesLess a b))
 | .geq => some (bool (!Op.bytesLess a b))
 | _ => none
theorem zV0 {op : BinOp} {a b : List UInt8} {x : AV} (H : zC) (h : vS op a b = some x) : (sBin op a b H).ok ∧ (sBin op a b H).x = x ∧ (sBin op a b H).H = H := by
 cases op <;> simp only [vS, zKe, zXt] at h <;> first | (cases h; done) | exact ⟨trivial, h, rfl⟩ | skip
 cases hb : Nat.ble (a.length + b.length) 9223372036854775807
 ·rw [hb] at h; cases h
 ·rw [hb, zYd, zXt] at h
  have := zXs hb
  refine ⟨?_, h, rfl⟩
  show ((a.length + b.length : Nat) : Int) ≤ 9223372036854775807
  omega
def vC : List KD → List AV → List AV → Option Bool
 | [], [], [] => some true
 | .int :: ks, .v (.int k a) :: l, .v (.int k' b) :: m => cond (eqK k k') (match vC ks l m with | some r => some (eqI a b && r) | none => none) none
 | .str :: ks, .v (.string a) :: l, .v (.string b) :: m => match vC ks l m with | some r => some (eqL (bs a) (bs b) && r) | none => none
 | .bool :: ks, .v (.bool a) :: l, .v (.bool b) :: m => match vC ks l m with | some r => some (eqB a b && r) | none => none
 | _, _, _ => none
theorem zV4 : ∀ {ks : List KD} {l m : List AV} {r : Bool}, vC ks l m = some r → (cEq ks l m).1 ∧ (cEq ks l m).2 = r := by
 intro ks
 induction ks with
 | nil =>
  intro l m r h
  cases l <;> cases m <;> simp [vC] at h
  subst h
  exact ⟨trivial, rfl⟩
 | cons k ks ih =>
  intro l m r h
  cases k <;> cases l <;> cases m <;> (try simp only [vC] at h) <;> first | (cases h; done) | skip
  all_goals (rename_i x l y m; cases x <;> (try simp only [vC] at h) <;> first | (cases h; done) | skip)
  all_goals (rename_i v; cases v <;> (try simp only [vC] at h) <;> first | (cases h; done) | skip)
  all_goals (cases y <;> (try simp only [vC] at h) <;> first | (cases h; done) | skip)
  all_goals (rename_i v; cases v <;> (try simp only [vC] at h) <;> first | (cases h; done) | skip)
  ·rename_i k a k' b
   cases hk : eqK k k' with
   | false => rw [hk] at h; cases h
   | true =>
    rw [hk, zYd] at h
    have hkk := zMM hk
    subst hkk
    split at h
    ·rename_i r' hr
     obtain ⟨h1, h2⟩ := ih hr
     simp only [zXt] at h
     refine ⟨⟨⟨rfl, rfl, by simp [kCmp]⟩, h1⟩, ?_⟩
     rw [← h, ← h2, zMO]
     simp only [cEq, kEq]
     congr 1
     rw [zY0]; simp
    ·cases h
  ·split at h
   ·rename_i r' hr
    obtain ⟨h1, h2⟩ := ih hr
    simp only [zXt] at h
    refine ⟨⟨⟨rfl, rfl, rfl⟩, h1⟩, ?_⟩
    rw [← h, ← h2, zKe]
    simp only [cEq, kEq]
    congr 1
    rw [zY0]; simp
   ·cases h
  ·split at h
   ·rename_i r' hr
    obtain ⟨h1, h2⟩ := ih hr
    simp only [zXt] at h
    refine ⟨⟨⟨rfl, rfl, rfl⟩, h1⟩, ?_⟩
    rw [← h, ← h2, zMP]
    simp only [cEq, kEq]
    congr 1
   ·cases h
def vEq (op : BinOp) (b : Bool) : Option AV :=
 match op with
 | .eql => some (bool b)
 | .neq => some (bool (!b))
 | _ => none
def zU9 (kd : KD) (op : BinOp) (x y : AV) : Option AV :=
 match x, y with
 | .v (.int k a), .v (.int k' b) => vI op k k' a b
 | .v (.string a), .v (.string b) => vS op (bs a) (bs b)
 | .v (.bool a), .v (.bool b) => match kd with | .bool => vEq op (eqB a b) | _ => none
 | .agg xs, .agg ys => match kd with
  | .agg ks => match vC ks xs ys with | some b => vEq op b | none => none
  | _ => none
 | _, _ => none
theorem zOU {op : BinOp} {b : Bool} {p : Prop} {x : AV} (H : zC) (hp : p) (h : vEq op b = some x) : (eqRes op p b H).ok ∧ (eqRes op p b H).x = x ∧ (eqRes op p b H).H = H := by
 cases op <;> simp only [vEq, zXt] at h <;> first | (cases h; done) | exact ⟨hp, h, rfl⟩
theorem zPT {kd : KD} {op : BinOp} {x y z : AV} (H : zC) (h : zU9 kd op x y = some z) : (rBin kd op x y H).ok ∧ (rBin kd op x y H).x = z ∧ (rBin kd op x y H).H = H := by
 unfold zU9 at h
 split at h
 ·exact zV1 H h
 ·exact zV0 H h
 ·split at h
  ·rw [zMP] at h; exact zOU H rfl h
  ·cases h
 ·split at h
  ·split at h
   ·rename_i b hb
    obtain ⟨h1, h2⟩ := zV4 hb
    simp only [rBin]
    rw [h2]
    exact zOU H h1 h
   ·cases h
  ·cases h
 ·cases h
def zOT (g : Nat → Option HO) (x : AV) : Rt :=
 match x with
 | .vp _ _ => some (x, .keep)
 | .mp _ _ => some (x, .keep)
 | .fn (.func _) _ _ => some (x, .keep)
 | .ptr r ver _ => match g r with
  | some (.box _) => gB (Nat.beq ver 0) x .keep
  | _ => none
 | .pe r ver _ _ => match g r with
  | some (.arr v _ _) => gB (Nat.beq ver v) x .keep
  | _ => none
 | _ => none
theorem zPJ {H : zC} {x : AV} : zFc (zOT (fun r => H[r]?) x) (rNil x H) H := by
 intro y u h
 cases x with
 | vp cs o => simp only [zOT, zXt, zXO] at h; exact ⟨trivial, h.1, by rw [← h.2]; rfl⟩
 | mp ks vs => simp only [zOT, zXt, zXO] at h; exact ⟨trivial, h.1, by rw [← h.2]; rfl⟩
 | fn f a b => cases f <;> simp only [zOT, zXt, zXO] at h <;> first | (cases h; done) | exact ⟨trivial, h.1, by rw [← h.2]; rfl⟩
 | ptr r ver off =>
  simp only [zOT] at h
  split at h
  ·rename_i cs hr
   obtain ⟨h1, h2, h3⟩ := zC7 h
   simp only [zYl] at h1
   simp only [rNil, hr, isVer]
   exact ⟨h1, h2, by rw [← h3]; rfl⟩
  ·cases h
 | pe r ver i off =>
  simp only [zOT] at h
  split at h
  ·rename_i v sz xs hr
   obtain ⟨h1, h2, h3⟩ := zC7 h
   simp only [zYl] at h1
   simp only [rNil, hr, isVer]
   exact ⟨h1, h2, by rw [← h3]; rfl⟩
  ·cases h
 | _ => cases h
def zNr (g : Nat → Option HO) (sz : Nat) : AV → Option (List (List AV))
 | .sl sz' xs => cond (Nat.beq sz' sz || xs.isEmpty) (some xs) none
 | .os r ver off len => match g r with
  | some (.arr v sz' xs) => cond (Nat.beq ver v && Nat.beq sz' sz && Nat.ble (off + len) xs.length) (some ((xs.drop off).take len)) none
  | _ => none
 | .v (.slice none 0 0) => some []
 | .nc => some []
 | .v (.string s) => cond (Nat.beq sz 1) (some ((bs s).map zCl)) none
 | _ => none
theorem zJD {H : zC} {sz : Nat} {x : AV} {rows : List (List AV)} (h : zNr (fun r => H[r]?) sz x = some rows) : rowsOf H x = some rows ∧ szOk H sz x := by
 unfold zNr at h
 split at h
 ·rename_i sz' xs
  cases hb : (Nat.beq sz' sz || xs.isEmpty)
  ·rw [hb] at h; cases h
  ·rw [hb, zYd, zXt] at h
   simp only [zYS, zYl, zZQ] at hb
   exact ⟨by rw [← h]; rfl, hb⟩
 ·rename_i r ver off len
  split at h
  ·rename_i v sz' xs hr
   cases hb : (Nat.beq ver v && Nat.beq sz' sz && Nat.ble (off + len) xs.length)
   ·rw [hb] at h; cases h
   ·rw [hb, zYd, zXt] at h
    simp only [zXE, zYl, zYY] at hb
    obtain ⟨⟨rfl, rfl⟩, hle⟩ := hb
    refine ⟨?_, ?_⟩
    ·simp only [rowsOf, osRows, hr]
     rw [if_pos ⟨trivial, hle⟩, h]
    ·simp only [szOk, hr]
  ·cases h
 ·simp only [zXt] at h; exact ⟨by rw [← h]; rfl, trivial⟩
 ·simp only [zXt] at h; exact ⟨by rw [← h]; rfl, trivial⟩
 ·rename_i s
  cases hb : Nat.beq sz 1
  ·rw [hb] at h; cases h
  ·rw [hb, zYd, zXt] at h
   exact ⟨by rw [← h]; rfl, zYJ hb⟩
 ·cases h
def zNx (g : Nat → Option HO) (c : Cv) (x : AV) : Rt :=
 match c, x with
 | .toInt k, .v (.int _ n) => fI (zG0 k n) fun n => some (.v (.int k n), .keep)
 | .same, .v (.string s) => some (.v (.string s), .keep)
 | .strBytes, .v (.string s) => gB (Nat.blt (bs s).length 9223372036854775808) (.sl 1 ((bs s).map zCl)) .keep
 | .bytesStr, .v (.slice none 0 0) => some (str [], .keep)
 | .bytesStr, .v _ => none
 | .bytesStr, y => match zNr g 1 y with
  | some rows => match zBz rows with
   | some l => some (str l, .keep)
   | none => none
  | none => none
 | .runeStr, .v (.int _ n) => some (.v (.string (Utf8.encode n)), .keep)
 | _, _ => none
theorem zNw {H : zC} {c : Cv} {x : AV} : zFc (zNx (fun r => H[r]?) c x) (rConv c x H) H := by
 intro y u h
 unfold zNx at h
 split at h
 ·simp only [zRw, zGZ, zXt, zXO] at h; exact ⟨trivial, h.1, by rw [← h.2]; rfl⟩
 ·simp only [zXt, zXO] at h; exact ⟨trivial, h.1, by rw [← h.2]; rfl⟩
 ·obtain ⟨h1, h2, h3⟩ := zC7 h
  simp only [zYI] at h1
  exact ⟨by show ((_ : Nat) : Int) < _; omega, h2, by rw [← h3]; rfl⟩
 ·simp only [zXt, zXO] at h
  exact ⟨⟨trivial, rfl⟩, by rw [← h.1]; rfl, by rw [← h.2]; rfl⟩
 ·cases h
 ·rename_i hns
  split at h
  ·rename_i rows hr
   split at h
   ·rename_i l hl
    obtain ⟨h1, h2⟩ := zJD hr
    simp only [zXt, zXO] at h
    have hx : rConv .bytesStr x H = ⟨szOk H 1 x ∧ ((rowsOf H x).bind zBz).isSome = true, str (((rowsOf H x).bind zBz).getD []), H⟩ := by
     cases x with
     | v v => exact absurd rfl (hns v)
     | _ => rfl
    rw [hx]
    simp only [h1, zZh, hl]
    exact ⟨⟨h2, rfl⟩, h.1, by rw [← h.2]; rfl⟩
   ·cases h
  ·cases h
 ·simp only [zXt, zXO] at h; exact ⟨trivial, h.1, by rw [← h.2]; rfl⟩
 ·cases h
def zU3 (sz bytes n : Nat) (zs : List AV) (len cap : AV) : Rt :=
 match len, cap with
 | .v (.int .i64 (.ofNat m)), .v (.int .i64 (.ofNat c)) => gB (Nat.ble m c && Nat.ble (c * bytes) 140737488355328 && Nat.ble c 140737488355328 && Nat.beq zs.length sz) (.os n 0 0 m) (.push (.arr 0 sz (List.replicate c zs)))
 | _, _ => none
theorem zPK {sz bytes : Nat} {zs : List AV} {len cap : AV} {H : zC} : zFc (zU3 sz bytes H.length zs len cap) (rMsl sz bytes zs len cap H) H := by
 intro y u h
 unfold zU3 at h
 split at h
 ·rename_i m c
  obtain ⟨h1, h2, h3⟩ := zC7 h
  simp only [zXE, zYY, zYl] at h1
  obtain ⟨⟨⟨a1, a2⟩, a3⟩, a4⟩ := h1
  simp only [rMsl, zY7, zYX]
  refine ⟨⟨by omega, by omega, ?_, by omega, a4⟩, h2, by rw [← h3]; rfl⟩
  have : ((c * bytes : Nat) : Int) ≤ 140737488355328 := by omega
  simpa using this
 ·cases h
def zNn (d : Nat) : Option AV → Option Nat
 | none => some d
 | some (.v (.int _ (.ofNat n))) => some n
 | _ => none
theorem zDm {d n : Nat} {x : Option AV} (h : zNn d x = some n) : bnd d x = some (n : Int) := by
 unfold zNn at h
 split at h
 ·simp only [zXt] at h; subst h; rfl
 ·simp only [zXt] at h; subst h; rfl
 ·cases h
def zGn (g : Nat → Option HO) (lk : LK) (n : Nat) (x : AV) (lo hi : Option AV) : Rt :=
 match lk, x with
 | .str, .v (.string s) => match zNn 0 lo, zNn (bs s).length hi with
  | some l, some h => gB (Nat.ble l h && Nat.ble h (bs s).length && Nat.beq n 1) (str (((bs s).drop l).take (h - l))) .keep
  | _, _ => none
 | .slc, .sl sz xs => match zNn 0 lo, zNn xs.length hi with
  | some l, some h => gB (Nat.ble l h && Nat.ble h xs.length && Nat.beq sz n) (.sl sz ((xs.drop l).take (h - l))) .keep
  | _, _ => none
 | .slc, .os r ver off len => match zNn 0 lo, zNn len hi, g r with
  | some l, some h, some (.arr v sz xs) => gB (Nat.ble l h && Nat.ble h len && Nat.beq sz n && Nat.beq ver v) (.os r ver (off + l) (h - l)) .keep
  | _, _, _ => none
 | .slc, .v (.slice none 0 0) => match zNn 0 lo, zNn 0 hi with
  | some 0, some 0 => some (zAg, .keep)
  | _, _ => none
 | _, _ => none
theorem zFA {H : zC} {lk : LK} {n : Nat} {x : AV} {lo hi : Option AV} : zFc (zGn (fun r => H[r]?) lk n x lo hi) (rSlice lk n x lo hi H) H := by
 intro y u h
 unfold zGn at h
 split at h
 ·rename_i s
  split at h
  ·rename_i l h' hl hh
   obtain ⟨h1, h2, h3⟩ := zC7 h
   simp only [zXE, zYY, zYl] at h1
   obtain ⟨⟨a1, a2⟩, a3⟩ := h1
   have e1 := zDm hl
   have e2 := zDm hh
   simp only [rSlice, lenOf, zYn, rSliceN, Res.also]
   rw [show bnd 0 lo = some (l : Int) from e1, e2]
   simp only [rSliceN, zYX]
   exact ⟨⟨⟨rfl, a3⟩, by omega, by omega, by omega⟩, h2, by rw [← h3]; rfl⟩
  ·cases h
 ·rename_i sz xs
  split at h
  ·rename_i l h' hl hh
   obtain ⟨h1, h2, h3⟩ := zC7 h
   simp only [zXE, zYY, zYl] at h1
   obtain ⟨⟨a1, a2⟩, a3⟩ := h1
   have e1 := zDm hl
   have e2 := zDm hh
   simp only [rSlice, lenOf, zYn, Res.also]
   rw [show bnd 0 lo = some (l : Int) from e1, e2]
   simp only [rSliceN, zYX]
   exact ⟨⟨⟨rfl, .inl a3⟩, by omega, by omega, by omega⟩, h2, by rw [← h3]; rfl⟩
  ·cases h
 ·rename_i r ver off len
  split at h
  ·rename_i l h' v sz xs hl hh hr
   obtain ⟨h1, h2, h3⟩ := zC7 h
   simp only [zXE, zYY, zYl] at h1
   obtain ⟨⟨⟨a1, a2⟩, rfl⟩, rfl⟩ := h1
   have e1 := zDm hl
   have e2 := zDm hh
   simp only [rSlice, lenOf, zYn, Res.also]
   rw [show bnd 0 lo = some (l : Int) from e1, e2]
   simp only [rSliceN, zYX, hr, isArr, isVer, szOk]
   exact ⟨⟨⟨rfl, trivial⟩, by omega, by omega, by omega, trivial, trivial⟩, h2, by rw [← h3]; rfl⟩
  ·cases h
 ·split at h
  ·rename_i hl hh
   have e1 := zDm hl
   have e2 := zDm hh
   simp only [zXt, zXO] at h
   simp only [rSlice, lenOf, zYn, Res.also]
   rw [show bnd 0 lo = some ((0 : Nat) : Int) from e1, show bnd ((0 : Nat) : Int) hi = some ((0 : Nat) : Int) from e2]
   exact ⟨⟨⟨rfl, trivial⟩, rfl, rfl⟩, h.1, by rw [← h.2]; rfl⟩
  ·cases h
 ·cases h
def zIQ (g : Nat → Option HO) (lk : LK) (n : Nat) (x : AV) (lo hi : Option AV) : Rt :=
 match x with
 | .sl a b => zGn g lk n (.sl a b) lo hi
 | .v v => zGn g lk n (.v v) lo hi
 | _ => none
theorem zKr {H : zC} {lk : LK} {n : Nat} {x : AV} {lo hi : Option AV} : zFc (zIQ (fun r => H[r]?) lk n x lo hi) (zFK lk n x lo hi H) H := by
 intro y u h
 cases x with
 | sl a b => exact zFA _ _ h
 | v v => exact zFA _ _ h
 | _ => cases h
def zU6 (g : Nat → Option HO) (lk : LK) (x : AV) : Rt :=
 match lk, x with
 | .str, .v (.string s) => fN (bs s).length fun n => some (int (.ofNat n), .keep)
 | .slc, .sl _ xs => fN xs.length fun n => some (int (.ofNat n), .keep)
 | .slc, .os r ver _ len => match g r with
  | some (.arr v _ _) => gB (Nat.beq ver v) (int (.ofNat len)) .keep
  | _ => none
 | .slc, .v (.slice none 0 0) => some (int 0, .keep)
 | .slc, .nc => some (int 0, .keep)
 | .map, .mp ks _ => fN ks.length fun n => some (int (.ofNat n), .keep)
 | _, _ => none
theorem zPN {H : zC} {lk : LK} {x : AV} : zFc (zU6 (fun r => H[r]?) lk x) (rLen lk x H) H := by
 intro y u h
 unfold zU6 at h
 split at h
 ·simp only [zER, zXt, zXO] at h; exact ⟨⟨rfl, trivial⟩, h.1, by rw [← h.2]; rfl⟩
 ·simp only [zER, zXt, zXO] at h; exact ⟨⟨rfl, trivial⟩, h.1, by rw [← h.2]; rfl⟩
 ·split at h
  ·rename_i v sz xs hr
   obtain ⟨h1, h2, h3⟩ := zC7 h
   simp only [zYl] at h1
   simp only [rLen, verOk, hr, isArr, isVer]
   exact ⟨⟨rfl, trivial, h1⟩, h2, by rw [← h3]; rfl⟩
  ·cases h
 ·simp only [zXt, zXO] at h; exact ⟨⟨rfl, trivial⟩, h.1, by rw [← h.2]; rfl⟩
 ·simp only [zXt, zXO] at h; exact ⟨⟨rfl, trivial⟩, h.1, by rw [← h.2]; rfl⟩
 ·simp only [zER, zXt, zXO] at h; exact ⟨⟨rfl, trivial⟩, h.1, by rw [← h.2]; rfl⟩
 ·cases h
def zHP (g : Nat → Option HO) (off : Nat) (p : AV) : Rt :=
 match p with
 | .ptr r ver o => match g r with
  | some (.box _) => cond (Nat.beq ver 0) (fN (o + off) fun o => some (.ptr r ver o, .keep)) none
  | _ => none
 | .pe r ver i o => match g r with
  | some (.arr v _ _) => cond (Nat.beq ver v) (fN (o + off) fun o => some (.pe r ver i o, .keep)) none
  | _ => none
 | .vp cs o => fN (o + off) fun o => some (.vp cs o, .keep)
 | _ => none
theorem zHO {H : zC} {off : Nat} {p : AV} : zFc (zHP (fun r => H[r]?) off p) (rFaddr off p H) H := by
 intro y u h
 unfold zHP at h
 split at h
 ·split at h
  ·rename_i cs hr
   simp only [zER] at h
   cases hb : Nat.beq _ 0 <;> rw [hb] at h
   ·cases h
   ·simp only [zYd, zXt, zXO] at h
    simp only [rFaddr, hr, isBox, isVer]
    exact ⟨⟨trivial, zYJ hb⟩, h.1, by rw [← h.2]; rfl⟩
  ·cases h
 ·split at h
  ·rename_i v sz xs hr
   simp only [zER] at h
   cases hb : Nat.beq _ v <;> rw [hb] at h
   ·cases h
   ·simp only [zYd, zXt, zXO] at h
    simp only [rFaddr, hr, isArr, isVer]
    exact ⟨⟨trivial, zYJ hb⟩, h.1, by rw [← h.2]; rfl⟩
  ·cases h
 ·simp only [zER, zXt, zXO] at h; exact ⟨trivial, h.1, by rw [← h.2]; rfl⟩
 ·cases h
def zV2 (ag : Bool) (off n : Nat) (x : AV) : Rt :=
 match x with
 | .agg cs => zLp ag n off cs true
 | _ => none
theorem zPP {H : zC} {ag : Bool} {off n : Nat} {x : AV} : zFc (zV2 ag off n x) (rFld ag off n x H) H := by
 intro y u h
 cases x with
 | agg cs =>
  obtain ⟨_, h1, h2, h3, rfl⟩ := zFe h
  exact ⟨⟨h1, h2⟩, h3, rfl⟩
 | _ => cases h
def zHL (g : Nat → Option HO) (sz : Nat) (x i : AV) : Rt :=
 match x, i with
 | .sl sz' xs, .v (.int _ (.ofNat n)) => gB (Nat.beq sz' sz && Nat.blt n xs.length) (.vp (xs.getD n []) 0) .keep
 | .os r ver off len, .v (.int _ (.ofNat n)) => match g r with
  | some (.arr v sz' _) => cond (Nat.blt n len && Nat.beq sz' sz && Nat.beq ver v) (fN (off + n) fun m => some (.pe r ver m 0, .keep)) none
  | _ => none
 | _, _ => none
theorem zHK {H : zC} {sz : Nat} {x i : AV} : zFc (zHL (fun r => H[r]?) sz x i) (rIaddr sz x i H) H := by
 intro y u h
 unfold zHL at h
 split at h
 ·obtain ⟨h1, h2, h3⟩ := zC7 h
  simp only [zXE, zYI, zYl] at h1
  simp only [rIaddr, zY7, zYX]
  exact ⟨⟨h1.1, by omega, by omega⟩, h2, by rw [← h3]; rfl⟩
 ·split at h
  ·rename_i v sz' xs hr
   simp only [zER] at h
   cases hb : (Nat.blt _ _ && Nat.beq sz' sz && Nat.beq _ v) <;> rw [hb] at h
   ·cases h
   ·simp only [zXE, zYI, zYl] at hb
    simp only [zYd, zXt, zXO] at h
    simp only [rIaddr, hr, isVer, szOk, zY7, zYX]
    exact ⟨⟨by omega, by omega, hb.1.2, hb.2⟩, h.1, by rw [← h.2]; rfl⟩
  ·cases h
 ·cases h
def zU7 (x i : AV) : Rt :=
 match x, i with
 | .v (.string s), .v (.int _ (.ofNat n)) => cond (Nat.blt n (bs s).length) (fN ((bs s).getD n 0).toNat fun m => some (u8 (.ofNat m), .keep)) none
 | _, _ => none
theorem zPO {H : zC} {x i : AV} : zFc (zU7 x i) (rIdx x i H) H := by
 intro y u h
 unfold zU7 at h
 split at h
 ·simp only [zER] at h
  cases hb : Nat.blt _ _ <;> rw [hb] at h
  ·cases h
  ·simp only [zYI] at hb
   simp only [zYd, zXt, zXO] at h
   simp only [rIdx, zY7, zYX]
   exact ⟨⟨by omega, by omega⟩, h.1, by rw [← h.2]; rfl⟩
 ·cases h
def zV3 (x : AV) (i : Nat) : Rt :=
 match x with
 | .tup xs => gB (Nat.blt i xs.length) (xs.getD i .any) .keep
 | _ => none
theorem zPQ {H : zC} {x : AV} {i : Nat} : zFc (zV3 x i) (rExt x i H) H := by
 intro y u h
 cases x with
 | tup xs =>
  obtain ⟨h1, h2, h3⟩ := zC7 h
  simp only [zYI] at h1
  exact ⟨h1, h2, by rw [← h3]; rfl⟩
 | _ => cases h
def zG4 (g : Nat → Option HO) (sz bytes n : Nat) (s x : AV) : Rt :=
 match zNr g sz x with
 | none => none
 | some ys => match s with
  | .os r ver 0 len => match g r with
   | some (.arr v sz' xs) => cond (Nat.beq ver v && Nat.beq sz' sz && Nat.ble len xs.length && Nat.ble ((len + ys.length) * bytes) 140737488355328 && Nat.ble (len + ys.length) 140737488355328)
     (fN (ver + 1) fun ver => fN (len + ys.length) fun m => some (.os r ver 0 m, .set r (.arr ver sz (xs.take len ++ ys)))) none
   | _ => none
  | .v (.slice none 0 0) => cond (Nat.blt 0 sz && Nat.ble (ys.length * bytes) 140737488355328 && Nat.ble ys.length 140737488355328) (fN ys.length fun m => some (.os n 0 0 m, .push (.arr 0 sz ys))) none
  | .nc => match ys with
   | [] => cond (Nat.blt 0 sz) (some (.nc, .keep)) none
   | y :: ys => cond (Nat.blt 0 sz && Nat.ble ((y :: ys).length * bytes) 140737488355328 && Nat.ble (y :: ys).length 140737488355328) (fN (y :: ys).length fun m => some (.os n 0 0 m, .push (.arr 0 sz (y :: ys)))) none
  | _ => none
theorem zKv {H : zC} {sz bytes : Nat} {s x : AV} : zFc (zG4 (fun r => H[r]?) sz bytes H.length s x) (rAppend sz bytes s x H) H := by
 intro y u h
 unfold zG4 at h
 split at h
 ·cases h
 ·rename_i ys hys
  obtain ⟨e1, e2⟩ := zJD hys
  split at h
  ·rename_i r ver len
   split at h
   ·rename_i v sz' xs hr
    simp only [zER] at h
    cases hb : (Nat.beq ver v && Nat.beq sz' sz && Nat.ble len xs.length && Nat.ble ((len + ys.length) * bytes) 140737488355328 && Nat.ble (len + ys.length) 140737488355328) <;> rw [hb] at h
    ·cases h
    ·simp only [zXE, zYY, zYl] at hb
     simp only [zYd, zXt, zXO] at h
     simp only [rAppend, e1, rAppendO, hr, Res.also]
     exact ⟨⟨e2, hb.1.1.1.1, hb.1.1.1.2, hb.1.1.2, hb.1.2, hb.2⟩, h.1, by rw [← h.2]; rfl⟩
   ·cases h
  ·simp only [zER] at h
   cases hb : (Nat.blt 0 sz && Nat.ble (ys.length * bytes) 140737488355328 && Nat.ble ys.length 140737488355328) <;> rw [hb] at h
   ·cases h
   ·simp only [zXE, zYY, zYI] at hb
    simp only [zYd, zXt, zXO] at h
    simp only [rAppend, e1, rAppendN, Res.also]
    exact ⟨⟨e2, hb.1.1, hb.1.2, hb.2⟩, h.1, by rw [← h.2]; rfl⟩
  ·split at h
   ·cases hb : Nat.blt 0 sz <;> rw [hb] at h
    ·cases h
    ·simp only [zYI] at hb
     simp only [zYd, zXt, zXO] at h
     simp only [rAppend, e1, rAppendC, Res.also]
     exact ⟨⟨e2, hb⟩, h.1, by rw [← h.2]; rfl⟩
   ·rename_i y ys
    simp only [zER] at h
    cases hb : (Nat.blt 0 sz && Nat.ble ((y :: ys).length * bytes) 140737488355328 && Nat.ble (y :: ys).length 140737488355328) <;> rw [hb] at h
    ·cases h
    ·simp only [zXE, zYY, zYI] at hb
     simp only [zYd, zXt, zXO] at h
     simp only [rAppend, e1, rAppendC, rAppendN, Res.also]
     exact ⟨⟨e2, hb.1.1, hb.1.2, hb.2⟩, h.1, by rw [← h.2]; rfl⟩
  ·cases h
def zSB (g : Nat → Option HO) (x : AV) : Rt :=
 match x with
 | .os r ver off len => match g r with
  | some (.arr v sz xs) => gB (Nat.beq ver v && Nat.ble (off + len) xs.length) (.sl sz ((xs.drop off).take len)) (.set r .dead)
  | _ => none
 | .ptr r ver off => match g r with
  | some (.box cs) => gB (Nat.beq ver 0 && cs.all cl1) (.vp cs off) (.set r .dead)
  | _ => none
 | .v (.slice none 0 0) => some (.sl 0 [], .keep)
 | .sl sz xs => some (.sl sz xs, .keep)
 | .nc => some (.sl 0 [], .keep)
 | _ => none
theorem zLo {H : zC} {x : AV} : zFc (zSB (fun r => H[r]?) x) (rFrz x H) H := by
 intro y u h
 unfold zSB at h
 split at h
 ·split at h
  ·rename_i v sz xs hr
   obtain ⟨h1, h2, h3⟩ := zC7 h
   simp only [zXE, zYY, zYl] at h1
   simp only [rFrz, hr]
   exact ⟨h1, h2, by rw [← h3]; rfl⟩
  ·cases h
 ·split at h
  ·rename_i cs hr
   obtain ⟨h1, h2, h3⟩ := zC7 h
   simp only [zXE, zYl] at h1
   simp only [rFrz, hr]
   exact ⟨⟨h1.1, zDa h1.2⟩, h2, by rw [← h3]; rfl⟩
  ·cases h
 ·simp only [zXt, zXO] at h; exact ⟨trivial, h.1, by rw [← h.2]; rfl⟩
 ·simp only [zXt, zXO] at h; exact ⟨trivial, h.1, by rw [← h.2]; rfl⟩
 ·simp only [zXt, zXO] at h; exact ⟨trivial, h.1, by rw [← h.2]; rfl⟩
 ·cases h
def zNv (g : Nat → Option HO) (sz off : Nat) (x : AV) : Rt :=
 match x with
 | .agg cs => match cs[off]? with
  | some (.v (.slice none 0 0)) => some (.agg (cs.set off (.sl sz [])), .keep)
  | some (.os r ver o len) => match zSB g (.os r ver o len) with
   | some (y, u) => some (.agg (cs.set off y), u)
   | none => none
  | some (.sl sz' xs) => some (.agg (cs.set off (.sl sz' xs)), .keep)
  | _ => none
 | _ => none
theorem zNu {H : zC} {sz off : Nat} {x : AV} : zFc (zNv (fun r => H[r]?) sz off x) (rFrzf sz off x H) H := by
 intro y u h
 cases x with
 | agg cs =>
  simp only [zNv] at h
  split at h
  ·rename_i hc
   simp only [zXt, zXO] at h
   simp only [rFrzf, rFrzfO, hc, rFrzO, rFrzN]
   exact ⟨trivial, h.1, by rw [← h.2]; rfl⟩
  ·rename_i r ver o len hc
   split at h
   ·rename_i z v hz
    simp only [zXt, zXO] at h
    obtain ⟨h1, h2, h3⟩ := zLo _ _ hz
    simp only [rFrzf, rFrzfO, hc, rFrzO, rFrzN]
    exact ⟨h1, by rw [h2]; exact h.1, by rw [← h.2]; exact h3⟩
   ·cases h
  ·rename_i sz' xs hc
   simp only [zXt, zXO] at h
   simp only [rFrzf, rFrzfO, hc, rFrzO, rFrzN]
   exact ⟨trivial, h.1, by rw [← h.2]; rfl⟩
  ·cases h
 | _ => cases h
def evX (e : Nat → AV) (x : LX) : AV := LX.casesOn (motive := fun _ => AV) x e fun a => a
def zLn (ag : Bool) (n : Nat) (g : Nat → Option HO) (p : AV) : Rt := match p with
 | .pe _ _ _ _ => none
 | p => zIR ag n g p
theorem zLm {ag : Bool} {n : Nat} {H : zC} {p : AV} : zFc (zLn ag n (fun r => H[r]?) p) (zLL ag n p H) H := by
 intro x u h
 cases p <;> first | (cases h; done) | exact zG3 _ _ h
def zIT (g : Nat → Option HO) (off : Nat) (p : AV) : Rt := match p with
 | .pe _ _ _ _ => none
 | p => zHP g off p
theorem zKu {H : zC} {off : Nat} {p : AV} : zFc (zIT (fun r => H[r]?) off p) (zI3 off p H) H := by
 intro x u h
 cases p <;> first | (cases h; done) | exact zHO _ _ h
def zIS (g : Nat → Option HO) (sz : Nat) (x i : AV) : Rt := match x with
 | .sl a b => zHL g sz (.sl a b) i
 | _ => none
theorem zKs {H : zC} {sz : Nat} {x i : AV} : zFc (zIS (fun r => H[r]?) sz x i) (zEM sz x i H) H := by
 intro y u h
 cases x <;> first | (cases h; done) | exact zHK _ _ h
def zU4 (x y : AV) : Rt := match x, y with
 | .v (.int k a), .v (.int _ b) => some (.v (.int k (cond (ltI b a) b a)), .keep)
 | _, _ => none
def zNt (x y z : AV) : Rt := match x, y, z with
 | .v (.int k a), .v (.int _ b), .v (.int _ c) => some (.v (.int k (cond (ltI (cond (ltI a b) b a) c) c (cond (ltI a b) b a))), .keep)
 | _, _, _ => none
def zU5 (x y : AV) : Rt := match x, y with
 | .v (.int k a), .v (.int _ b) => some (.v (.int k (cond (ltI a b) b a)), .keep)
 | _, _ => none
theorem zPL {H : zC} {x y : AV} : zFc (zU4 x y) (rMin x y H) H := by
 intro z u h
 unfold zU4 at h
 split at h
 ·simp only [zXt, zXO, zGx] at h
  refine ⟨trivial, ?_, by rw [← h.2]; rfl⟩
  rw [← h.1]
  simp only [rMin]
  split <;> rename_i hh <;> simp [hh]
 ·cases h
theorem zNs {H : zC} {x y z : AV} : zFc (zNt x y z) (rMax3 x y z H) H := by
 intro q u h
 unfold zNt at h
 split at h
 ·rename_i k a k2 b k3 c
  simp only [zXt, zXO, zGx] at h
  refine ⟨trivial, ?_, by rw [← h.2]; rfl⟩
  rw [← h.1]
  have hc : cond (decide (a < b)) b a = if a < b then b else a := by by_cases hh : a < b <;> simp [hh]
  simp only [rMax3, hc]
  generalize (if a < b then b else a) = m
  by_cases hh : m < c <;> simp [hh]
 ·cases h
theorem zPM {H : zC} {x y : AV} : zFc (zU5 x y) (rMax x y H) H := by
 intro z u h
 unfold zU5 at h
 split at h
 ·simp only [zXt, zXO, zGx] at h
  refine ⟨trivial, ?_, by rw [← h.2]; rfl⟩
  rw [← h.1]
  simp only [rMax]
  split <;> rename_i hh <;> simp [hh]
 ·cases h
def opV (op : LOp) (e : Nat → AV) (g : Nat → Option HO) (n : Nat) : Rt :=
 match op with
 | .mv x => some (evX e x, .keep)
 | .alloc zs => gB (c1s zs) (.ptr n 0 0) (.push (.box zs))
 | .box imm x => zV5 imm n (evX e x)
 | .build zs ps => match zKt zs (ps.map fun (o, n, x) => (o, n, evX e x)) with | some r => some (.agg r, .keep) | none => none
 | .bsl imm sz len zs ps => zU8 imm sz len n zs (ps.map fun (i, x) => (i, evX e x))
 | .load ag n p => zIR ag n g (evX e p)
 | .loadb ag n p => zLn ag n g (evX e p)
 | .store n p x => zHJ n g (evX e p) (evX e x)
 | .nilchk x => zOT g (evX e x)
 | .bin kd op x y => match zU9 kd op (evX e x) (evX e y) with | some z => some (z, .keep) | none => none
 | .not x => match evX e x with | .v (.bool b) => some (bool (!b), .keep) | _ => none
 | .neg x => match evX e x with | .v (.int k n) => fI (zG0 k (0 - n)) fun n => some (.v (.int k n), .keep) | _ => none
 | .conv c x => zNx g c (evX e x)
 | .mkfn f a b => some (.fn f (a.map (evX e)) (b.map (evX e)), .keep)
 | .msl sz bytes zs len cap => zU3 sz bytes n zs (evX e len) (evX e cap)
 | .slice lk n x lo hi => zGn g lk n (evX e x) (lo.map (evX e)) (hi.map (evX e))
 | .slicev lk n x lo hi => zIQ g lk n (evX e x) (lo.map (evX e)) (hi.map (evX e))
 | .faddr off p => zHP g off (evX e p)
 | .faddrb off p => zIT g off (evX e p)
 | .fld ag off n x => zV2 ag off n (evX e x)
 | .iaddr sz x i => zHL g sz (evX e x) (evX e i)
 | .iaddrv sz x i => zIS g sz (evX e x) (evX e i)
 | .min2 x y => zU4 (evX e x) (evX e y)
 | .max2 x y => zU5 (evX e x) (evX e y)
 | .max3 x y z => zNt (evX e x) (evX e y) (evX e z)
 | .idx x i => zU7 (evX e x) (evX e i)
 | .ext x i => zV3 (evX e x) i
 | .len lk x => zU6 g lk (evX e x)
 | .append sz bytes s x => zG4 g sz bytes n (evX e s) (evX e x)
 | .frz x => zSB g (evX e x)
 | .frzf sz off x => zNv g sz off (evX e x)
 | .own sz x => match evX e x with | .v (.slice none 0 0) => gB (Nat.blt 0 sz) (.os n 0 0 0) (.push (.arr 0 sz [])) | _ => none
 | _ => none
theorem zPa {op : LOp} {e : Env} {H : zC} : zFc (opV op e (fun r => H[r]?) H.length) (zB2 op e H) H := by
 have hev : evX e = ev e := by funext x; cases x <;> rfl
 intro y u h
 unfold opV at h
 simp only [hev] at h
 cases op <;> simp only at h <;> first | (cases h; done) | skip
 case mv x => simp only [zXt, zXO] at h; exact ⟨trivial, h.1, by rw [← h.2]; rfl⟩
 case alloc zs => obtain ⟨h1, h2, h3⟩ := zC7 h; exact ⟨h1, h2, by rw [← h3]; rfl⟩
 case box imm x => exact zPS _ _ h
 case build zs ps =>
  split at h
  ·rename_i r hr
   obtain ⟨h1, h2⟩ := zJE hr
   simp only [zXt, zXO] at h
   exact ⟨h1, by rw [← h.1, ← h2]; rfl, by rw [← h.2]; rfl⟩
  ·cases h
 case bsl imm sz len zs ps => exact zPR _ _ h
 case load ag n p => exact zG3 _ _ h
 case loadb ag n p => exact zLm _ _ h
 case faddrb off p => exact zKu _ _ h
 case iaddrv sz x i => exact zKs _ _ h
 case min2 x z => exact zPL _ _ h
 case max2 x z => exact zPM _ _ h
 case max3 x y z => exact zNs _ _ h
 case store n p x => exact zLl _ _ h
 case nilchk x => exact zPJ _ _ h
 case bin kd op x z =>
  split at h
  ·rename_i r hr
   simp only [zXt, zXO] at h
   obtain ⟨h1, h2, h3⟩ := zPT H hr
   exact ⟨h1, by rw [← h.1]; exact h2, by rw [← h.2]; exact h3⟩
  ·cases h
 case not x =>
  split at h
  ·rename_i b hb
   simp only [zXt, zXO] at h
   simp only [zB2, hb, rNot]
   exact ⟨trivial, h.1, by rw [← h.2]; rfl⟩
  ·cases h
 case neg x =>
  split at h
  ·rename_i k n hb
   simp only [zRw, zGZ, zXt, zXO] at h
   simp only [zB2, hb, rNeg]
   exact ⟨trivial, h.1, by rw [← h.2]; rfl⟩
  ·cases h
 case conv c x => exact zNw _ _ h
 case mkfn f a b => simp only [zXt, zXO] at h; exact ⟨trivial, h.1, by rw [← h.2]; rfl⟩
 case msl sz bytes zs len cap => exact zPK _ _ h
 case slice lk n x lo hi => exact zFA _ _ h
 case slicev lk n x lo hi => exact zKr _ _ h
 case faddr off p => exact zHO _ _ h
 case fld ag off n x => exact zPP _ _ h
 case iaddr sz x i => exact zHK _ _ h
 case idx x i => exact zPO _ _ h
 case ext x i => exact zPQ _ _ h
 case len lk x => exact zPN _ _ h
 case append sz bytes s x => exact zKv _ _ h
 case frz x => exact zLo _ _ h
 case frzf sz off x => exact zNu _ _ h
 case own sz x =>
  split at h
  ·rename_i hb
   obtain ⟨h1, h2, h3⟩ := zC7 h
   simp only [zYI] at h1
   simp only [zB2, hb, rOwn]
   exact ⟨h1, h2, by rw [← h3]; rfl⟩
  ·cases h
section
variable {P : Program} {R : Type}
structure Seal where
 lo : Nat
 H0 : zC
noncomputable def loT (t : Tr HO) : Nat := match t.get .dead 1000001 with
 | .arr v _ _ => v
 | _ => 0
structure RH (z : Seal) (t : Tr HO) (n : Nat) (H : zC) : Prop where
 len : H.length = n
 get : ∀ r, r < n → H[r]? = some (t.get .dead r)
 lo : loT t = z.lo
 le : z.lo ≤ n
 low : ∀ r, r < z.lo → H[r]? = z.H0[r]?
variable {z : Seal}
noncomputable def gT (t : Tr HO) (n r : Nat) : Option HO := cond (Nat.blt r n) (some (t.get .dead r)) none
theorem zOp {t : Tr HO} {n : Nat} {H : zC} (h : RH z t n H) : gT t n = fun r => H[r]? := by
 funext r
 unfold gT
 cases hb : Nat.blt r n
 ·have : ¬ r < n := fun hh => by
   have := (zYI (x := r) (y := n)).symm ▸ hh
   rw [hb] at this; cases this
  rw [cond_false, zYv (by rw [h.len]; omega)]
 ·rw [zYd]
  simp only [zYI] at hb
  exact (h.get r hb).symm
abbrev KT (R : Type) := Tr HO → Nat → Option R
noncomputable def upK (u : Up) (t : Tr HO) (n : Nat) (k : KT R) : Option R :=
 match u with
 | .keep => k t n
 | .set r o => cond (Nat.blt r n && Nat.blt n 1000000 && Nat.ble (loT t) r) (Tr.setK .dead o 30 r t fun t => k t n) none
 | .push o => cond (Nat.blt n 1000000) (Tr.setK .dead o 30 n t fun t => fN (n + 1) fun n => k t n) none
theorem zI4 : 2 ^ 30 = 1073741824 := by decide
theorem zMm {t : Tr HO} {o : HO} {i : Nat} (h : i < 1000001) : loT (t.set .dead o 30 i) = loT t := by
 unfold loT
 rw [Tr.get_set _ _ _ _ _ _ (by rw [zI4]; omega), if_neg (by omega)]
theorem zSC {u : Up} {t : Tr HO} {n : Nat} {H : zC} {k : KT R} {r : R} (h : upK u t n k = some r) (hr : RH z t n H) : ∃ t' n', RH z t' n' (u.app H) ∧ k t' n' = some r := by
 unfold upK at h
 split at h
 ·exact ⟨t, n, hr, h⟩
 ·rename_i i o
  cases hb : (Nat.blt i n && Nat.blt n 1000000 && Nat.ble (loT t) i) <;> rw [hb] at h
  ·cases h
  ·simp only [zXE, zYI, zYY] at hb
   have hlo := hr.lo
   rw [zYd, Tr.setK_eq] at h
   refine ⟨_, _, ⟨by simp [Up.app, hr.len], fun j hj => ?_, (zMm (by omega)).trans hlo, hr.le, fun j hj => by simp only [Up.app]; rw [zXy (by omega)]; exact hr.low j hj⟩, h⟩
   rw [Tr.get_set _ _ _ _ _ _ (by rw [zI4]; omega)]
   simp only [Up.app]
   by_cases hij : j = i
   ·subst hij; rw [if_pos rfl, zXD (by rw [hr.len]; omega)]
   ·rw [if_neg hij, zXy (fun e => hij e.symm)]; exact hr.get j hj
 ·rename_i o
  cases hb : Nat.blt n 1000000 <;> rw [hb] at h
  ·cases h
  ·simp only [zYI] at hb
   rw [zYd, Tr.setK_eq, zER] at h
   refine ⟨_, _, ⟨by simp [Up.app, hr.len], fun j hj => ?_, (zMm (by omega)).trans hr.lo, by have := hr.le; omega, fun j hj => by simp only [Up.app]; rw [zXu (by have := hr.le; have := hr.len; omega)]; exact hr.low j hj⟩, h⟩
   rw [Tr.get_set _ _ _ _ _ _ (by rw [zI4]; omega)]
   simp only [Up.app]
   by_cases hij : j = n
   ·subst hij; rw [if_pos rfl, ← hr.len]; simp
   ·rw [if_neg hij, zXu (by rw [hr.len]; omega)]; exact hr.get j (by omega)
noncomputable def zNR (t : Tr HO) (n : Nat) (k : Tr HO → Option R) : Option R := cond (Nat.blt n 1000000) (Tr.setK .dead (.arr n 0 []) 30 1000001 t k) none
theorem zNQ {t : Tr HO} {n : Nat} {H : zC} {k : Tr HO → Option R} {r : R} (h : zNR t n k = some r) (hr : RH z t n H) : ∃ t', RH ⟨n, H⟩ t' n H ∧ k t' = some r := by
 unfold zNR at h
 cases hb : Nat.blt n 1000000 <;> rw [hb] at h
 ·cases h
 ·simp only [zYI] at hb
  rw [zYd, Tr.setK_eq] at h
  refine ⟨_, ⟨hr.len, fun r hlt => ?_, ?_, zXL _, fun r _ => rfl⟩, h⟩
  ·rw [Tr.get_set _ _ _ _ _ _ (by rw [zI4]; omega), if_neg (by omega)]; exact hr.get r hlt
  ·unfold loT; rw [Tr.get_set _ _ _ _ _ _ (by rw [zI4]; omega), if_pos rfl]
noncomputable def eT (e : Tr AV) : Env := fun s => e.get .any s
noncomputable def zHB (d : Option Nat) (x : AV) (e : Tr AV) (k : Tr AV → Option R) : Option R :=
 match d with
 | none => k e
 | some d => cond (Nat.blt d 1000000) (Tr.setK .any x 30 d e k) none
theorem zG8 {d : Option Nat} {x : AV} {e : Tr AV} {k : Tr AV → Option R} {r : R} (h : zHB d x e k = some r) : ∃ e', eT e' = ups (eT e) d x ∧ k e' = some r := by
 unfold zHB at h
 split at h
 ·exact ⟨e, rfl, h⟩
 ·rename_i d
  cases hb : Nat.blt d 1000000 <;> rw [hb] at h
  ·cases h
  ·simp only [zYI] at hb
   rw [zYd, Tr.setK_eq] at h
   refine ⟨_, ?_, h⟩
   funext s
   simp only [eT, ups, up]
   rw [Tr.get_set _ _ _ _ _ _ (by rw [zI4]; omega)]
noncomputable def evT (e : Tr AV) (x : LX) : AV := match x with | .t n => e.get .any n | .c a => a
theorem zCB (e : Tr AV) (x : LX) : evT e x = ev (eT e) x := by cases x <;> rfl
theorem zHq (e : Tr AV) (l : List LX) : l.map (evT e) = l.map (ev (eT e)) := zZv fun x _ => zCB e x
abbrev Kv (R : Type) := AV → Tr HO → Nat → Option R
abbrev Ca (R : Type) := FuncId → List AV → Tr HO → Nat → Kv R → Option R
def zNl (P : Program) (ca : Ca R) : Prop := ∀ z f args t n k r H, ca f args t n k = some r → RH z t n H → ∃ x t' n' H', RH z t' n' H' ∧ k x t' n' = some r ∧ ∀ K : AV → zC → Prop, K x H' → ACall P f args H K
noncomputable def zOz (ca : Ca R) (op : LOp) (e : Tr AV) (t : Tr HO) (n : Nat) (k : Kv R) : Option R :=
 match op with
 | .call f args => match evT e f with
  | .fn (.func g) a b => ca g (a ++ args.map (evT e) ++ b) t n k
  | _ => none
 | .callh f args => match evT e f with
  | .fn (.func g) a b => ca g (a ++ args.map (evT e) ++ b) t n k
  | _ => none
 | .pick c a b => match evT e c with
  | .v (.bool v) => cond v (k (evT e a) t n) (k (evT e b) t n)
  | _ => none
 | .isnil neg x => match evT e x with
  | .v (.slice none 0 0) => k (bool (!neg)) t n
  | .sl _ (_ :: _) => k (bool neg) t n
  | .os r ver _ (len + 1) => match gT t n r with
   | some (.arr v _ _) => cond (Nat.beq ver v) (k (bool neg) t n) none
   | _ => none
  | _ => none
 | .nextm _ => none
 | op => match opV op (fun s => e.get .any s) (gT t n) n with
  | some (x, u) => upK u t n fun t n => k x t n
  | none => none
theorem zRx {ca : Ca R} (hc : zNl P ca) {op : LOp} {e : Tr AV} {t : Tr HO} {n : Nat} {k : Kv R} {r : R} {H : zC} (h : zOz ca op e t n k = some r) (hr : RH z t n H) :
  ∃ x t' n' H', RH z t' n' H' ∧ k x t' n' = some r ∧ ∀ K : AV → zC → Prop, K x H' → aop P op (eT e) H K := by
 have zCK : ∀ op' : LOp, (∀ K, aop P op' (eT e) H K = ((zB2 op' (eT e) H).ok ∧ K (zB2 op' (eT e) H).x (zB2 op' (eT e) H).H)) → (match opV op' (fun s => e.get .any s) (gT t n) n with | some (x, u) => upK u t n fun t n => k x t n | none => none) = some r →
   ∃ x t' n' H', RH z t' n' H' ∧ k x t' n' = some r ∧ ∀ K : AV → zC → Prop, K x H' → aop P op' (eT e) H K := by
  intro op' hp h
  split at h
  ·rename_i x u hx
   rw [zOp hr, ← hr.len] at hx
   obtain ⟨h1, h2, h3⟩ := zPa _ _ hx
   obtain ⟨t', n', g1, g2⟩ := zSC h hr
   refine ⟨x, t', n', _, g1, g2, fun K hK => ?_⟩
   rw [hp]
   have h1' : (zB2 op' (eT e) H).ok := h1
   have h2' : (zB2 op' (eT e) H).x = x := h2
   have h3' : (zB2 op' (eT e) H).H = u.app H := h3
   exact ⟨h1', by rw [h2', h3']; exact hK⟩
  ·cases h
 cases op
 case call f args =>
  simp only [zOz] at h
  split at h
  ·rename_i g a b hf
   obtain ⟨x, t', n', H', h1, h2, h3⟩ := hc _ _ _ _ _ _ _ H h hr
   refine ⟨x, t', n', H', h1, h2, fun K hK => ?_⟩
   rw [zCB] at hf
   rw [zHq] at h3
   simp only [aop, hf, zGl]
   exact h3 K hK
  ·cases h
 case callh f args =>
  simp only [zOz] at h
  split at h
  ·rename_i g a b hf
   obtain ⟨x, t', n', H', h1, h2, h3⟩ := hc _ _ _ _ _ _ _ H h hr
   refine ⟨x, t', n', H', h1, h2, fun K hK => ?_⟩
   rw [zCB] at hf
   rw [zHq] at h3
   simp only [aop, hf, zGl]
   exact h3 K hK
  ·cases h
 case pick c a b =>
  simp only [zOz] at h
  split at h
  ·rename_i v hv
   rw [zCB] at hv
   cases v with
   | true =>
    refine ⟨_, t, n, H, hr, h, fun K hK => ?_⟩
    simp only [aop, hv, if_true]
    rw [← zCB]; exact hK
   | false =>
    refine ⟨_, t, n, H, hr, h, fun K hK => ?_⟩
    simp only [aop, hv, zXH, if_false]
    rw [← zCB]; exact hK
  ·cases h
 case nextm => cases h
 case isnil neg x =>
  simp only [zOz] at h
  split at h
  ·rename_i hx
   rw [zCB] at hx
   refine ⟨_, t, n, H, hr, h, fun K hK => ?_⟩
   simp only [aop, hx]
   refine ⟨trivial, fun b hb => ?_⟩
   have hb : b = true := hb
   subst hb
   simpa using hK
  ·rename_i hx
   rw [zCB] at hx
   refine ⟨_, t, n, H, hr, h, fun K hK => ?_⟩
   simp only [aop, hx]
   refine ⟨trivial, fun b hb => ?_⟩
   cases b with
   | true => exact absurd (hb rfl) (by simp)
   | false => simpa using hK
  ·rename_i i ver off len hx
   rw [zCB] at hx
   split at h
   ·rename_i v sz xs hg
    rw [zOp hr] at hg
    cases hb : Nat.beq ver v <;> rw [hb] at h
    ·cases h
    ·have hv := zYJ hb
     refine ⟨_, t, n, H, hr, h, fun K hK => ?_⟩
     simp only [aop, hx, slcK]
     have hg' : H[i]? = some (.arr v sz xs) := hg
     rw [hg']
     refine ⟨⟨trivial, hv⟩, fun b hb => ?_⟩
     cases b with
     | true => exact absurd (hb rfl) (by simp)
     | false => simpa using hK
   ·cases h
  ·cases h
 all_goals exact zCK _ (fun K => rfl) h
noncomputable def zD4 (ca : Ca R) : List LO → Tr AV → Tr HO → Nat → (Tr AV → KT R) → Option R
 | [], e, t, n, k => k e t n
 | o :: l, e, t, n, k =>
  match o.g with
  | none => zOz ca o.op e t n fun x t n => zHB o.d x e fun e => zD4 ca l e t n k
  | some (s, want) => match e.get .any s with
   | .v (.bool b) => cond (eqB b want) (zOz ca o.op e t n fun x t n => zHB o.d x e fun e => zD4 ca l e t n k) (zHB o.d zAJ e fun e => zD4 ca l e t n k)
   | .v (.tuple _) => zHB o.d zAJ e fun e => zD4 ca l e t n k
   | _ => none
theorem zDU {ca : Ca R} (hc : zNl P ca) : ∀ {l : List LO} {e : Tr AV} {t : Tr HO} {n : Nat} {k : Tr AV → KT R} {r : R} {H : zC}, zD4 ca l e t n k = some r → RH z t n H →
  ∃ e' t' n' H', RH z t' n' H' ∧ k e' t' n' = some r ∧ ∀ K : Env → zC → Prop, K (eT e') H' → zA8 P l (eT e) H K
 | [], e, t, n, k, r, H, h, hr => ⟨e, t, n, H, hr, h, fun K hK => hK⟩
 | o :: l, e, t, n, k, r, H, h, hr => by
  have yes : (zOz ca o.op e t n fun x t n => zHB o.d x e fun e => zD4 ca l e t n k) = some r →
    ∃ e' t' n' H', RH z t' n' H' ∧ k e' t' n' = some r ∧ ∀ K : Env → zC → Prop, K (eT e') H' → aop P o.op (eT e) H fun x H' => zA8 P l (ups (eT e) o.d x) H' K := by
   intro h
   obtain ⟨x, t1, n1, H1, r1, h1, f1⟩ := zRx hc h hr
   obtain ⟨e1, he1, h2⟩ := zG8 h1
   obtain ⟨e', t', n', H', r2, h3, f2⟩ := zDU hc h2 r1
   exact ⟨e', t', n', H', r2, h3, fun K hK => f1 _ (by rw [← he1]; exact f2 K hK)⟩
  have no : (zHB o.d zAJ e fun e => zD4 ca l e t n k) = some r → ∃ e' t' n' H', RH z t' n' H' ∧ k e' t' n' = some r ∧ ∀ K : Env → zC → Prop, K (eT e') H' → zA8 P l (ups (eT e) o.d zAJ) H K := by
   intro h
   obtain ⟨e1, he1, h2⟩ := zG8 h
   obtain ⟨e', t', n', H', r2, h3, f2⟩ := zDU hc h2 hr
   exact ⟨e', t', n', H', r2, h3, fun K hK => by rw [← he1]; exact f2 K hK⟩
  simp only [zD4] at h
  split at h
  ·rename_i hg
   obtain ⟨e', t', n', H', r2, h3, f⟩ := yes h
   exact ⟨e', t', n', H', r2, h3, fun K hK => by simp only [zA8, hg]; exact f K hK⟩
  ·rename_i s want hg
   split at h
   ·rename_i b hb
    have hb' : eT e s = bool b := hb
    have hu : up (eT e) s (bool b) = eT e := zKw hb'
    cases b <;> cases want <;> simp only [eqB, zYd, cond_false] at h
    ·obtain ⟨e', t', n', H', r2, h3, f⟩ := yes h
     exact ⟨e', t', n', H', r2, h3, fun K hK => by simp only [zA8, hg, hb', zXH, if_false, hu]; exact f K hK⟩
    ·obtain ⟨e', t', n', H', r2, h3, f⟩ := no h
     exact ⟨e', t', n', H', r2, h3, fun K hK => by simp only [zA8, hg, hb', zXH, if_false, if_true, hu]; exact f K hK⟩
    ·obtain ⟨e', t', n', H', r2, h3, f⟩ := no h
     exact ⟨e', t', n', H', r2, h3, fun K hK => by simp only [zA8, hg, hb', zXH, if_false, if_true, hu]; exact f K hK⟩
    ·obtain ⟨e', t', n', H', r2, h3, f⟩ := yes h
     exact ⟨e', t', n', H', r2, h3, fun K hK => by simp only [zA8, hg, hb', if_true, hu]; exact f K hK⟩
   ·rename_i us hb
    have hb' : eT e s = .v (.tuple us) := hb
    obtain ⟨e', t', n', H', r2, h3, f⟩ := no h
    exact ⟨e', t', n', H', r2, h3, fun K hK => by simp only [zA8, hg, hb']; exact f K hK⟩
   ·cases h
noncomputable def zIo (ca : Ca R) (op : LOp) (e : Tr AV) (t : Tr HO) (n : Nat) (k : AV → Option R) : Option R :=
 match op with
 | .call f args => match evT e f with
  | .fn (.func g) a b => cond ((a ++ args.map (evT e) ++ b).all cl2) (ca g (a ++ args.map (evT e) ++ b) .leaf 0 fun x _ _ => cond (cl2 x) (k x) none) none
  | _ => none
 | .callh f args => match evT e f with
  | .fn (.func g) a b => zNR t n fun t' => ca g (a ++ args.map (evT e) ++ b) t' n fun x _ _ => cond (cl2 x) (k x) none
  | _ => none
 | .pick c a b => match evT e c with
  | .v (.bool v) => cond v (k (evT e a)) (k (evT e b))
  | _ => none
 | .isnil _ _ => none
 | .rangem _ => none
 | .nextm _ => none
 | .entrym _ => none
 | .frz _ => none
 | .own _ _ => none
 | .frzf _ _ _ => none
 | op => match opV op (fun s => e.get .any s) (gT t n) n with
  | some (x, .keep) => k x
  | _ => none
theorem zO4 : RH ⟨0, []⟩ .leaf 0 [] := ⟨rfl, fun r hr => by omega, by simp [loT, Tr.get_leaf], zXL _, fun r hr => by simp at hr⟩
theorem zMX : ∀ {l : List AV}, l.all cl2 = true → clL l = true
 | [], _ => by simp [clL]
 | x :: l, h => by
  simp only [zZL, zXE] at h
  simp only [clL, zXE]
  exact ⟨zMW h.1, zMX h.2⟩
theorem zOx {ca : Ca R} (hc : zNl P ca) {op : LOp} {e : Tr AV} {t : Tr HO} {n : Nat} {k : AV → Option R} {r : R} {H : zC} (h : zIo ca op e t n k = some r) (hr : RH z t n H) :
  ∃ x, k x = some r ∧ ∀ K : AV → Prop, K x → zDk P op (eT e) H K := by
 have zCK : ∀ op' : LOp, (∀ K, zDk P op' (eT e) H K = ((zB2 op' (eT e) H).ok ∧ (zB2 op' (eT e) H).H = H ∧ K (zB2 op' (eT e) H).x)) → (match opV op' (fun s => e.get .any s) (gT t n) n with | some (x, .keep) => k x | _ => none) = some r →
   ∃ x, k x = some r ∧ ∀ K : AV → Prop, K x → zDk P op' (eT e) H K := by
  intro op' hp h
  split at h
  ·rename_i x hx
   rw [zOp hr, ← hr.len] at hx
   obtain ⟨h1, h2, h3⟩ := zPa _ _ hx
   refine ⟨x, h, fun K hK => ?_⟩
   rw [hp]
   have h1' : (zB2 op' (eT e) H).ok := h1
   have h2' : (zB2 op' (eT e) H).x = x := h2
   have h3' : (zB2 op' (eT e) H).H = H := h3
   exact ⟨h1', h3', by rw [h2']; exact hK⟩
  ·cases h
 cases op
 case call f args =>
  simp only [zIo] at h
  split at h
  ·rename_i g a b hf
   cases hb : (a ++ args.map (evT e) ++ b).all cl2 <;> rw [hb] at h
   ·cases h
   ·rw [zYd] at h
    obtain ⟨x, t', n', H', h1, h2, h3⟩ := hc _ _ _ _ _ _ _ [] h zO4
    cases hx : cl2 x <;> rw [hx] at h2
    ·cases h2
    ·refine ⟨x, h2, fun K hK => ?_⟩
     rw [zCB] at hf
     rw [zHq] at h3 hb
     simp only [zDk, hf]
     refine ⟨x, ?_, zMX hb, hK⟩
     exact ACall.drop (R := fun y => y = x) (h3 _ ⟨rfl, zMW hx, H', rfl⟩)
  ·cases h
 case callh f args =>
  simp only [zIo] at h
  split at h
  ·rename_i g a b hf
   obtain ⟨t1, hr1, h⟩ := zNQ h hr
   obtain ⟨x, t', n', H', h1, h2, h3⟩ := hc _ _ _ _ _ _ _ H h hr1
   cases hx : cl2 x <;> rw [hx] at h2
   ·cases h2
   ·refine ⟨x, h2, fun K hK => ?_⟩
    rw [zCB] at hf
    rw [zHq] at h3
    simp only [zDk, hf]
    have hlen := h1.le
    obtain ⟨rest, rfl⟩ : ∃ rest, H' = H ++ rest := by
     refine ⟨H'.drop n, zZm fun i => ?_⟩
     have hl := hr.len
     have hl' := h1.len
     simp only at hlen
     by_cases hi : i < n
     ·rw [zXu (by omega)]; exact h1.low i hi
     ·rw [zXz (by omega), zYa]
      congr 1
      omega
    exact ⟨x, ACall.drop (R := fun y => y = x) (h3 _ ⟨rfl, zMW hx, rest, rfl⟩), hK⟩
  ·cases h
 case pick c a b =>
  simp only [zIo] at h
  split at h
  ·rename_i v hv
   rw [zCB] at hv
   cases v with
   | true =>
    refine ⟨_, h, fun K hK => ?_⟩
    simp only [zDk, hv, if_true]
    rw [← zCB]; exact hK
   | false =>
    refine ⟨_, h, fun K hK => ?_⟩
    simp only [zDk, hv, zXH, if_false]
    rw [← zCB]; exact hK
  ·cases h
 case isnil => cases h
 case rangem => cases h
 case nextm => cases h
 case entrym => cases h
 case frz => cases h
 case own => cases h
 case frzf => cases h
 all_goals exact zCK _ (fun K => rfl) h
noncomputable def zCf (ca : Ca R) : List LO → Tr AV → Tr HO → Nat → (Tr AV → Option R) → Option R
 | [], e, t, n, k => k e
 | o :: l, e, t, n, k =>
  match o.g with
  | none => zIo ca o.op e t n fun x => zHB o.d x e fun e => zCf ca l e t n k
  | some (s, want) => match e.get .any s with
   | .v (.bool b) => cond (eqB b want) (zIo ca o.op e t n fun x => zHB o.d x e fun e => zCf ca l e t n k) (zHB o.d zAJ e fun e => zCf ca l e t n k)
   | .v (.tuple _) => zHB o.d zAJ e fun e => zCf ca l e t n k
   | _ => none
theorem zDA {ca : Ca R} (hc : zNl P ca) : ∀ {l : List LO} {e : Tr AV} {t : Tr HO} {n : Nat} {k : Tr AV → Option R} {r : R} {H : zC}, zCf ca l e t n k = some r → RH z t n H →
  ∃ e', k e' = some r ∧ ∀ K : Env → Prop, K (eT e') → zBc P l (eT e) H K
 | [], e, t, n, k, r, H, h, hr => ⟨e, h, fun K hK => hK⟩
 | o :: l, e, t, n, k, r, H, h, hr => by
  have yes : (zIo ca o.op e t n fun x => zHB o.d x e fun e => zCf ca l e t n k) = some r →
    ∃ e', k e' = some r ∧ ∀ K : Env → Prop, K (eT e') → zDk P o.op (eT e) H fun x => zBc P l (ups (eT e) o.d x) H K := by
   intro h
   obtain ⟨x, h1, f1⟩ := zOx hc h hr
   obtain ⟨e1, he1, h2⟩ := zG8 h1
   obtain ⟨e', h3, f2⟩ := zDA hc h2 hr
   exact ⟨e', h3, fun K hK => f1 _ (by rw [← he1]; exact f2 K hK)⟩
  have no : (zHB o.d zAJ e fun e => zCf ca l e t n k) = some r → ∃ e', k e' = some r ∧ ∀ K : Env → Prop, K (eT e') → zBc P l (ups (eT e) o.d zAJ) H K := by
   intro h
   obtain ⟨e1, he1, h2⟩ := zG8 h
   obtain ⟨e', h3, f2⟩ := zDA hc h2 hr
   exact ⟨e', h3, fun K hK => by rw [← he1]; exact f2 K hK⟩
  simp only [zCf] at h
  split at h
  ·rename_i hg
   obtain ⟨e', h3, f⟩ := yes h
   exact ⟨e', h3, fun K hK => by simp only [zBc, hg]; exact f K hK⟩
  ·rename_i s want hg
   split at h
   ·rename_i b hb
    have hb' : eT e s = bool b := hb
    have hu : up (eT e) s (bool b) = eT e := zKw hb'
    cases b <;> cases want <;> simp only [eqB, zYd, cond_false] at h
    ·obtain ⟨e', h3, f⟩ := yes h
     exact ⟨e', h3, fun K hK => by simp only [zBc, hg, hb', zXH, if_false, hu]; exact f K hK⟩
    ·obtain ⟨e', h3, f⟩ := no h
     exact ⟨e', h3, fun K hK => by simp only [zBc, hg, hb', zXH, if_false, if_true, hu]; exact f K hK⟩
    ·obtain ⟨e', h3, f⟩ := no h
     exact ⟨e', h3, fun K hK => by simp only [zBc, hg, hb', zXH, if_false, if_true, hu]; exact f K hK⟩
    ·obtain ⟨e', h3, f⟩ := yes h
     exact ⟨e', h3, fun K hK => by simp only [zBc, hg, hb', if_true, hu]; exact f K hK⟩
   ·rename_i us hb
    have hb' : eT e s = .v (.tuple us) := hb
    obtain ⟨e', h3, f⟩ := no h
    exact ⟨e', h3, fun K hK => by simp only [zBc, hg, hb']; exact f K hK⟩
   ·cases h
def zRC : Value → Value → Bool
 | .int k a, .int k' b => eqK k k' && eqI a b
 | .bool a, .bool b => eqB a b
 | .string a, .string b => eqL (bs a) (bs b)
 | .slice none 0 0, .slice none 0 0 => true
 | .pointer none, .pointer none => true
 | .map none, .map none => true
 | .tuple a, .tuple b => Nat.beq a.size 0 && Nat.beq b.size 0
 | _, _ => false
theorem zOA {a b : Value} (h : zRC a b = true) : a = b := by
 unfold zRC at h
 split at h
 ·simp only [zXE, zMO, zXB] at h
  rw [zMM h.1, h.2]
 ·rw [zMP, zXB] at h; rw [h]
 ·rw [zKe, zXB] at h
  rename_i x y
  rw [← zMe x, ← zMe y, h]
 ·rfl
 ·rfl
 ·rfl
 ·simp only [zXE, zYl] at h
  rw [zZE h.1, zZE h.2]
 ·cases h
def zF2 {α : Type} (f : α → α → Bool) : List α → List α → Bool
 | [], [] => true
 | a :: l, b :: m => cond (f a b) (zF2 f l m) false
 | _, _ => false
theorem zC8 {α : Type} {f : α → α → Bool} (hf : ∀ a b, f a b = true → a = b) : ∀ {l m : List α}, zF2 f l m = true → l = m
 | [], [], _ => rfl
 | [], _ :: _, h => by cases h
 | _ :: _, [], h => by cases h
 | a :: l, b :: m, h => by
  simp only [zF2] at h
  cases hab : f a b with
  | false => rw [hab] at h; cases h
  | true =>
   rw [hab, zYd] at h
   rw [hf a b hab, zC8 hf h]
def eqA : Nat → AV → AV → Bool
 | 0, _, _ => false
 | n + 1, a, b => match a, b with
  | .any, .any => true
  | .v x, .v y => zRC x y
  | .agg l, .agg m => zF2 (eqA n) l m
  | .tup l, .tup m => zF2 (eqA n) l m
  | .sl s l, .sl s' m => Nat.beq s s' && zF2 (zF2 (eqA n)) l m
  | .vp l o, .vp m o' => zF2 (eqA n) l m && Nat.beq o o'
  | .os r v o l, .os r' v' o' l' => Nat.beq r r' && Nat.beq v v' && Nat.beq o o' && Nat.beq l l'
  | .ptr r v o, .ptr r' v' o' => Nat.beq r r' && Nat.beq v v' && Nat.beq o o'
  | .pe r v i o, .pe r' v' i' o' => Nat.beq r r' && Nat.beq v v' && Nat.beq i i' && Nat.beq o o'
  | .nc, .nc => true
  | _, _ => false
theorem zMQ : ∀ (n : Nat) (a b : AV), eqA n a b = true → a = b
 | 0, _, _, h => by cases h
 | n + 1, a, b, h => by
  have ih := zMQ n
  unfold eqA at h
  split at h
  ·rfl
  ·rw [zOA h]
  ·rw [zC8 ih h]
  ·rw [zC8 ih h]
  ·simp only [zXE, zYl] at h
   rw [h.1, zC8 (fun _ _ hh => zC8 ih hh) h.2]
  ·simp only [zXE, zYl] at h
   rw [zC8 ih h.1, h.2]
  ·simp only [zXE, zYl] at h
   obtain ⟨⟨⟨rfl, rfl⟩, rfl⟩, rfl⟩ := h; rfl
  ·simp only [zXE, zYl] at h
   obtain ⟨⟨rfl, rfl⟩, rfl⟩ := h; rfl
  ·simp only [zXE, zYl] at h
   obtain ⟨⟨⟨rfl, rfl⟩, rfl⟩, rfl⟩ := h; rfl
  ·rfl
  ·cases h
noncomputable def zMK (ca : Ca R) (o : LO) (e1 : Tr AV) (t : Tr HO) (n : Nat) (k : Option R) : Option R :=
 zCf ca [o] e1 t n fun e2 => match o.d with
  | some d => cond (eqA 20 (e2.get .any d) (e1.get .any d)) k none
  | none => none
theorem zK1 {ca : Ca R} (hc : zNl P ca) {o : LO} {e1 : Tr AV} {t : Tr HO} {n : Nat} {k : Option R} {r : R} {H : zC} (h : zMK ca o e1 t n k = some r) (hr : RH z t n H) : (zBc P [o] (eT e1) H fun e' => e' = eT e1) ∧ k = some r := by
 obtain ⟨e2, h1, f⟩ := zDA hc h hr
 cases hd : o.d with
 | none => rw [hd] at h1; cases h1
 | some d =>
  rw [hd] at h1
  cases hq : eqA 20 (e2.get .any d) (e1.get .any d) with
  | false => simp only [hq, cond_false] at h1; cases h1
  | true =>
   simp only [hq, zYd] at h1
   refine ⟨?_, h1⟩
   have g := f (fun e' => e' = eT e2) rfl
   have he : eT e2 = eT e1 := by
    obtain ⟨x, _, h3⟩ := zD1 g
    have h3 : ups (eT e1) o.d x = eT e2 := h3
    rw [hd] at h3
    have hx : x = eT e1 d := by
     have h4 := congrFun h3 d
     rw [zCn] at h4
     rw [h4]
     exact zMQ _ _ _ hq
    rw [← h3, hx]
    funext u
    simp only [ups, up]
    split
    ·rename_i hu; rw [hu]
    ·rfl
   rw [he] at g
   exact g
noncomputable def zHr (ca : Ca R) (hd : List LO) (e1 : Tr AV) (t : Tr HO) (n : Nat) : List Nat → Option R → Option R
 | [], k => k
 | j :: js, k => zMK ca (hd.getD j default) e1 t n (zHr ca hd e1 t n js k)
theorem zGI {ca : Ca R} (hc : zNl P ca) {hd : List LO} {e1 : Tr AV} {t : Tr HO} {n : Nat} {r : R} {H : zC} (hr : RH z t n H) : ∀ {js : List Nat} {k : Option R}, zHr ca hd e1 t n js k = some r → zDh P hd (eT e1) H js ∧ k = some r
 | [], k, h => ⟨fun j hj => by simp at hj, h⟩
 | j :: js, k, h => by
  obtain ⟨h1, h2⟩ := zK1 hc h hr
  obtain ⟨h3, h4⟩ := zGI hc hr h2
  refine ⟨fun i hi => ?_, h4⟩
  rcases zX5.1 hi with rfl | hi
  ·exact h1
  ·exact h3 i hi
noncomputable def zUw (ca : Ca R) (hd : List LO) (e1 : Tr AV) : List (LO × List Nat) → Tr AV → Tr HO → Nat → (Tr AV → KT R) → Option R
 | [], e, t, n, k => k e t n
 | p :: l, e, t, n, k => zD4 ca [p.1] e t n fun e t n => zHr ca hd e1 t n p.2 (zUw ca hd e1 l e t n k)
theorem zMH {ca : Ca R} (hc : zNl P ca) {hd : List LO} {e1 : Tr AV} : ∀ {l : List (LO × List Nat)} {e : Tr AV} {t : Tr HO} {n : Nat} {k : Tr AV → KT R} {r : R} {H : zC}, zUw ca hd e1 l e t n k = some r → RH z t n H →
  ∃ e' t' n' H', RH z t' n' H' ∧ k e' t' n' = some r ∧ ∀ K : Env → zC → Prop, K (eT e') H' → zEX P hd (eT e1) l (eT e) H K
 | [], e, t, n, k, r, H, h, hr => ⟨e, t, n, H, hr, h, fun K hK => hK⟩
 | p :: l, e, t, n, k, r, H, h, hr => by
  obtain ⟨e2, t2, n2, H2, r2, h2, f2⟩ := zDU hc h hr
  obtain ⟨k1, k2⟩ := zGI hc r2 h2
  obtain ⟨e', t', n', H', r3, h3, f3⟩ := zMH hc k2 r2
  exact ⟨e', t', n', H', r3, h3, fun K hK => f2 _ ⟨k1, f3 K hK⟩⟩
abbrev Ko (R : Type) := Out → Tr AV → Tr HO → Nat → Option R
abbrev Bd (R : Type) := Tr AV → Tr HO → Nat → Ko R → Option R
noncomputable def iter (body : Bd R) : Nat → Bd R
 | 0, _, _, _, _ => none
 | m + 1, e, t, n, k => body e t n fun o e t n => match o with
  | .normal => iter body m e t n k
  | o => k o e t n
noncomputable def evC (ca : Ca R) (m : Nat) (c : LCode) : Bd R :=
 LCode.rec (motive := fun _ => Bd R)
  (fun e t n k => k .normal e t n)
  (fun l e t n k => zD4 ca l e t n fun e t n => k .normal e t n)
  (fun hd tl e t n k => zCf ca hd e t n fun e => zD4 ca tl e t n fun e t n => k .normal e t n)
  (fun hd tl gs e t n k => zCf ca hd e t n fun e1 => zUw ca hd e1 tl e1 t n fun e t n => zD4 ca gs e t n fun e t n => k .normal e t n)
  (fun _ _ iha ihb e t n k => iha e t n fun o e t n => match o with
   | .normal => ihb e t n k
   | o => k o e t n)
  (fun x _ _ iha ihb e t n k => match evT e x with
   | .v (.bool b) => cond b (iha e t n k) (ihb e t n k)
   | _ => none)
  (fun id _ ih e t n k => ih e t n fun o e t n => match o with
   | .exit j => cond (Nat.beq j id) (k .normal e t n) (k (.exit j) e t n)
   | o => k o e t n)
  (fun _ ih e t n k => iter ih m e t n k)
  (fun _ _ _ _ _ _ _ _ _ _ => none)
  (fun id e t n k => k (.exit id) e t n)
  (fun e t n k => k .ret e t n)
  (fun _ _ _ _ _ _ _ => none)
  (fun _ _ _ _ _ _ _ => none)
  (fun _ _ _ _ _ => none)
  (fun _ _ _ _ _ _ _ => none) c
def zXp (P : Program) (c : LCode) (b : Bd R) : Prop := ∀ z e t n k r H, b e t n k = some r → RH z t n H → ∃ o e' t' n' H', RH z t' n' H' ∧ k o e' t' n' = some r ∧ ∀ K : Out → Env → zC → Prop, K o (eT e') H' → awp P c (eT e) H K
open Classical in
theorem zMl {c : LCode} {e e1 : Env} {H H1 : zC} {K : Out → Env → zC → Prop} (h : awp P c e H fun o e' H' => o = .normal ∧ e' = e1 ∧ H' = H1) (h1 : awp P (.loop c) e1 H1 K) : awp P (.loop c) e H K := by
 obtain ⟨I, μ, g1, g2⟩ := h1
 refine ⟨fun e' H' => I e' H' ∨ (e' = e ∧ H' = H), fun e' H' => if I e' H' then μ e' H' else μ e1 H1 + 1, .inr ⟨rfl, rfl⟩, fun e' H' hI => ?_⟩
 by_cases hh : I e' H'
 ·refine zFt (g2 e' H' hh) fun o e2 H2 h2 => ?_
  cases o with
  | normal => exact ⟨.inl h2.1, by simp only [if_pos h2.1, if_pos hh]; exact h2.2⟩
  | _ => exact h2
 ·obtain ⟨rfl, rfl⟩ := hI.resolve_left hh
  refine zFt h fun o e2 H2 h2 => ?_
  obtain ⟨rfl, rfl, rfl⟩ := h2
  exact ⟨.inl g1, by simp only [if_pos g1, if_neg hh]; omega⟩
theorem zHk {c : LCode} {e : Env} {H : zC} {K : Out → Env → zC → Prop} (h : awp P c e H fun o e' H' => o ≠ .normal ∧ K o e' H') : awp P (.loop c) e H K := by
 refine ⟨fun e' H' => e' = e ∧ H' = H, fun _ _ => 0, ⟨rfl, rfl⟩, fun e' H' hI => ?_⟩
 obtain ⟨rfl, rfl⟩ := hI
 refine zFt h fun o e2 H2 h2 => ?_
 cases o with
 | normal => exact absurd rfl h2.1
 | _ => exact h2.2
theorem zMq {c : LCode} {b : Bd R} (hb : zXp P c b) : ∀ m, zXp P (.loop c) (iter b m)
 | 0, z, e, t, n, k, r, H, h, hr => by cases h
 | m + 1, z, e, t, n, k, r, H, h, hr => by
  simp only [iter] at h
  obtain ⟨o, e1, t1, n1, H1, r1, h1, f1⟩ := hb _ _ _ _ _ _ _ h hr
  cases o with
  | normal =>
   obtain ⟨o, e', t', n', H', r2, h2, f2⟩ := zMq hb m _ _ _ _ _ _ _ h1 r1
   exact ⟨o, e', t', n', H', r2, h2, fun K hK => zMl (f1 _ ⟨rfl, rfl, rfl⟩) (f2 K hK)⟩
  | exit id => exact ⟨_, e1, t1, n1, H1, r1, h1, fun K hK => zHk (f1 _ ⟨by simp, hK⟩)⟩
  | ret => exact ⟨_, e1, t1, n1, H1, r1, h1, fun K hK => zHk (f1 _ ⟨by simp, hK⟩)⟩
  | pan v => exact ⟨_, e1, t1, n1, H1, r1, h1, fun K hK => zHk (f1 _ ⟨by simp, hK⟩)⟩
theorem zUz {ca : Ca R} (hc : zNl P ca) (m : Nat) : ∀ c : LCode, zXp P c (evC ca m c) := by
 intro c
 induction c with
 | skip => exact fun z e t n k r H h hr => ⟨.normal, e, t, n, H, hr, h, fun K hK => hK⟩
 | ops l =>
  intro z e t n k r H h hr
  obtain ⟨e', t', n', H', r1, h1, f1⟩ := zDU hc h hr
  exact ⟨.normal, e', t', n', H', r1, h1, fun K hK => f1 (K .normal) hK⟩
 | draw hd tl =>
  intro z e t n k r H h hr
  obtain ⟨e1, h0, f0⟩ := zDA hc (h : zCf ca hd e t n _ = some r) hr
  obtain ⟨e', t', n', H', r1, h1, f1⟩ := zDU hc h0 hr
  exact ⟨.normal, e', t', n', H', r1, h1, fun K hK => f0 _ (f1 (K .normal) hK)⟩
 | drawA hd tl gs =>
  intro z e t n k r H h hr
  obtain ⟨e1, h0, f0⟩ := zDA hc (h : zCf ca hd e t n _ = some r) hr
  obtain ⟨e2, t2, n2, H2, r2, h2, f2⟩ := zMH hc h0 hr
  obtain ⟨e', t', n', H', r1, h1, f1⟩ := zDU hc h2 r2
  exact ⟨.normal, e', t', n', H', r1, h1, fun K hK => f0 _ (f2 _ (f1 (K .normal) hK))⟩
 | seq a b iha ihb =>
  intro z e t n k r H h hr
  obtain ⟨o, e1, t1, n1, H1, r1, h1, f1⟩ := iha _ _ _ _ _ _ _ h hr
  cases o with
  | normal =>
   obtain ⟨o, e', t', n', H', r2, h2, f2⟩ := ihb _ _ _ _ _ _ _ h1 r1
   exact ⟨o, e', t', n', H', r2, h2, fun K hK => f1 _ (f2 K hK)⟩
  | exit id => exact ⟨_, e1, t1, n1, H1, r1, h1, fun K hK => f1 _ hK⟩
  | ret => exact ⟨_, e1, t1, n1, H1, r1, h1, fun K hK => f1 _ hK⟩
  | pan v => exact ⟨_, e1, t1, n1, H1, r1, h1, fun K hK => f1 _ hK⟩
 | cond x a b iha ihb =>
  intro z e t n k r H h hr
  change (match evT e x with | .v (.bool b') => cond b' (evC ca m a e t n k) (evC ca m b e t n k) | _ => none) = some r at h
  split at h
  ·rename_i v hv
   rw [zCB] at hv
   cases v with
   | true =>
    obtain ⟨o, e1, t1, n1, H1, r1, h1, f1⟩ := iha _ _ _ _ _ _ _ h hr
    refine ⟨o, e1, t1, n1, H1, r1, h1, fun K hK => ?_⟩
    simp only [awp, hv, if_true]
    rw [zHh hv]
    exact f1 K hK
   | false =>
    obtain ⟨o, e1, t1, n1, H1, r1, h1, f1⟩ := ihb _ _ _ _ _ _ _ h hr
    refine ⟨o, e1, t1, n1, H1, r1, h1, fun K hK => ?_⟩
    simp only [awp, hv, zXH, if_false]
    rw [zHh hv]
    exact f1 K hK
  ·cases h
 | block id c ih =>
  intro z e t n k r H h hr
  obtain ⟨o, e1, t1, n1, H1, r1, h1, f1⟩ := ih _ _ _ _ _ _ _ h hr
  cases o with
  | normal => exact ⟨_, e1, t1, n1, H1, r1, h1, fun K hK => f1 _ hK⟩
  | exit j =>
   simp only at h1
   by_cases hj : j = id
   ·subst hj
    rw [Nat.beq_refl, zYd] at h1
    exact ⟨_, e1, t1, n1, H1, r1, h1, fun K hK => f1 _ (by simp only [if_true]; exact hK)⟩
   ·have hb : Nat.beq j id = false := by
     cases hh : Nat.beq j id
     ·rfl
     ·exact (hj (zYJ hh)).elim
    rw [hb, cond_false] at h1
    exact ⟨_, e1, t1, n1, H1, r1, h1, fun K hK => f1 _ (by simp only [if_neg hj]; exact hK)⟩
  | ret => exact ⟨_, e1, t1, n1, H1, r1, h1, fun K hK => f1 _ hK⟩
  | pan v => exact ⟨_, e1, t1, n1, H1, r1, h1, fun K hK => f1 _ hK⟩
 | loop c ih => exact zMq ih m
 | range => intro z e t n k r H h hr; cases h
 | exit id => exact fun z e t n k r H h hr => ⟨_, e, t, n, H, hr, h, fun K hK => hK⟩
 | ret => exact fun z e t n k r H h hr => ⟨_, e, t, n, H, hr, h, fun K hK => hK⟩
 | callp => intro z e t n k r H h hr; cases h
 | ti => intro z e t n k r H h hr; cases h
 | drawX => intro z e t n k r H h hr; cases h
 | pan => intro z e t n k r H h hr; cases h
noncomputable def zUx (e : Tr AV) (t : Tr HO) (n : Nat) : RV → Option AV
 | .tmp s => some (e.get .any s)
 | .cell s ag z => match zIR ag z (gT t n) (e.get .any s) with
  | some (x, .keep) => some x
  | _ => none
noncomputable def zK0 (e : Tr AV) (t : Tr HO) (n : Nat) : List RV → Option (List AV)
 | [] => some []
 | r :: l => match zUx e t n r, zK0 e t n l with
  | some x, some m => some (x :: m)
  | _, _ => none
noncomputable def zOw (e : Tr AV) (t : Tr HO) (n : Nat) : List RV → Option AV
 | [r] => zUx e t n r
 | l => (zK0 e t n l).map .tup
theorem zMI {e : Tr AV} {t : Tr HO} {n : Nat} {rv : RV} {x : AV} {H : zC} (h : zUx e t n rv = some x) (hr : RH z t n H) : (zC3 (eT e) H rv).ok ∧ (zC3 (eT e) H rv).x = x := by
 cases rv with
 | tmp s => simp only [zUx, zXt] at h; exact ⟨trivial, h⟩
 | cell s ag z =>
  simp only [zUx] at h
  split at h
  ·rename_i y hy
   simp only [zXt] at h
   rw [zOp hr] at hy
   obtain ⟨h1, h2, _⟩ := zG3 _ _ hy
   exact ⟨h1, by rw [← h]; exact h2⟩
  ·cases h
theorem zKc {e : Tr AV} {t : Tr HO} {n : Nat} {H : zC} (hr : RH z t n H) : ∀ {l : List RV} {xs : List AV}, zK0 e t n l = some xs → (∀ r ∈ l, (zC3 (eT e) H r).ok) ∧ l.map (fun r => (zC3 (eT e) H r).x) = xs
 | [], xs, h => by simp only [zK0, zXt] at h; subst h; simp
 | r :: l, xs, h => by
  simp only [zK0] at h
  split at h
  ·rename_i x m hx hm
   simp only [zXt] at h
   obtain ⟨h1, h2⟩ := zMI hx hr
   obtain ⟨h3, h4⟩ := zKc hr hm
   subst h
   exact ⟨by simp only [zX5, forall_eq_or_imp]; exact ⟨h1, h3⟩, by rw [zYx, h2, h4]⟩
  ·cases h
theorem zOv {e : Tr AV} {t : Tr HO} {n : Nat} {l : List RV} {x : AV} {H : zC} (h : zOw e t n l = some x) (hr : RH z t n H) : (zAO (eT e) H l).ok ∧ (zAO (eT e) H l).x = x := by
 unfold zOw at h
 split at h
 ·exact zMI h hr
 ·rename_i hne
  cases hm : zK0 e t n l with
  | none => rw [hm] at h; cases h
  | some xs =>
   rw [hm, zYj, zXt] at h
   obtain ⟨h1, h2⟩ := zKc hr hm
   unfold zAO
   split
   ·exact absurd rfl (hne _)
   ·exact ⟨h1, by rw [← h, ← h2]⟩
noncomputable def zUB : List AV → Nat → Tr AV
 | [], _ => .leaf
 | x :: l, i => (zUB l (i + 1)).set .any x 30 i
theorem zMR : ∀ (l : List AV) (i : Nat), i + l.length ≤ 1000000 → eT (zUB l i) = zDi l i
 | [], i, _ => by funext s; simp [eT, zUB, Tr.get_leaf, zDi, e0]
 | x :: l, i, h => by
  simp only [zXI] at h
  funext s
  have ih := congrFun (zMR l (i + 1) (by omega)) s
  simp only [eT] at ih
  simp only [eT, zUB, zDi, up]
  rw [Tr.get_set _ _ _ _ _ _ (by rw [zI4]; omega), ih]
def zNg (P : Program) (tbl : Tr (Option LFn)) : Prop := ∀ f L, tbl.get none f = some L → ∃ fn hs, P.funcs[f]? = some fn ∧ zAa P fn hs = some L
end
def TrAll {α : Type} (p : Nat → α → Prop) : (Nat → Nat) → Tr (Option α) → Prop
 | _, .leaf => True
 | φ, .node v l r => (match v with | some x => p (φ 0) x | none => True) ∧ TrAll p (fun j => φ (2 * j + 1)) l ∧ TrAll p (fun j => φ (2 * j + 2)) r
theorem TrAll.get {α : Type} {p : Nat → α → Prop} : ∀ {t : Tr (Option α)} {φ : Nat → Nat} {i : Nat} {x : α}, TrAll p φ t → t.get none i = some x → p (φ i) x
 | .leaf, φ, i, x, _, h => by rw [Tr.get_leaf] at h; cases h
 | .node v l r, φ, i, x, ⟨h1, h2, h3⟩, h => by
  cases i with
  | zero =>
   rw [Tr.get_z] at h
   subst h
   exact h1
  | succ n =>
   rw [Tr.get_s] at h
   split at h
   ·have := TrAll.get h2 h
    rwa [show 2 * (n / 2) + 1 = n + 1 by omega] at this
   ·have := TrAll.get h3 h
    rwa [show 2 * (n / 2) + 2 = n + 1 by omega] at this
def zVV (P : Program) (f : Nat) (L : LFn) : Prop := ∃ k, f = k ∧ ∃ fn hs, P.funcs[k]? = some fn ∧ zAa P fn hs = some L
abbrev OpF := (Nat → AV) → (Nat → Option HO) → Nat → Rt
noncomputable def oNo : OpF := fun _ _ _ => none
noncomputable def oMv (x : LX) : OpF := fun e _ _ => some (evX e x, .keep)
noncomputable def zPi (zs : List AV) : OpF := fun _ _ n => gB (c1s zs) (.ptr n 0 0) (.push (.box zs))
noncomputable def oBox (imm : Bool) (x : LX) : OpF := fun e _ n => zV5 imm n (evX e x)
noncomputable def zPh (zs : List AV) (ps : List (Nat × Nat × LX)) : OpF := fun e _ _ => match zKt zs (ps.map fun (o, n, x) => (o, n, evX e x)) with | some r => some (.agg r, .keep) | none => none
noncomputable def oBsl (imm : Bool) (sz len : Nat) (zs : List AV) (ps : List (Nat × LX)) : OpF := fun e _ n => zU8 imm sz len n zs (ps.map fun (i, x) => (i, evX e x))
noncomputable def zT7 (ag : Bool) (m : Nat) (p : LX) : OpF := fun e g _ => zIR ag m g (evX e p)
noncomputable def zPe (ag : Bool) (m : Nat) (p : LX) : OpF := fun e g _ => zLn ag m g (evX e p)
noncomputable def zL6 (off : Nat) (p : LX) : OpF := fun e g _ => zIT g off (evX e p)
noncomputable def zL5 (sz : Nat) (x i : LX) : OpF := fun e g _ => zIS g sz (evX e x) (evX e i)
noncomputable def oMin (x y : LX) : OpF := fun e _ _ => zU4 (evX e x) (evX e y)
noncomputable def zT6 (x y z : LX) : OpF := fun e _ _ => zNt (evX e x) (evX e y) (evX e z)
noncomputable def oMax (x y : LX) : OpF := fun e _ _ => zU5 (evX e x) (evX e y)
noncomputable def zPc (m : Nat) (p x : LX) : OpF := fun e g _ => zHJ m g (evX e p) (evX e x)
noncomputable def zL4 (x : LX) : OpF := fun e g _ => zOT g (evX e x)
noncomputable def oBin (kd : KD) (op : BinOp) (x y : LX) : OpF := fun e _ _ => match zU9 kd op (evX e x) (evX e y) with | some z => some (z, .keep) | none => none
noncomputable def oNot (x : LX) : OpF := fun e _ _ => match evX e x with | .v (.bool b) => some (bool (!b), .keep) | _ => none
noncomputable def oNeg (x : LX) : OpF := fun e _ _ => match evX e x with | .v (.int k n) => fI (zG0 k (0 - n)) fun n => some (.v (.int k n), .keep) | _ => none
noncomputable def zT8 (c : Cv) (x : LX) : OpF := fun e g _ => zNx g c (evX e x)
noncomputable def zT5 (f : Fn) (a b : List LX) : OpF := fun e _ _ => some (.fn f (a.map (evX e)) (b.map (evX e)), .keep)
noncomputable def oMsl (sz bytes : Nat) (zs : List AV) (len cap : LX) : OpF := fun e _ n => zU3 sz bytes n zs (evX e len) (evX e cap)
noncomputable def zPd (lk : LK) (m : Nat) (x : LX) (lo hi : Option LX) : OpF := fun e g _ => zGn g lk m (evX e x) (lo.map (evX e)) (hi.map (evX e))
noncomputable def zL3 (lk : LK) (m : Nat) (x : LX) (lo hi : Option LX) : OpF := fun e g _ => zIQ g lk m (evX e x) (lo.map (evX e)) (hi.map (evX e))
noncomputable def zPg (off : Nat) (p : LX) : OpF := fun e g _ => zHP g off (evX e p)
noncomputable def oFld (ag : Bool) (off m : Nat) (x : LX) : OpF := fun e _ _ => zV2 ag off m (evX e x)
noncomputable def zPf (sz : Nat) (x i : LX) : OpF := fun e g _ => zHL g sz (evX e x) (evX e i)
noncomputable def oIdx (x i : LX) : OpF := fun e _ _ => zU7 (evX e x) (evX e i)
noncomputable def oExt (x : LX) (i : Nat) : OpF := fun e _ _ => zV3 (evX e x) i
noncomputable def oLen (lk : LK) (x : LX) : OpF := fun e g _ => zU6 g lk (evX e x)
noncomputable def zL7 (sz bytes : Nat) (s x : LX) : OpF := fun e g n => zG4 g sz bytes n (evX e s) (evX e x)
noncomputable def oFrz (x : LX) : OpF := fun e g _ => zSB g (evX e x)
noncomputable def zWT (sz off : Nat) (x : LX) : OpF := fun e g _ => zNv g sz off (evX e x)
noncomputable def oOwn (sz : Nat) (x : LX) : OpF := fun e _ n => match evX e x with | .v (.slice none 0 0) => gB (Nat.blt 0 sz) (.os n 0 0 0) (.push (.arr 0 sz [])) | _ => none
section
variable {P : Program} {R : Type}
abbrev OpK (R : Type) := Ca R → Tr AV → Tr HO → Nat → Kv R → Option R
noncomputable def zAx (f : OpF) : OpK R := fun _ e t n k => match f (fun s => e.get .any s) (gT t n) n with
 | some (x, u) => upK u t n fun t n => k x t n
 | none => none
noncomputable def zPC (f : LX) (args : List LX) : OpK R := fun ca e t n k => match evT e f with
 | .fn (.func g) a b => ca g (a ++ args.map (evT e) ++ b) t n k
 | _ => none
noncomputable def zTr (c a b : LX) : OpK R := fun _ e t n k => match evT e c with
 | .v (.bool v) => cond v (k (evT e a) t n) (k (evT e b) t n)
 | _ => none
noncomputable def zRk (neg : Bool) (x : LX) : OpK R := fun _ e t n k => match evT e x with
 | .v (.slice none 0 0) => k (bool (!neg)) t n
 | .sl _ (_ :: _) => k (bool neg) t n
 | .os r ver _ (len + 1) => match gT t n r with
  | some (.arr v _ _) => cond (Nat.beq ver v) (k (bool neg) t n) none
  | _ => none
 | _ => none
abbrev OpQ (R : Type) := Ca R → Tr AV → Tr HO → Nat → (AV → Option R) → Option R
noncomputable def zAK (f : OpF) : OpQ R := fun _ e t n k => match f (fun s => e.get .any s) (gT t n) n with
 | some (x, .keep) => k x
 | _ => none
noncomputable def noQ : OpQ R := fun _ _ _ _ _ => none
noncomputable def zUQ (f : LX) (args : List LX) : OpQ R := fun ca e t n k => match evT e f with
 | .fn (.func g) a b => cond ((a ++ args.map (evT e) ++ b).all cl2) (ca g (a ++ args.map (evT e) ++ b) .leaf 0 fun x _ _ => cond (cl2 x) (k x) none) none
 | _ => none
noncomputable def zRK (f : LX) (args : List LX) : OpQ R := fun ca e t n k => match evT e f with
 | .fn (.func g) a b => zNR t n fun t' => ca g (a ++ args.map (evT e) ++ b) t' n fun x _ _ => cond (cl2 x) (k x) none
 | _ => none
noncomputable def zTq (c a b : LX) : OpQ R := fun _ e t n k => match evT e c with
 | .v (.bool v) => cond v (k (evT e a)) (k (evT e b))
 | _ => none
noncomputable def zUy (op : LOp) : OpK R := LOp.casesOn (motive := fun _ => OpK R) op
 (fun x => zAx (oMv x)) (zTr) (fun zs => zAx (zPi zs)) (fun _ _ => zAx oNo) (fun imm x => zAx (oBox imm x)) (fun zs ps => zAx (zPh zs ps)) (fun imm sz len zs ps => zAx (oBsl imm sz len zs ps)) (zAx oNo) (fun _ _ _ _ => zAx oNo) (fun ag n p => zAx (zT7 ag n p)) (fun ag n p => zAx (zPe ag n p)) (fun n p x => zAx (zPc n p x)) (fun x => zAx (zL4 x)) (fun kd op x y => zAx (oBin kd op x y)) (fun x => zAx (oNot x)) (fun x => zAx (oNeg x)) (fun c x => zAx (zT8 c x)) (fun f a b => zAx (zT5 f a b)) (fun sz bytes zs len cap => zAx (oMsl sz bytes zs len cap)) (fun lk n x lo hi => zAx (zPd lk n x lo hi)) (fun lk n x lo hi => zAx (zL3 lk n x lo hi)) (fun off p => zAx (zPg off p)) (fun off p => zAx (zL6 off p)) (fun ag off n x => zAx (oFld ag off n x)) (fun sz x i => zAx (zPf sz x i)) (fun sz x i => zAx (zL5 sz x i)) (fun x i => zAx (oIdx x i)) (fun _ _ _ _ _ => zAx oNo) (fun x i => zAx (oExt x i)) (fun lk x => zAx (oLen lk x)) (fun sz bytes s x => zAx (zL7 sz bytes s x)) (fun _ _ _ => zAx oNo) (fun _ _ _ => zAx oNo) (fun x y => zAx (oMin x y)) (fun x y => zAx (oMax x y)) (fun x y z => zAx (zT6 x y z)) (zPC) (zPC) (fun x => zAx (oFrz x)) (fun sz x => zAx (oOwn sz x)) (fun sz off x => zAx (zWT sz off x)) (zRk) (fun _ _ => zAx oNo) (fun _ _ _ => zAx oNo) (fun _ => zAx oNo) (fun _ => fun _ _ _ _ _ => none) (fun _ => zAx oNo) (fun _ _ => zAx oNo) (fun _ => zAx oNo) (zAx oNo)
noncomputable def zPw (op : LOp) : OpQ R := LOp.casesOn (motive := fun _ => OpQ R) op
 (fun x => zAK (oMv x)) (zTq) (fun zs => zAK (zPi zs)) (fun _ _ => zAK oNo) (fun imm x => zAK (oBox imm x)) (fun zs ps => zAK (zPh zs ps)) (fun imm sz len zs ps => zAK (oBsl imm sz len zs ps)) (zAK oNo) (fun _ _ _ _ => zAK oNo) (fun ag n p => zAK (zT7 ag n p)) (fun ag n p => zAK (zPe ag n p)) (fun n p x => zAK (zPc n p x)) (fun x => zAK (zL4 x)) (fun kd op x y => zAK (oBin kd op x y)) (fun x => zAK (oNot x)) (fun x => zAK (oNeg x)) (fun c x => zAK (zT8 c x)) (fun f a b => zAK (zT5 f a b)) (fun sz bytes zs len cap => zAK (oMsl sz bytes zs len cap)) (fun lk n x lo hi => zAK (zPd lk n x lo hi)) (fun lk n x lo hi => zAK (zL3 lk n x lo hi)) (fun off p => zAK (zPg off p)) (fun off p => zAK (zL6 off p)) (fun ag off n x => zAK (oFld ag off n x)) (fun sz x i => zAK (zPf sz x i)) (fun sz x i => zAK (zL5 sz x i)) (fun x i => zAK (oIdx x i)) (fun _ _ _ _ _ => zAK oNo) (fun x i => zAK (oExt x i)) (fun lk x => zAK (oLen lk x)) (fun sz bytes s x => zAK (zL7 sz bytes s x)) (fun _ _ _ => zAK oNo) (fun _ _ _ => zAK oNo) (fun x y => zAK (oMin x y)) (fun x y => zAK (oMax x y)) (fun x y z => zAK (zT6 x y z)) (zUQ) (zRK) (fun _ => noQ) (fun _ _ => noQ) (fun _ _ _ => noQ) (fun _ _ => noQ) (fun _ _ => zAK oNo) (fun _ _ _ => zAK oNo) (fun _ => noQ) (fun _ => noQ) (fun _ => noQ) (fun _ _ => zAK oNo) (fun _ => zAK oNo) (zAK oNo)
theorem zOy (ca : Ca R) (op : LOp) (e : Tr AV) (t : Tr HO) (n : Nat) (k : Kv R) : zUy op ca e t n k = zOz ca op e t n k := by
 cases op <;> rfl
theorem zMJ (ca : Ca R) (op : LOp) (e : Tr AV) (t : Tr HO) (n : Nat) (k : AV → Option R) : zPw op ca e t n k = zIo ca op e t n k := by
 cases op <;> rfl
abbrev zNi (R : Type) := Ca R → Tr AV → Tr HO → Nat → (Tr AV → KT R) → Option R
noncomputable def zTH : zNi R := fun _ e t n k => k e t n
noncomputable def zLY (o : LO) (ih : zNi R) : zNi R := fun ca e t n k => zUy o.op ca e t n fun x t n => zHB o.d x e fun e => ih ca e t n k
noncomputable def zQ0 (o : LO) (ih : zNi R) : zNi R := fun ca e t n k => zHB o.d zAJ e fun e => ih ca e t n k
noncomputable def zTI (o : LO) (ih : zNi R) (s : Nat) (want : Bool) : zNi R := fun ca e t n k => match e.get .any s with
 | .v (.bool b) => cond (eqB b want) (zLY o ih ca e t n k) (zQ0 o ih ca e t n k)
 | .v (.tuple _) => zQ0 o ih ca e t n k
 | _ => none
noncomputable def zI7 (o : LO) (ih : zNi R) : zNi R := fun ca e t n k => match o.g with
 | none => zLY o ih ca e t n k
 | some (s, want) => zTI o ih s want ca e t n k
noncomputable def zEy (l : List LO) : zNi R := List.rec (motive := fun _ => zNi R) zTH (fun o _ ih => zI7 o ih) l
theorem zDC : ∀ (l : List LO) (ca : Ca R) (e : Tr AV) (t : Tr HO) (n : Nat) (k : Tr AV → KT R), zEy l ca e t n k = zD4 ca l e t n k
 | [], ca, e, t, n, k => rfl
 | o :: l, ca, e, t, n, k => by
  show zI7 o (zEy l) ca e t n k = _
  simp only [zI7, zLY, zQ0, zTI, zD4, zOy, zDC l]
  try (generalize o.g = g; rcases g with _ | ⟨s, want⟩ <;> rfl)
abbrev zNj (R : Type) := Ca R → Tr AV → Tr HO → Nat → (Tr AV → Option R) → Option R
noncomputable def zTJ : zNj R := fun _ e _ _ k => k e
noncomputable def zLZ (o : LO) (ih : zNj R) : zNj R := fun ca e t n k => zPw o.op ca e t n fun x => zHB o.d x e fun e => ih ca e t n k
noncomputable def zQ1 (o : LO) (ih : zNj R) : zNj R := fun ca e t n k => zHB o.d zAJ e fun e => ih ca e t n k
noncomputable def zTK (o : LO) (ih : zNj R) (s : Nat) (want : Bool) : zNj R := fun ca e t n k => match e.get .any s with
 | .v (.bool b) => cond (eqB b want) (zLZ o ih ca e t n k) (zQ1 o ih ca e t n k)
 | .v (.tuple _) => zQ1 o ih ca e t n k
 | _ => none
noncomputable def zI8 (o : LO) (ih : zNj R) : zNj R := fun ca e t n k => match o.g with
 | none => zLZ o ih ca e t n k
 | some (s, want) => zTK o ih s want ca e t n k
noncomputable def zDB (l : List LO) : zNj R := List.rec (motive := fun _ => zNj R) zTJ (fun o _ ih => zI8 o ih) l
theorem zDV : ∀ (l : List LO) (ca : Ca R) (e : Tr AV) (t : Tr HO) (n : Nat) (k : Tr AV → Option R), zDB l ca e t n k = zCf ca l e t n k
 | [], ca, e, t, n, k => rfl
 | o :: l, ca, e, t, n, k => by
  show zI8 o (zDB l) ca e t n k = _
  simp only [zI8, zLZ, zQ1, zTK, zCf, zMJ, zDV l]
  try (generalize o.g = g; rcases g with _ | ⟨s, want⟩ <;> rfl)
abbrev CT (R : Type) := Ca R → Nat → Bd R
noncomputable def zXc : CT R := fun _ _ e t n k => k .normal e t n
noncomputable def cOps (l : List LO) : CT R := fun ca _ e t n k => zEy l ca e t n fun e t n => k .normal e t n
noncomputable def zXg (hd tl : List LO) : CT R := fun ca _ e t n k => zDB hd ca e t n fun e => zEy tl ca e t n fun e t n => k .normal e t n
noncomputable def zUj (d : Option Nat) (e1 : Tr AV) (k : Option R) : Tr AV → Option R := fun e2 => match d with
 | some d => cond (eqA 20 (e2.get .any d) (e1.get .any d)) k none
 | none => none
noncomputable def zFo (ca : Ca R) (hd : List LO) (e1 : Tr AV) (t : Tr HO) (n : Nat) (js : List Nat) (k : Option R) : Option R :=
 List.rec (motive := fun _ => Option R) k (fun j _ ih => zDB [hd.getD j default] ca e1 t n (zUj (hd.getD j default).d e1 ih)) js
theorem zF1 (ca : Ca R) (hd : List LO) (e1 : Tr AV) (t : Tr HO) (n : Nat) (k : Option R) : ∀ js, zFo ca hd e1 t n js k = zHr ca hd e1 t n js k
 | [] => rfl
 | j :: js => by
  show zDB [hd.getD j default] ca e1 t n (zUj (hd.getD j default).d e1 (zFo ca hd e1 t n js k)) = _
  rw [zDV, zF1]
  rfl
noncomputable def zSI (ca : Ca R) (hd : List LO) (e1 : Tr AV) (p : LO × List Nat) (ih : Tr AV → Tr HO → Nat → (Tr AV → KT R) → Option R) : Tr AV → Tr HO → Nat → (Tr AV → KT R) → Option R :=
 fun e t n k => zEy [p.1] ca e t n fun e t n => zFo ca hd e1 t n p.2 (ih e t n k)
noncomputable def zOu (ca : Ca R) (hd : List LO) (e1 : Tr AV) (l : List (LO × List Nat)) : Tr AV → Tr HO → Nat → (Tr AV → KT R) → Option R :=
 List.rec (motive := fun _ => Tr AV → Tr HO → Nat → (Tr AV → KT R) → Option R) (fun e t n k => k e t n) (fun p _ ih => zSI ca hd e1 p ih) l
theorem zKb (ca : Ca R) (hd : List LO) (e1 : Tr AV) : ∀ (l : List (LO × List Nat)) (e : Tr AV) (t : Tr HO) (n : Nat) (k : Tr AV → KT R), zOu ca hd e1 l e t n k = zUw ca hd e1 l e t n k
 | [], e, t, n, k => rfl
 | p :: l, e, t, n, k => by
  show zEy [p.1] ca e t n (fun e t n => zFo ca hd e1 t n p.2 (zOu ca hd e1 l e t n k)) = _
  simp only [zDC, zF1, zKb ca hd e1 l]
  rfl
noncomputable def zUU (hd : List LO) (tl : List (LO × List Nat)) (gs : List LO) : CT R := fun ca _ e t n k => zDB hd ca e t n fun e1 => zOu ca hd e1 tl e1 t n fun e t n => zEy gs ca e t n fun e t n => k .normal e t n
noncomputable def cNo : CT R := fun _ _ _ _ _ _ => none
noncomputable def zVE (nx : Option R) (k : Ko R) : Ko R := fun o e t n => Out.casesOn (motive := fun _ => Option R) o nx (fun id => k (.exit id) e t n) (k .ret e t n) fun v => k (.pan v) e t n
noncomputable def cSeq (iha ihb : CT R) : CT R := fun ca m e t n k => iha ca m e t n fun o e t n => zVE (ihb ca m e t n k) k o e t n
noncomputable def zXh (x : LX) (iha ihb : CT R) : CT R := fun ca m e t n k => match evT e x with
 | .v (.bool b) => cond b (iha ca m e t n k) (ihb ca m e t n k)
 | _ => none
noncomputable def zPt (id : Nat) (k : Ko R) : Ko R := fun o e t n => Out.casesOn (motive := fun _ => Option R) o (k .normal e t n) (fun j => cond (Nat.beq j id) (k .normal e t n) (k (.exit j) e t n)) (k .ret e t n) fun v => k (.pan v) e t n
noncomputable def zUV (id : Nat) (ih : CT R) : CT R := fun ca m e t n k => ih ca m e t n (zPt id k)
noncomputable def zW1 (b ih : Bd R) : Bd R := fun e t n k => b e t n fun o e t n => zVE (ih e t n k) k o e t n
noncomputable def zRj (b : Bd R) (m : Nat) : Bd R := Nat.rec (motive := fun _ => Bd R) (fun _ _ _ _ => none) (fun _ ih => zW1 b ih) m
noncomputable def zXd (ih : CT R) : CT R := fun ca m => zRj (ih ca m) m
noncomputable def zXf (id : Nat) : CT R := fun _ _ e t n k => k (.exit id) e t n
noncomputable def cRet : CT R := fun _ _ e t n k => k .ret e t n
noncomputable def zRA (c : LCode) : CT R :=
 LCode.rec (motive := fun _ => CT R) zXc cOps zXg zUU (fun _ _ iha ihb => cSeq iha ihb) (fun x _ _ iha ihb => zXh x iha ihb) (fun id _ ih => zUV id ih) (fun _ ih => zXd ih)
  (fun _ _ _ _ _ _ => cNo) zXf cRet (fun _ _ _ => cNo) (fun _ _ _ => cNo) (fun _ => cNo) (fun _ _ _ => cNo) c
theorem zJZ {b b' : Bd R} (h : ∀ e t n k, b e t n k = b' e t n k) : ∀ (m : Nat) (e : Tr AV) (t : Tr HO) (n : Nat) (k : Ko R), zRj b m e t n k = iter b' m e t n k
 | 0, e, t, n, k => rfl
 | m + 1, e, t, n, k => by
  show b e t n (fun o e t n => zVE (zRj b m e t n k) k o e t n) = _
  rw [h]
  simp only [iter]
  congr 1
  funext o e t n
  cases o with
  | normal => exact zJZ h m e t n k
  | _ => rfl
theorem zRz (ca : Ca R) (m : Nat) : ∀ (c : LCode) (e : Tr AV) (t : Tr HO) (n : Nat) (k : Ko R), zRA c ca m e t n k = evC ca m c e t n k := by
 intro c
 induction c with
 | skip => intros; rfl
 | ops l => intro e t n k; exact zDC l ca e t n _
 | draw hd tl =>
  intro e t n k
  show zDB hd ca e t n (fun e => zEy tl ca e t n fun e t n => k .normal e t n) = zCf ca hd e t n fun e => zD4 ca tl e t n fun e t n => k .normal e t n
  simp only [zDV, zDC]
 | drawA hd tl gs =>
  intro e t n k
  show zDB hd ca e t n (fun e1 => zOu ca hd e1 tl e1 t n fun e t n => zEy gs ca e t n fun e t n => k .normal e t n) = zCf ca hd e t n fun e1 => zUw ca hd e1 tl e1 t n fun e t n => zD4 ca gs e t n fun e t n => k .normal e t n
  simp only [zDV, zDC, zKb]
 | seq a b iha ihb =>
  intro e t n k
  show zRA a ca m e t n (fun o e t n => zVE (zRA b ca m e t n k) k o e t n) = evC ca m a e t n _
  rw [iha]
  congr 1
  funext o e t n
  cases o with
  | normal => exact ihb e t n k
  | _ => rfl
 | cond x a b iha ihb =>
  intro e t n k
  show (match evT e x with | .v (.bool b') => cond b' (zRA a ca m e t n k) (zRA b ca m e t n k) | _ => none) = (match evT e x with | .v (.bool b') => cond b' (evC ca m a e t n k) (evC ca m b e t n k) | _ => none)
  simp only [iha, ihb]
 | block id c ih =>
  intro e t n k
  show zRA c ca m e t n (zPt id k) = evC ca m c e t n _
  rw [ih]
  congr 1
  funext o e t n
  cases o <;> rfl
 | loop c ih => intro e t n k; exact zJZ ih m e t n k
 | range => intros; rfl
 | exit => intros; rfl
 | ret => intros; rfl
 | callp => intros; rfl
 | ti => intros; rfl
 | drawX => intros; rfl
 | pan => intros; rfl
noncomputable def zVF (e : Tr AV) (t : Tr HO) (n : Nat) (rs : List RV) (k : Kv R) : Option R := match zOw e t n rs with
 | some x => k x t n
 | none => none
noncomputable def kRet (rs : List RV) (k : Kv R) : Ko R := fun o e t n => Out.casesOn (motive := fun _ => Option R) o (zVF e t n rs k) (fun _ => none) (zVF e t n rs k) fun _ => none
noncomputable def fGo (m : Nat) (ih : Ca R) (L : LFn) : List AV → Tr HO → Nat → Kv R → Option R := fun args t n k => cond (Nat.ble args.length L.n && Nat.ble args.length 1000) (zRA L.body ih m (zUB args 0) t n (kRet L.res k)) none
noncomputable def fS (tbl : Tr (Option LFn)) (m : Nat) (ih : Ca R) : Ca R := fun f args t n k => Option.casesOn (motive := fun _ => Option R) (tbl.get none f) none fun L => fGo m ih L args t n k
end
structure zIJ where
 f : FuncId
 args : List AV
 x : AV
def zCZ (P : Program) (q : zIJ) : Prop := ∀ H, ACall P q.f q.args H fun y H' => y = q.x ∧ H' = H
section
variable {P : Program} {R : Type}
noncomputable def zMD (l : List zIJ) (f : FuncId) (args : List AV) (t : Tr HO) (n : Nat) (k : Kv R) (nx : Option R) : Option R :=
 List.rec (motive := fun _ => Option R) nx (fun q _ ih => cond (Nat.beq q.f f) (cond (zF2 (eqA 60) args q.args) (k q.x t n) ih) ih) l
theorem zOs {l : List zIJ} (hl : ∀ q ∈ l, zCZ P q) {f : FuncId} {args : List AV} {t : Tr HO} {n : Nat} {k : Kv R} {nx : Option R} {r : R} (h : zMD l f args t n k nx = some r) :
  nx = some r ∨ ∃ x, k x t n = some r ∧ ∀ H, ACall P f args H fun y H' => y = x ∧ H' = H := by
 induction l with
 | nil => exact .inl h
 | cons q l ih =>
  have ih := ih fun q' hq => hl q' (zYE _ hq)
  change cond (Nat.beq q.f f) (cond (zF2 (eqA 60) args q.args) (k q.x t n) (zMD l f args t n k nx)) (zMD l f args t n k nx) = some r at h
  cases hb : Nat.beq q.f f with
  | false => rw [hb] at h; exact ih h
  | true =>
   rw [hb, zYd] at h
   cases he : zF2 (eqA 60) args q.args with
   | false => rw [he] at h; exact ih h
   | true =>
    rw [he, zYd] at h
    have hf := zYJ hb
    have ha := zC8 (zMQ 60) he
    subst ha
    subst hf
    exact .inr ⟨q.x, h, hl q (by simp)⟩
theorem zUs {tbl : Tr (Option LFn)} (ht : zNg P tbl) (m : Nat) {ca : Ca R} (hc : zNl P ca) : zNl P (fS tbl m ca) := by
 intro z f args t n k r H h hr
 unfold fS at h
 cases hL : tbl.get none f with
 | none => rw [hL] at h; cases h
 | some L =>
  rw [hL] at h
  change fGo m ca L args t n k = some r at h
  unfold fGo at h
  cases hb : (Nat.ble args.length L.n && Nat.ble args.length 1000) <;> rw [hb] at h
  ·cases h
  ·simp only [zXE, zYY] at hb
   rw [zYd, zRz] at h
   obtain ⟨fn, hs, hf, hl⟩ := ht f L hL
   obtain ⟨o, e', t', n', H', r1, h1, f1⟩ := zUz hc m L.body _ _ _ _ _ _ _ h hr
   have fin : ∀ x, zOw e' t' n' L.res = some x → k x t' n' = some r → (o = .normal ∨ o = .ret) → ∃ x t' n' H', RH z t' n' H' ∧ k x t' n' = some r ∧ ∀ K : AV → zC → Prop, K x H' → ACall P f args H K := by
    intro x hx hk ho
    obtain ⟨g1, g2⟩ := zOv hx r1
    refine ⟨x, t', n', H', r1, hk, fun K hK => enter hf hl hb.1 ?_⟩
    have := f1 (zSj L.res K) (by rcases ho with rfl | rfl <;> exact ⟨g1, by rw [g2]; exact hK⟩)
    rw [zMR args 0 (by omega)] at this
    exact this
   have go : zVF e' t' n' L.res k = some r → (o = .normal ∨ o = .ret) → ∃ x t' n' H', RH z t' n' H' ∧ k x t' n' = some r ∧ ∀ K : AV → zC → Prop, K x H' → ACall P f args H K := by
    intro h1 ho
    unfold zVF at h1
    split at h1
    ·rename_i x hx; exact fin x hx h1 ho
    ·cases h1
   cases o with
   | exit id => cases h1
   | pan v => cases h1
   | normal => exact go h1 (.inl rfl)
   | ret => exact go h1 (.inr rfl)
noncomputable def zRy (l : List zIJ) (tbl : Tr (Option LFn)) (m d : Nat) : Ca R := Nat.rec (motive := fun _ => Ca R) (fun _ _ _ _ _ => none) (fun _ ih f args t n k => zMD l f args t n k (fS tbl m ih f args t n k)) d
theorem zKd {l : List zIJ} (hl : ∀ q ∈ l, zCZ P q) {tbl : Tr (Option LFn)} (ht : zNg P tbl) (m : Nat) : ∀ d, zNl (R := R) P (zRy l tbl m d)
 | 0 => fun z f args t n k r H h hr => by cases h
 | d + 1 => fun z f args t n k r H h hr => by
  change zMD l f args t n k (fS tbl m (zRy l tbl m d) f args t n k) = some r at h
  rcases zOs hl h with h | ⟨x, h1, h2⟩
  ·exact zUs ht m (zKd hl ht m d) z f args t n k r H h hr
  ·exact ⟨x, t, n, H, hr, h1, fun K hK => (h2 H).mono fun y H' ⟨g1, g2⟩ => by rw [g1, g2]; exact hK⟩
end
noncomputable def zUv (l : List zIJ) (tbl : Tr (Option LFn)) (m d : Nat) (f : FuncId) (args : List AV) : Option AV := fS (R := AV) tbl m (zRy l tbl m d) f args .leaf 0 fun x _ _ => some x
theorem zBX {P : Program} {l : List zIJ} (hl : ∀ q ∈ l, zCZ P q) {tbl : Tr (Option LFn)} (ht : zNg P tbl) {m d : Nat} {f : FuncId} {args : List AV} {x : AV} (h : zUv l tbl m d f args = some x) (hx : x.cl = true) (hc : clL args = true) : zCZ P ⟨f, args, x⟩ := by
 intro H
 obtain ⟨y, t', n', H', r1, h1, f1⟩ := zUs ht m (zKd hl ht m d) _ f args .leaf 0 _ _ [] h zO4
 simp only [zXt] at h1
 subst h1
 exact APure.frame (ACall.drop (R := fun z => z = y) (f1 _ ⟨rfl, hx, H', rfl⟩)) hc H
def TrOk (P : Program) : (Nat → Nat) → Tr (Option LFn) → Prop
 | _, .leaf => True
 | φ, .node v l r => (∀ x, v = some x → zVV P (φ 0) x) ∧ TrOk P (fun j => φ (2 * j + 1)) l ∧ TrOk P (fun j => φ (2 * j + 2)) r
theorem TrOk.get {P : Program} : ∀ {t : Tr (Option LFn)} {φ : Nat → Nat} {i : Nat} {x : LFn}, TrOk P φ t → t.get none i = some x → zVV P (φ i) x
 | .leaf, φ, i, x, _, h => by rw [Tr.get_leaf] at h; cases h
 | .node v l r, φ, i, x, ⟨h1, h2, h3⟩, h => by
  cases i with
  | zero =>
   rw [Tr.get_z] at h
   exact h1 x h
  | succ n =>
   rw [Tr.get_s] at h
   split at h
   ·have := TrOk.get h2 h
    rwa [show 2 * (n / 2) + 1 = n + 1 by omega] at this
   ·have := TrOk.get h3 h
    rwa [show 2 * (n / 2) + 2 = n + 1 by omega] at this
theorem zLt {P : Program} {tbl : Tr (Option LFn)} (h : TrOk P id tbl) : zNg P tbl := fun f L hL => by
 obtain ⟨k, rfl, h⟩ := h.get hL
 exact h
theorem noFn {P : Program} {f : Nat} : ∀ x, (none : Option LFn) = some x → zVV P f x := fun _ h => by cases h
theorem fnOk {P : Program} {f : Nat} {fn : Func} {hs : List Hn} (hf : P.funcs[f]? = some fn) : ∀ x, zAa P fn hs = some x → zVV P f x := fun _ h => ⟨f, rfl, fn, hs, hf, h⟩
end Go.Ax
namespace Go.Proofs.YtaipgalanpcgoaaGreat
open Go Go.Ax
set_option maxRecDepth 100000
set_option linter.unusedSimpArgs false
set_option maxHeartbeats 4000000
abbrev tL : Tr (Option LFn) := .leaf
abbrev tN (l r : Tr (Option LFn)) : Tr (Option LFn) := .node none l r
noncomputable abbrev tE (fn : Func) (hs : List Hn) (l r : Tr (Option LFn)) : Tr (Option LFn) := .node (zAa Tryz.prog fn hs) l r
theorem hL {φ : Nat → Nat} : TrOk Tryz.prog φ tL := trivial
theorem hN {φ : Nat → Nat} {l r : Tr (Option LFn)} (a : TrOk Tryz.prog (fun j => φ (2 * j + 1)) l) (b : TrOk Tryz.prog (fun j => φ (2 * j + 2)) r) : TrOk Tryz.prog φ (tN l r) := ⟨noFn, a, b⟩
theorem hE {φ : Nat → Nat} {fn : Func} {hs : List Hn} {l r : Tr (Option LFn)} (h : Tryz.prog.funcs[φ 0]? = some fn) (a : TrOk Tryz.prog (fun j => φ (2 * j + 1)) l) (b : TrOk Tryz.prog (fun j => φ (2 * j + 2)) r) : TrOk Tryz.prog φ (tE fn hs l r) := ⟨fnOk h, a, b⟩
noncomputable def zXa : Tr (Option LFn) := (tN (tN (tN (tN (tN (tN (tN (tN (tE Tryz.f255 [] tL tL) tL) (tE Tryz.f191 [] tL tL)) (tE Tryz.f95 [⟨7, 6, .imm⟩] (tE Tryz.f159 [] tL tL) tL)) (tN (tN (tE Tryz.f143 [⟨5, 3, .imm⟩, ⟨7, 3, .imm⟩] tL tL) (tE Tryz.f207 [] tL tL)) (tE Tryz.f111 [⟨1, 11, .imm⟩, ⟨1, 0, (.drw [12, 15])⟩] tL (tE Tryz.f239 [⟨24, 0, .imm⟩] tL tL)))) (tE Tryz.f23 [⟨11, 10, .imm⟩] (tE Tryz.f39 [] (tN (tN (tE Tryz.f263 [] tL tL) tL) (tE Tryz.f199 [⟨2, 12, .imm⟩, ⟨2, 0, (.drw [13, 16])⟩] tL tL)) (tE Tryz.f103 [⟨6, 2, (.pre 2 (.frz (.t 2)))⟩] (tE Tryz.f167 [] tL tL) (tE Tryz.f231 [] tL tL))) (tN (tN (tE Tryz.f151 [] tL tL) (tE Tryz.f215 [⟨18, 0, (.drw [6, 7, 8])⟩, ⟨22, 0, (.drw [3, 4, 11, 12, 13])⟩, ⟨28, 0, (.drw [2, 6, 8, 9, 10])⟩, ⟨38, 0, (.drw [3, 5, 6, 7])⟩, ⟨40, 0, (.drw [2, 5, 6, 7])⟩, ⟨41, 0, (.drw [2, 5, 7, 8, 9])⟩] tL tL)) (tN tL (tE Tryz.f247 [] tL tL))))) (tN (tN (tE Tryz.f35 [] (tE Tryz.f67 [] (tN (tE Tryz.f259 [⟨1, 4, .imm⟩] tL tL) tL) (tE Tryz.f195 [] tL tL)) (tE Tryz.f99 [⟨4, 2, .imm⟩, ⟨4, 3, .imm⟩, ⟨4, 6, .imm⟩, ⟨5, 2, .imm⟩, ⟨5, 3, .imm⟩, ⟨5, 6, .imm⟩, ⟨4, 0, (.perm [0, 1, 2, 3, 4, 6, 7, 5, 8, 9])⟩, ⟨4, 4, .imm⟩, ⟨5, 0, (.perm [0, 1, 2, 3, 4, 6, 7, 5, 8, 9])⟩, ⟨5, 4, .imm⟩, ⟨6, 2, (.pre 4 (.frz (.t 4)))⟩, ⟨4, 0, (.drw [7, 8])⟩, ⟨5, 0, (.drw [7, 8])⟩] (tE Tryz.f163 [] tL tL) tL)) (tE Tryz.f51 [⟨15, 11, (.pre 64 (.frzf 5 4 (.t 64)))⟩, ⟨12, 3, .imm⟩, ⟨14, 3, .imm⟩, ⟨10, 4, .imm⟩, ⟨15, 14, (.pre 3 (.frz (.t 3)))⟩, ⟨15, 11, .tail⟩] (tN (tE Tryz.f147 [] tL tL) (tE Tryz.f211 [⟨10, 2, .imm⟩, ⟨11, 4, (.pre 4 (.frz (.t 4)))⟩, ⟨10, 0, (.drw [3, 10])⟩] tL tL)) (tE Tryz.f115 [⟨1, 2, .imm⟩] tL (tE Tryz.f243 [] tL tL)))) (tN (tN (tN (tE Tryz.f139 [] tL tL) (tE Tryz.f203 [] tL tL)) (tE Tryz.f107 [] tL (tE Tryz.f235 [] tL tL))) (tN (tE Tryz.f91 [⟨7, 6, .imm⟩, ⟨7, 7, .tail⟩] (tE Tryz.f155 [⟨14, 2, .imm⟩, ⟨15, 2, (.pre 6 (.frz (.t 6)))⟩] tL tL) (tE Tryz.f219 [⟨1, 4, .imm⟩, ⟨1, 6, .imm⟩] tL tL)) (tE Tryz.f123 [⟨1, 6, .imm⟩, ⟨3, 0, .imm⟩] (tE Tryz.f187 [⟨6, 5, .imm⟩] tL tL) (tE Tryz.f251 [] tL tL)))))) (tN (tN (tN (tN (tE Tryz.f65 [⟨1, 0, .imm⟩] (tN (tE Tryz.f257 [] tL tL) tL) (tE Tryz.f193 [⟨47, 2, (.pre 8 (.frz (.t 8)))⟩, ⟨51, 2, (.pre 8 (.frz (.t 8)))⟩, ⟨52, 2, (.pre 8 (.frz (.t 8)))⟩] tL tL)) (tE Tryz.f97 [⟨2, 0, (.drw [20, 23])⟩] (tE Tryz.f161 [] tL tL) tL)) (tN (tN (tE Tryz.f145 [⟨6, 3, .imm⟩] tL tL) (tE Tryz.f209 [⟨7, 3, .imm⟩, ⟨8, 2, (.pre 4 (.frz (.t 4)))⟩] tL tL)) (tE Tryz.f113 [⟨15, 2, (.pre 2 (.frz (.t 2)))⟩, ⟨16, 2, .imm⟩, ⟨17, 2, (.pre 2 (.frz (.t 2)))⟩] tL (tE Tryz.f241 [] tL tL)))) (tE Tryz.f25 [] (tN (tN (tE Tryz.f137 [⟨7, 5, .imm⟩, ⟨7, 9, (.pre 2 (.frz (.t 2)))⟩, ⟨9, 6, .imm⟩] (tE Tryz.f265 [⟨8, 17, .tail⟩] tL tL) tL) (tE Tryz.f201 [] tL tL)) (tE Tryz.f105 [⟨29, 2, .imm⟩, ⟨33, 2, .imm⟩, ⟨39, 5, (.pre 4 (.frz (.t 4)))⟩, ⟨39, 5, (.pre 5 (.frz (.t 5)))⟩] (tE Tryz.f169 [⟨1, 0, .imm⟩, ⟨1, 7, .imm⟩, ⟨1, 0, (.drw [3, 6, 10, 13, 14, 15])⟩] tL tL) (tE Tryz.f233 [⟨10, 5, .imm⟩] tL tL))) (tN (tN (tE Tryz.f153 [⟨20, 2, (.pre 6 (.frz (.t 6)))⟩] tL tL) (tE Tryz.f217 [⟨6, 0, (.drw [5, 7, 8, 9])⟩, ⟨8, 0, (.drw [6, 8, 9, 10])⟩, ⟨10, 0, (.drw [4, 5, 7, 15, 16, 17])⟩] tL tL)) (tN tL (tE Tryz.f249 [] tL tL))))) (tE Tryz.f13 [] (tN (tE Tryz.f37 [] (tN (tN (tE Tryz.f261 [] tL tL) tL) (tE Tryz.f197 [] tL tL)) (tE Tryz.f101 [⟨4, 11, (.pre 3 (.frz (.t 3)))⟩, ⟨4, 0, (.drw [8])⟩] (tE Tryz.f165 [] tL tL) tL)) (tE Tryz.f53 [⟨27, 4, (.pre 130 (.frzf 5 0 (.t 130)))⟩, ⟨27, 4, (.pre 130 (.frzf 1 1 (.t 130)))⟩, ⟨32, 2, (.pre 149 (.frzf 6 0 (.t 149)))⟩, ⟨14, 3, .imm⟩, ⟨24, 6, .imm⟩, ⟨29, 3, .imm⟩, ⟨29, 8, .imm⟩, ⟨32, 5, (.pre 3 (.frz (.t 3)))⟩, ⟨8, 0, (.drw [8, 9])⟩, ⟨11, 0, (.drw [8, 9, 10])⟩, ⟨20, 0, (.drw [3, 4, 6])⟩, ⟨29, 0, (.drw [4, 9, 11, 12])⟩] (tN (tE Tryz.f149 [⟨7, 0, .imm⟩, ⟨12, 16, .tail⟩] tL tL) (tE Tryz.f213 [] tL tL)) (tE Tryz.f117 [] tL (tE Tryz.f245 [⟨1, 13, .imm⟩, ⟨1, 0, (.drw [14, 17])⟩] tL tL)))) (tN (tN (tN (tE Tryz.f141 [⟨8, 4, .imm⟩, ⟨11, 4, .imm⟩] tL tL) (tE Tryz.f205 [⟨7, 0, .imm⟩] tL tL)) (tE Tryz.f109 [⟨9, 5, .imm⟩, ⟨11, 2, (.pre 2 (.frz (.t 2)))⟩] tL (tE Tryz.f237 [⟨6, 4, .imm⟩, ⟨9, 4, .imm⟩] tL tL))) (tN (tE Tryz.f93 [] (tE Tryz.f157 [⟨11, 2, .imm⟩, ⟨12, 2, (.pre 4 (.frz (.t 4)))⟩] tL tL) (tE Tryz.f221 [⟨10, 0, (.drw [4, 5, 6, 9, 10, 11])⟩, ⟨11, 0, (.drw [3, 6, 7, 8, 9])⟩, ⟨12, 0, (.drw [2, 5, 6, 7, 8])⟩, ⟨14, 0, (.drw [3, 6, 7, 8, 9])⟩, ⟨15, 0, (.drw [2, 5, 6, 7, 8])⟩, ⟨16, 0, (.drw [3, 5, 6, 7, 8])⟩, ⟨17, 0, (.drw [2, 5, 6, 7, 8])⟩, ⟨18, 0, (.drw [4, 6, 7, 8])⟩] tL tL)) (tE Tryz.f125 [] (tE Tryz.f189 [] tL tL) (tE Tryz.f253 [⟨5, 0, (.drw [5, 6, 7, 8])⟩] tL tL))))))) (tN (tN (tN (tN (tN (tE Tryz.f64 [] (tN (tE Tryz.f256 [⟨15, 3, .imm⟩, ⟨22, 3, .imm⟩] tL tL) tL) (tE Tryz.f192 [⟨16, 2, .imm⟩, ⟨17, 2, (.pre 2 (.frz (.t 2)))⟩] tL tL)) (tE Tryz.f96 [⟨3, 12, .imm⟩, ⟨0, 0, (.drw [10, 11])⟩, ⟨3, 0, (.drw [13, 16])⟩] (tE Tryz.f160 [⟨10, 5, .imm⟩] tL tL) tL)) (tN (tN (tE Tryz.f144 [] tL tL) (tE Tryz.f208 [] tL tL)) (tE Tryz.f112 [] tL (tE Tryz.f240 [] tL tL)))) (tE Tryz.f24 [⟨3, 6, (.pre 3 (.frz (.t 3)))⟩, ⟨4, 8, (.pre 3 (.frz (.t 3)))⟩] (tN (tN (tN (tE Tryz.f264 [⟨1, 15, .imm⟩, ⟨1, 0, (.drw [16, 20])⟩, ⟨3, 11, .tail⟩] tL tL) tL) (tE Tryz.f200 [] tL tL)) (tE Tryz.f104 [⟨12, 4, (.pre 2 (.frz (.t 2)))⟩, ⟨4, 0, (.drw [6, 7])⟩] (tE Tryz.f168 [⟨13, 2, .imm⟩, ⟨20, 2, .imm⟩, ⟨21, 2, .imm⟩, ⟨8, 5, .imm⟩, ⟨22, 2, (.pre 4 (.frz (.t 4)))⟩] tL tL) (tE Tryz.f232 [⟨6, 3, .imm⟩, ⟨11, 3, .imm⟩, ⟨17, 5, .imm⟩] tL tL))) (tN (tN (tE Tryz.f152 [] tL tL) (tE Tryz.f216 [⟨5, 0, (.drw [5, 6, 7])⟩] tL tL)) (tN tL (tE Tryz.f248 [⟨1, 4, .imm⟩, ⟨3, 2, (.pre 10 (.frz (.t 10)))⟩, ⟨5, 4, .imm⟩, ⟨5, 7, (.pre 10 (.frz (.t 10)))⟩] tL tL))))) (tN (tN (tE Tryz.f36 [] (tE Tryz.f68 [] (tN (tE Tryz.f260 [] tL tL) tL) (tE Tryz.f196 [⟨0, 0, (.drw [15, 16])⟩] tL tL)) (tE Tryz.f100 [⟨15, 13, .imm⟩, ⟨16, 2, (.pre 2 (.frz (.t 2)))⟩, ⟨15, 14, .tail⟩] (tE Tryz.f164 [⟨21, 3, .imm⟩, ⟨2, 0, (.drw [8, 9])⟩] tL tL) tL)) (tE Tryz.f52 [⟨37, 1, (.pre 210 (.frzf 3 5 (.t 210)))⟩, ⟨37, 1, (.pre 210 (.frzf 1 6 (.t 210)))⟩, ⟨37, 1, (.pre 210 (.frzf 9 8 (.t 210)))⟩, ⟨6, 3, .imm⟩, ⟨6, 0, (.drw [7, 8])⟩, ⟨5, 10, (.pre 3 (.frz (.t 3)))⟩, ⟨12, 8, .imm⟩, ⟨18, 21, .imm⟩, ⟨24, 7, (.pre 3 (.frz (.t 3)))⟩, ⟨36, 6, (.pre 3 (.frz (.t 3)))⟩, ⟨12, 9, .tail⟩, ⟨18, 22, .tail⟩, ⟨36, 0, (.drw [3])⟩] (tN (tE Tryz.f148 [] tL tL) (tE Tryz.f212 [] tL tL)) (tE Tryz.f116 [⟨5, 0, (.drw [5, 6, 7, 8])⟩] tL (tE Tryz.f244 [] tL tL)))) (tN (tN (tN (tE Tryz.f140 [] tL tL) (tE Tryz.f204 [] tL tL)) (tE Tryz.f108 [⟨30, 9, .imm⟩, ⟨30, 10, .imm⟩] tL (tE Tryz.f236 [⟨4, 3, .imm⟩, ⟨6, 3, .imm⟩, ⟨8, 2, (.pre 2 (.frz (.t 2)))⟩] tL tL))) (tN (tE Tryz.f92 [] (tE Tryz.f156 [] tL tL) (tE Tryz.f220 [⟨2, 6, .imm⟩, ⟨2, 0, (.drw [10, 11, 12])⟩] tL tL)) (tE Tryz.f124 [] (tE Tryz.f188 [] tL tL) (tE Tryz.f252 [] tL tL)))))) (tN (tN (tN (tN (tE Tryz.f66 [] (tN (tE Tryz.f258 [] tL tL) tL) (tE Tryz.f194 [] tL tL)) (tE Tryz.f98 [⟨6, 1, (.pre 56 (.frzf 5 4 (.t 56)))⟩, ⟨1, 0, (.drw [12, 13])⟩] (tE Tryz.f162 [] tL tL) tL)) (tE Tryz.f50 [⟨10, 9, .imm⟩, ⟨10, 20, .imm⟩, ⟨8, 0, (.drw [7, 15, 16, 17, 18])⟩, ⟨10, 0, (.drw [])⟩] (tN (tE Tryz.f146 [] tL tL) (tE Tryz.f210 [] tL tL)) (tE Tryz.f114 [] tL (tE Tryz.f242 [] tL tL)))) (tN (tN (tN (tE Tryz.f138 [] (tE Tryz.f266 [⟨3, 2, (.pre 2 (.frz (.t 2)))⟩, ⟨5, 2, (.pre 2 (.frz (.t 2)))⟩, ⟨7, 2, (.pre 2 (.frz (.t 2)))⟩, ⟨9, 2, (.pre 2 (.frz (.t 2)))⟩, ⟨11, 2, (.pre 2 (.frz (.t 2)))⟩] tL tL) tL) (tE Tryz.f202 [] tL tL)) (tE Tryz.f106 [⟨2, 10, .tail⟩] (tE Tryz.f170 [⟨5, 0, (.drw [3, 4, 9, 11, 12, 13])⟩, ⟨26, 0, (.drw [3, 7, 8, 11, 12, 13])⟩] tL tL) (tE Tryz.f234 [] tL tL))) (tN (tN (tE Tryz.f154 [] tL tL) (tE Tryz.f218 [⟨2, 0, (.drw [10, 11])⟩, ⟨10, 0, (.drw [5, 7, 8, 9])⟩] tL tL)) (tE Tryz.f122 [] (tE Tryz.f186 [] tL tL) (tE Tryz.f250 [] tL tL))))) (tN (tN (tE Tryz.f38 [] (tN (tN (tE Tryz.f262 [] tL tL) tL) (tE Tryz.f198 [⟨1, 12, .imm⟩, ⟨1, 0, (.drw [13, 16])⟩] tL tL)) (tE Tryz.f102 [] (tE Tryz.f166 [⟨18, 11, .imm⟩, ⟨16, 19, .imm⟩, ⟨25, 3, .imm⟩, ⟨2, 0, (.drw [10, 11])⟩, ⟨16, 20, .tail⟩, ⟨18, 16, .tail⟩] tL tL) tL)) (tN (tN (tE Tryz.f150 [⟨14, 2, (.pre 68 (.frzf 4 1 (.t 68)))⟩, ⟨13, 11, .imm⟩, ⟨14, 2, .imm⟩, ⟨15, 2, (.pre 2 (.frz (.t 2)))⟩, ⟨13, 12, .tail⟩] tL tL) (tE Tryz.f214 [⟨1, 15, .tail⟩] tL tL)) (tE Tryz.f118 [] tL (tE Tryz.f246 [⟨3, 12, .tail⟩] tL tL)))) (tN (tN (tN (tE Tryz.f142 [] tL tL) (tE Tryz.f206 [] tL tL)) (tE Tryz.f110 [⟨18, 0, (.drw [9, 10, 11, 13])⟩, ⟨8, 3, .imm⟩, ⟨8, 7, .imm⟩, ⟨14, 2, .imm⟩, ⟨18, 10, .imm⟩, ⟨1, 0, (.drw [4, 5])⟩, ⟨8, 0, (.drw [4, 8, 10, 12])⟩] tL (tE Tryz.f238 [] tL tL))) (tN (tE Tryz.f94 [⟨7, 3, .imm⟩] (tE Tryz.f158 [⟨7, 2, (.pre 6 (.frz (.t 6)))⟩] tL tL) tL) (tN (tE Tryz.f190 [⟨8, 5, .imm⟩, ⟨14, 4, .imm⟩, ⟨22, 6, .imm⟩, ⟨28, 3, .imm⟩, ⟨32, 3, .imm⟩, ⟨43, 4, .imm⟩] tL tL) (tE Tryz.f254 [] tL tL))))))))
theorem zCq : zNg Tryz.prog zXa := zLt (hN (hN (hN (hN (hN (hN (hN (hN (hE Tryz.func255 hL hL) hL) (hE Tryz.func191 hL hL)) (hE Tryz.func95 (hE Tryz.func159 hL hL) hL)) (hN (hN (hE Tryz.func143 hL hL) (hE Tryz.func207 hL hL)) (hE Tryz.func111 hL (hE Tryz.func239 hL hL)))) (hE Tryz.func23 (hE Tryz.func39 (hN (hN (hE Tryz.func263 hL hL) hL) (hE Tryz.func199 hL hL)) (hE Tryz.func103 (hE Tryz.func167 hL hL) (hE Tryz.func231 hL hL))) (hN (hN (hE Tryz.func151 hL hL) (hE Tryz.func215 hL hL)) (hN hL (hE Tryz.func247 hL hL))))) (hN (hN (hE Tryz.func35 (hE Tryz.func67 (hN (hE Tryz.func259 hL hL) hL) (hE Tryz.func195 hL hL)) (hE Tryz.func99 (hE Tryz.func163 hL hL) hL)) (hE Tryz.func51 (hN (hE Tryz.func147 hL hL) (hE Tryz.func211 hL hL)) (hE Tryz.func115 hL (hE Tryz.func243 hL hL)))) (hN (hN (hN (hE Tryz.func139 hL hL) (hE Tryz.func203 hL hL)) (hE Tryz.func107 hL (hE Tryz.func235 hL hL))) (hN (hE Tryz.func91 (hE Tryz.func155 hL hL) (hE Tryz.func219 hL hL)) (hE Tryz.func123 (hE Tryz.func187 hL hL) (hE Tryz.func251 hL hL)))))) (hN (hN (hN (hN (hE Tryz.func65 (hN (hE Tryz.func257 hL hL) hL) (hE Tryz.func193 hL hL)) (hE Tryz.func97 (hE Tryz.func161 hL hL) hL)) (hN (hN (hE Tryz.func145 hL hL) (hE Tryz.func209 hL hL)) (hE Tryz.func113 hL (hE Tryz.func241 hL hL)))) (hE Tryz.func25 (hN (hN (hE Tryz.func137 (hE Tryz.func265 hL hL) hL) (hE Tryz.func201 hL hL)) (hE Tryz.func105 (hE Tryz.func169 hL hL) (hE Tryz.func233 hL hL))) (hN (hN (hE Tryz.func153 hL hL) (hE Tryz.func217 hL hL)) (hN hL (hE Tryz.func249 hL hL))))) (hE Tryz.func13 (hN (hE Tryz.func37 (hN (hN (hE Tryz.func261 hL hL) hL) (hE Tryz.func197 hL hL)) (hE Tryz.func101 (hE Tryz.func165 hL hL) hL)) (hE Tryz.func53 (hN (hE Tryz.func149 hL hL) (hE Tryz.func213 hL hL)) (hE Tryz.func117 hL (hE Tryz.func245 hL hL)))) (hN (hN (hN (hE Tryz.func141 hL hL) (hE Tryz.func205 hL hL)) (hE Tryz.func109 hL (hE Tryz.func237 hL hL))) (hN (hE Tryz.func93 (hE Tryz.func157 hL hL) (hE Tryz.func221 hL hL)) (hE Tryz.func125 (hE Tryz.func189 hL hL) (hE Tryz.func253 hL hL))))))) (hN (hN (hN (hN (hN (hE Tryz.func64 (hN (hE Tryz.func256 hL hL) hL) (hE Tryz.func192 hL hL)) (hE Tryz.func96 (hE Tryz.func160 hL hL) hL)) (hN (hN (hE Tryz.func144 hL hL) (hE Tryz.func208 hL hL)) (hE Tryz.func112 hL (hE Tryz.func240 hL hL)))) (hE Tryz.func24 (hN (hN (hN (hE Tryz.func264 hL hL) hL) (hE Tryz.func200 hL hL)) (hE Tryz.func104 (hE Tryz.func168 hL hL) (hE Tryz.func232 hL hL))) (hN (hN (hE Tryz.func152 hL hL) (hE Tryz.func216 hL hL)) (hN hL (hE Tryz.func248 hL hL))))) (hN (hN (hE Tryz.func36 (hE Tryz.func68 (hN (hE Tryz.func260 hL hL) hL) (hE Tryz.func196 hL hL)) (hE Tryz.func100 (hE Tryz.func164 hL hL) hL)) (hE Tryz.func52 (hN (hE Tryz.func148 hL hL) (hE Tryz.func212 hL hL)) (hE Tryz.func116 hL (hE Tryz.func244 hL hL)))) (hN (hN (hN (hE Tryz.func140 hL hL) (hE Tryz.func204 hL hL)) (hE Tryz.func108 hL (hE Tryz.func236 hL hL))) (hN (hE Tryz.func92 (hE Tryz.func156 hL hL) (hE Tryz.func220 hL hL)) (hE Tryz.func124 (hE Tryz.func188 hL hL) (hE Tryz.func252 hL hL)))))) (hN (hN (hN (hN (hE Tryz.func66 (hN (hE Tryz.func258 hL hL) hL) (hE Tryz.func194 hL hL)) (hE Tryz.func98 (hE Tryz.func162 hL hL) hL)) (hE Tryz.func50 (hN (hE Tryz.func146 hL hL) (hE Tryz.func210 hL hL)) (hE Tryz.func114 hL (hE Tryz.func242 hL hL)))) (hN (hN (hN (hE Tryz.func138 (hE Tryz.func266 hL hL) hL) (hE Tryz.func202 hL hL)) (hE Tryz.func106 (hE Tryz.func170 hL hL) (hE Tryz.func234 hL hL))) (hN (hN (hE Tryz.func154 hL hL) (hE Tryz.func218 hL hL)) (hE Tryz.func122 (hE Tryz.func186 hL hL) (hE Tryz.func250 hL hL))))) (hN (hN (hE Tryz.func38 (hN (hN (hE Tryz.func262 hL hL) hL) (hE Tryz.func198 hL hL)) (hE Tryz.func102 (hE Tryz.func166 hL hL) hL)) (hN (hN (hE Tryz.func150 hL hL) (hE Tryz.func214 hL hL)) (hE Tryz.func118 hL (hE Tryz.func246 hL hL)))) (hN (hN (hN (hE Tryz.func142 hL hL) (hE Tryz.func206 hL hL)) (hE Tryz.func110 hL (hE Tryz.func238 hL hL))) (hN (hE Tryz.func94 (hE Tryz.func158 hL hL) hL) (hN (hE Tryz.func190 hL hL) (hE Tryz.func254 hL hL))))))))
def zIy : zIJ := ⟨137, [str [112, 114, 111, 99, 32, 102, 40, 120, 58, 32, 105, 110, 116, 41, 58, 32, 105, 110, 116, 32, 123, 32, 114, 101, 116, 117, 114, 110, 32, 54, 32, 47, 32, 120, 59, 32, 125]], .tup [.sl 4 [[int 1, int 0, int 0, int 4], [int 0, int 4, int 5, int 6], [int 3, int 6, int 6, int 7], [int 0, int 7, int 7, int 8], [int 3, int 8, int 8, int 9], [int 1, int 9, int 10, int 13], [int 3, int 13, int 13, int 14], [int 3, int 14, int 14, int 15], [int 1, int 15, int 16, int 19], [int 3, int 19, int 20, int 21], [int 1, int 21, int 22, int 28], [int 2, int 28, int 29, int 30], [int 3, int 30, int 31, int 32], [int 0, int 32, int 33, int 34], [int 3, int 34, int 34, int 35], [int 3, int 35, int 36, int 37], [int 5, int 37, int 37, int 37]], int 0]⟩
theorem zIx : zCZ Tryz.prog zIy :=
 zBX (l := []) (fun q hq => by simp at hq)
  zCq (m := 200) (d := 60) (by kernel_rfl) (by kernel_rfl) (by kernel_rfl)
def zGR : zIJ := ⟨51, [str [112, 114, 111, 99, 32, 102, 40, 120, 58, 32, 105, 110, 116, 41, 58, 32, 105, 110, 116, 32, 123, 32, 114, 101, 116, 117, 114, 110, 32, 54, 32, 47, 32, 120, 59, 32, 125]], .tup [.agg [int 2, str [], int 0, int 37, .sl 5 [[int 5, str [102], int 0, int 37, .sl 5 [[int 6, str [], int 6, int 14, .sl 5 [[int 7, str [120], int 7, int 13, .sl 5 [[int 9, str [105, 110, 116], int 10, int 13, .sl 5 []]]]]], [int 9, str [105, 110, 116], int 16, int 19, .sl 5 []], [int 11, str [], int 20, int 37, .sl 5 [[int 17, str [], int 22, int 35, .sl 5 [[int 29, str [47], int 29, int 34, .sl 5 [[int 24, str [54], int 29, int 30, .sl 5 []], [int 20, str [120], int 33, int 34, .sl 5 []]]]]]]]]]]], .sl 5 [], int 0]⟩
theorem zHu : zCZ Tryz.prog zGR :=
 zBX (l := [zIy]) (fun q hq => by
  simp only [zX5, zYU, or_false] at hq
  subst hq; exact zIx)
  zCq (m := 200) (d := 60) (by kernel_rfl) (by kernel_rfl) (by kernel_rfl)
def zD0 : zIJ := ⟨148, [.agg [int 2, str [], int 0, int 37, .sl 5 [[int 5, str [102], int 0, int 37, .sl 5 [[int 6, str [], int 6, int 14, .sl 5 [[int 7, str [120], int 7, int 13, .sl 5 [[int 9, str [105, 110, 116], int 10, int 13, .sl 5 []]]]]], [int 9, str [105, 110, 116], int 16, int 19, .sl 5 []], [int 11, str [], int 20, int 37, .sl 5 [[int 17, str [], int 22, int 35, .sl 5 [[int 29, str [47], int 29, int 34, .sl 5 [[int 24, str [54], int 29, int 30, .sl 5 []], [int 20, str [120], int 33, int 34, .sl 5 []]]]]]]]]]]]], bool true⟩
theorem zDb : zCZ Tryz.prog zD0 :=
 zBX (l := []) (fun q hq => by simp at hq)
  zCq (m := 200) (d := 60) (by kernel_rfl) (by kernel_rfl) (by kernel_rfl)
def zDF : zIJ := ⟨150, [.agg [int 2, str [], int 0, int 37, .sl 5 [[int 5, str [102], int 0, int 37, .sl 5 [[int 6, str [], int 6, int 14, .sl 5 [[int 7, str [120], int 7, int 13, .sl 5 [[int 9, str [105, 110, 116], int 10, int 13, .sl 5 []]]]]], [int 9, str [105, 110, 116], int 16, int 19, .sl 5 []], [int 11, str [], int 20, int 37, .sl 5 [[int 17, str [], int 22, int 35, .sl 5 [[int 29, str [47], int 29, int 34, .sl 5 [[int 24, str [54], int 29, int 30, .sl 5 []], [int 20, str [120], int 33, int 34, .sl 5 []]]]]]]]]]]]], .sl 2 []⟩
theorem zDE : zCZ Tryz.prog zDF :=
 zBX (l := [zD0]) (fun q hq => by
  simp only [zX5, zYU, or_false] at hq
  subst hq; exact zDb)
  zCq (m := 200) (d := 60) (by kernel_rfl) (by kernel_rfl) (by kernel_rfl)
def zE5 : zIJ := ⟨104, [.agg [int 2, str [], int 0, int 37, .sl 5 [[int 5, str [102], int 0, int 37, .sl 5 [[int 6, str [], int 6, int 14, .sl 5 [[int 7, str [120], int 7, int 13, .sl 5 [[int 9, str [105, 110, 116], int 10, int 13, .sl 5 []]]]]], [int 9, str [105, 110, 116], int 16, int 19, .sl 5 []], [int 11, str [], int 20, int 37, .sl 5 [[int 17, str [], int 22, int 35, .sl 5 [[int 29, str [47], int 29, int 34, .sl 5 [[int 24, str [54], int 29, int 30, .sl 5 []], [int 20, str [120], int 33, int 34, .sl 5 []]]]]]]]]]]]], .tup [.sl 8 [[int 0, int 1, int 0, int 1, int 0, str [], int 16, int 19], [int 0, int 3, int 0, int 1, int 0, str [], int 10, int 13], [int 1, int 8, int 1, int 0, int 0, str [], int 22, int 35], [int 0, int 9, int 0, int 1, int 0, str [], int 29, int 30], [int 0, int 10, int 0, int 1, int 0, str [], int 33, int 34], [int 0, int 8, int 0, int 1, int 0, str [], int 29, int 34], [int 0, int 9, int 0, int 1, int 0, str [], int 29, int 30], [int 1, int 10, int 3, int 0, int 0, str [], int 33, int 34]], int 0]⟩
theorem zF9 : zCZ Tryz.prog zE5 :=
 zBX (l := [zD0, zDF]) (fun q hq => by
  simp only [zX5, zYU, or_false] at hq
  rcases hq with rfl | rfl
  ·exact zDb
  ·exact zDE)
  zCq (m := 200) (d := 60) (by kernel_rfl) (by kernel_rfl) (by kernel_rfl)
def zGQ : zIJ := ⟨105, [int 11, .sl 8 [[int 0, int 1, int 0, int 1, int 0, str [], int 16, int 19], [int 0, int 3, int 0, int 1, int 0, str [], int 10, int 13], [int 1, int 8, int 1, int 0, int 0, str [], int 22, int 35], [int 0, int 9, int 0, int 1, int 0, str [], int 29, int 30], [int 0, int 10, int 0, int 1, int 0, str [], int 33, int 34], [int 0, int 8, int 0, int 1, int 0, str [], int 29, int 34], [int 0, int 9, int 0, int 1, int 0, str [], int 29, int 30], [int 1, int 10, int 3, int 0, int 0, str [], int 33, int 34]]], .tup [.sl 3 [[int 0, int 0, str []], [int 1, int 0, str []], [int 0, int 0, str []], [int 1, int 0, str []], [int 0, int 0, str []], [int 0, int 0, str []], [int 0, int 0, str []], [int 0, int 0, str []], [int 1, int 0, str []], [int 1, int 0, str []], [int 1, int 0, str []]], .sl 1 [], int 0]⟩
theorem zHt : zCZ Tryz.prog zGQ :=
 zBX (l := []) (fun q hq => by simp at hq)
  zCq (m := 200) (d := 60) (by kernel_rfl) (by kernel_rfl) (by kernel_rfl)
def zIw : zIJ := ⟨52, [.agg [int 2, str [], int 0, int 37, .sl 5 [[int 5, str [102], int 0, int 37, .sl 5 [[int 6, str [], int 6, int 14, .sl 5 [[int 7, str [120], int 7, int 13, .sl 5 [[int 9, str [105, 110, 116], int 10, int 13, .sl 5 []]]]]], [int 9, str [105, 110, 116], int 16, int 19, .sl 5 []], [int 11, str [], int 20, int 37, .sl 5 [[int 17, str [], int 22, int 35, .sl 5 [[int 29, str [47], int 29, int 34, .sl 5 [[int 24, str [54], int 29, int 30, .sl 5 []], [int 20, str [120], int 33, int 34, .sl 5 []]]]]]]]]]]]], .tup [.agg [int 2, str [], int 0, int 37, .sl 5 [[int 5, str [102], int 0, int 37, .sl 5 [[int 6, str [], int 6, int 14, .sl 5 [[int 7, str [120], int 7, int 13, .sl 5 [[int 9, str [105, 110, 116], int 10, int 13, .sl 5 []]]]]], [int 9, str [105, 110, 116], int 16, int 19, .sl 5 []], [int 11, str [], int 20, int 37, .sl 5 [[int 17, str [], int 22, int 35, .sl 5 [[int 29, str [47], int 29, int 34, .sl 5 [[int 24, str [54], int 29, int 30, .sl 5 []], [int 20, str [120], int 33, int 34, .sl 5 []]]]]]]]]]], .sl 3 [[int 0, int 0, str []], [int 0, int 0, str []], [int 0, int 0, str []], [int 0, int 0, str []], [int 0, int 0, str []], [int 0, int 0, str []], [int 0, int 0, str []], [int 0, int 0, str []], [int 1, int 0, str []], [int 1, int 0, str []], [int 1, int 0, str []]], .sl 1 [[int (-1)], [int (-1)], [int (-1)], [int 0], [int (-1)], [int (-1)], [int (-1)], [int (-1)], [int (-1)], [int (-1)], [int 0]], .sl 2 [], .sl 9 [[str [102], int 1, int 1, int 1, int 0, str [], .sl 8 [[str [120], int 1, int 0, str [], int 0, int 3, bool false, bool false]], int 1, zAg]]], zAg, int 0]⟩
theorem zIv : zCZ Tryz.prog zIw :=
 zBX (l := [zD0, zDF, zE5, zGQ]) (fun q hq => by
  simp only [zX5, zYU, or_false] at hq
  rcases hq with rfl | rfl | rfl | rfl
  ·exact zDb
  ·exact zDE
  ·exact zF9
  ·exact zHt)
  zCq (m := 200) (d := 60) (by kernel_rfl) (by kernel_rfl) (by kernel_rfl)
def ch10_Check : zIJ := ⟨24, [str [112, 114, 111, 99, 32, 102, 40, 120, 58, 32, 105, 110, 116, 41, 58, 32, 105, 110, 116, 32, 123, 32, 114, 101, 116, 117, 114, 110, 32, 54, 32, 47, 32, 120, 59, 32, 125]], .tup [.agg [int 2, str [], int 0, int 37, .sl 5 [[int 5, str [102], int 0, int 37, .sl 5 [[int 6, str [], int 6, int 14, .sl 5 [[int 7, str [120], int 7, int 13, .sl 5 [[int 9, str [105, 110, 116], int 10, int 13, .sl 5 []]]]]], [int 9, str [105, 110, 116], int 16, int 19, .sl 5 []], [int 11, str [], int 20, int 37, .sl 5 [[int 17, str [], int 22, int 35, .sl 5 [[int 29, str [47], int 29, int 34, .sl 5 [[int 24, str [54], int 29, int 30, .sl 5 []], [int 20, str [120], int 33, int 34, .sl 5 []]]]]]]]]]], .sl 3 [[int 0, int 0, str []], [int 0, int 0, str []], [int 0, int 0, str []], [int 0, int 0, str []], [int 0, int 0, str []], [int 0, int 0, str []], [int 0, int 0, str []], [int 0, int 0, str []], [int 1, int 0, str []], [int 1, int 0, str []], [int 1, int 0, str []]], .sl 1 [[int (-1)], [int (-1)], [int (-1)], [int 0], [int (-1)], [int (-1)], [int (-1)], [int (-1)], [int (-1)], [int (-1)], [int 0]], .sl 2 [], .sl 9 [[str [102], int 1, int 1, int 1, int 0, str [], .sl 8 [[str [120], int 1, int 0, str [], int 0, int 3, bool false, bool false]], int 1, zAg]]], .sl 0 [], int 0]⟩
theorem zHs : zCZ Tryz.prog ch10_Check :=
 zBX (l := [zGR, zIw]) (fun q hq => by
  simp only [zX5, zYU, or_false] at hq
  rcases hq with rfl | rfl
  ·exact zHu
  ·exact zIv)
  zCq (m := 200) (d := 60) (by kernel_rfl) (by kernel_rfl) (by kernel_rfl)
def zIu : zIJ := ⟨25, [.agg [int 2, str [], int 0, int 37, .sl 5 [[int 5, str [102], int 0, int 37, .sl 5 [[int 6, str [], int 6, int 14, .sl 5 [[int 7, str [120], int 7, int 13, .sl 5 [[int 9, str [105, 110, 116], int 10, int 13, .sl 5 []]]]]], [int 9, str [105, 110, 116], int 16, int 19, .sl 5 []], [int 11, str [], int 20, int 37, .sl 5 [[int 17, str [], int 22, int 35, .sl 5 [[int 29, str [47], int 29, int 34, .sl 5 [[int 24, str [54], int 29, int 30, .sl 5 []], [int 20, str [120], int 33, int 34, .sl 5 []]]]]]]]]]], .sl 3 [[int 0, int 0, str []], [int 0, int 0, str []], [int 0, int 0, str []], [int 0, int 0, str []], [int 0, int 0, str []], [int 0, int 0, str []], [int 0, int 0, str []], [int 0, int 0, str []], [int 1, int 0, str []], [int 1, int 0, str []], [int 1, int 0, str []]], .sl 1 [[int (-1)], [int (-1)], [int (-1)], [int 0], [int (-1)], [int (-1)], [int (-1)], [int (-1)], [int (-1)], [int (-1)], [int 0]], .sl 2 [], .sl 9 [[str [102], int 1, int 1, int 1, int 0, str [], .sl 8 [[str [120], int 1, int 0, str [], int 0, int 3, bool false, bool false]], int 1, zAg]]]], .tup [.agg [.sl 6 [[str [102], int 1, int 1, int 1, zAg, .sl 5 [[int 0, int 6, int 0, zAg, zAg], [int 1, int 0, int 0, zAg, zAg], [int 8, int 0, int 0, zAg, zAg], [int 21, int 0, int 0, zAg, zAg]]]]], int 0]⟩
theorem zF8 : zCZ Tryz.prog zIu :=
 zBX (l := []) (fun q hq => by simp at hq)
  zCq (m := 200) (d := 60) (by kernel_rfl) (by kernel_rfl) (by kernel_rfl)
set_option linter.unusedVariables false
theorem zSc {sz : Nat} {xs ys : List (List AV)} (hl : xs.length = ys.length) (h : ∀ (i : Nat) (x y : List AV), xs[i]? = some x → ys[i]? = some y → x.length = y.length ∧ ∀ (j : Nat) (a b : AV), x[j]? = some a → y[j]? = some b → AV.Le a b) : AV.Le (.sl sz xs) (.sl sz ys) := fun w M ρ n v hv => by
 have row : ∀ (i : Nat) (y : List AV), ys[i]? = some y → ∃ x, xs[i]? = some x ∧ x.length = y.length ∧ ∀ (j : Nat) (a b : AV), x[j]? = some a → y[j]? = some b → AV.Le a b := fun i y hy => by
  have hi : i < xs.length := by rw [hl]; exact (zXA.1 hy).1
  exact ⟨xs[i], zXP hi, h i _ y (zXP hi) hy⟩
 cases hv with
 | slE =>
  match ys, hl with
  | [], _ => exact .slE _ _ _ _
 | slN _ _ _ b o cap c hm hb hcap hsz hcell hrep =>
  rw [hl]
  have cell : ∀ (i j : Nat) (y : List AV) (b' : AV), ys[i]? = some y → y[j]? = some b' → ∃ x a, xs[i]? = some x ∧ x[j]? = some a ∧ AV.Le a b' := fun i j y b' hy hb' => by
   obtain ⟨x, hx, hxl, hxx⟩ := row i y hy
   have hj : j < x.length := by rw [hxl]; exact (zXA.1 hb').1
   exact ⟨x, x[j], hx, zXP hj, hxx j _ b' (zXP hj) hb'⟩
  refine .slN _ _ _ b o cap c hm hb (by omega) (fun y hy => ?_) (fun i j y b' hy hb' => ?_) (fun i j y b' hy hb' => ?_)
  ·obtain ⟨i, hi, rfl⟩ := zYB.1 hy
   obtain ⟨x, hx, hxl, _⟩ := row i _ (zXP hi)
   rw [← hxl]
   exact hsz x (zXW hx)
  ·obtain ⟨x, a, hx, ha, _⟩ := cell i j y b' hy hb'
   exact hcell i j x a hx ha
  ·obtain ⟨x, a, hx, ha, hle⟩ := cell i j y b' hy hb'
   exact hle _ _ _ _ _ (hrep i j x a hx ha)
def RowLe (x y : List AV) : Prop := x.length = y.length ∧ ∀ (j : Nat) (a b : AV), x[j]? = some a → y[j]? = some b → AV.Le a b
theorem RowLe.nil : RowLe [] [] := ⟨rfl, fun j a b h => by simp at h⟩
theorem RowLe.cons {a b : AV} {x y : List AV} (h : AV.Le a b) (h2 : RowLe x y) : RowLe (a :: x) (b :: y) := ⟨by simp [h2.1], fun j c d hc hd => by
 match j with
 | 0 => simp only [zYh, zXt] at hc hd; subst hc; subst hd; exact h
 | j + 1 => exact h2.2 j c d (by simpa using hc) (by simpa using hd)⟩
theorem RowLe.same {a : AV} {x y : List AV} (h2 : RowLe x y) : RowLe (a :: x) (a :: y) := .cons (AV.Le.refl a) h2
inductive RowsLe : List (List AV) → List (List AV) → Prop
 | nil : RowsLe [] []
 | cons {x y : List AV} {l m : List (List AV)} : RowLe x y → RowsLe l m → RowsLe (x :: l) (y :: m)
theorem RowsLe.sl {sz : Nat} {l m : List (List AV)} (h : RowsLe l m) : AV.Le (.sl sz l) (.sl sz m) := by
 have hl : l.length = m.length := by induction h with
  | nil => rfl
  | cons _ _ ih => simp [ih]
 refine zSc hl fun i x y hx hy => ?_
 clear hl
 induction h generalizing i with
 | nil => simp at hx
 | cons h1 _ ih =>
  match i with
  | 0 => simp only [zYh, zXt] at hx hy; subst hx; subst hy; exact h1
  | i + 1 => exact ih i (by simpa using hx) (by simpa using hy)
theorem zNm {x y : AV} (h : AV.Le x y) : AV.Le (.agg [x]) (.agg [y]) := AV.Le.agg rfl fun i a b ha hb => by
 match i with
 | 0 => simp only [zYh, zXt] at ha hb; subst ha; subst hb; exact h
 | i + 1 => simp at ha
theorem zSY (f : Int) (l : List Int) (hl : l.length ≤ 1048576) (H : zC) : zAe 22 [.agg [int f, .sl 1 (l.map iR)], .agg [int f, .sl 1 (l.map iR)]] H (bool true) := by
 refine ACall.drop (R := fun x => x = bool true) ?_
 have cI := fun H => zUl l l (by unfold big; omega) H
 refine enter Tryz.func22 L22_ok (zXs rfl) ?_
 rw [show decide (l = l) = true from zXU rfl] at cI
 repeat' (first | (refine zXx (by omega) ?_) | (refine zA (cI _) ?_) | (refine zN (cI _) (by first | rfl | simp only [L22, zB, zG, zH, zI, zZ, zU, zAB, zAv, zAA, zAz, zAs, zCN, zY, splice, zXv, zXw, zF, push_cast, simprocAttr, ↓reduceIte]) ?_) | (refine zE (cI _) ?_) | (refine zBy (cI _) ?_) | (refine zAG (cI _) ?_) | simp -implicitDefEqProofs (disch := omega) only [L22, zB, zG, zH, zI, zZ, zU, zAB, zAv, zAA, zAz, zAs, zCN, zY, splice, zXv, zXw, zF, zO, zT, zAd, zAn, zAi, zX, push_cast, simprocAttr, ↓reduceIte, zXq] | split)
 exact ⟨_, rfl⟩
def ps0 : List Pr := [⟨[102], 1, 1, 1, [], [.mk 0 6 0 [] [], .mk 1 0 0 [] [], .mk 8 0 0 [] [], .mk 21 0 0 [] []]⟩]
theorem zLP : zBt ps0 := by
 refine ⟨by decide, fun k hk => ?_⟩
 have hk : k < 1 := hk
 obtain rfl : k = 0 := by omega
 refine ⟨⟨by kernel_rfl, fun j hj => by omega⟩, ?_, ?_, ?_, ?_⟩
 ·simp [zCk, ps0]
 ·simp [ps0, zA3, zM, zBs]
 ·simp [ps0, zAy, zCz]
 ·simp [ps0, zBl, zB1, zCo, zW, chg]
  rfl
theorem zTo : zEY ps0 0 4 0 [0] where
 hw := by decide
 hl := by decide
 hv := zLP
 hp := by decide
 hc := by simp [zET, zBi, zA5, zIs, ps0]; omega
 hn := by simp [ps0]
 hi := by intro v hv; simp only [zYL] at hv; subst hv; decide
theorem zWo : zD3 ps0 0 4 0 [0] = (1, [], 0, 2, 0) := by
 unfold zD3
 rw [if_pos zTo]
 have h : (zCQ ps0 4 0 ((0 : Int).toNat + 1) (0 : Int).toNat [0] 0).1 = .flt 1 0 2 := by
  simp [zCQ, ps0, exL, exI, exS, zRU, zDH, fin, zCG, St.tick, St.push, St.pop, St.top, zBs, zM]
 rw [h]
def ckC : List AV := match ch10_Check.x with
 | .tup (.agg cs :: _) => cs
 | _ => []
def cdR : List (List AV) := [[str [102], int 1, int 1, int 1, zAg, .sl 5 [[int 0, int 6, int 0, zAg, zAg], [int 1, int 0, int 0, zAg, zAg], [int 8, int 0, int 0, zAg, zAg], [int 21, int 0, int 0, zAg, zAg]]]]
theorem zUN : AV.Le (.agg [.sl 6 cdR]) (.agg [zAM ps0]) :=
 zNm (RowsLe.sl (.cons (.same (.same (.same (.same (.cons (AV.Le.nil 1) (.cons (RowsLe.sl (.cons (.same (.same (.same (.cons (AV.Le.nil 5) (.cons (AV.Le.nil 5) .nil)))))
  (.cons (.same (.same (.same (.cons (AV.Le.nil 5) (.cons (AV.Le.nil 5) .nil))))) (.cons (.same (.same (.same (.cons (AV.Le.nil 5) (.cons (AV.Le.nil 5) .nil)))))
  (.cons (.same (.same (.same (.cons (AV.Le.nil 5) (.cons (AV.Le.nil 5) .nil))))) .nil))))) .nil)))))) .nil))
theorem zOL : ∃ cs : List AV, (∀ H, zAe 24 [str [112, 114, 111, 99, 32, 102, 40, 120, 58, 32, 105, 110, 116, 41, 58, 32, 105, 110, 116, 32, 123, 32, 114, 101, 116, 117, 114, 110, 32, 54, 32, 47, 32, 120, 59, 32, 125]] H (.tup [.agg cs, .sl 0 [], int 0])) ∧
  (∀ H, zAe 25 [.agg cs] H (.tup [.agg [.sl 6 cdR], int 0])) ∧ cs.length = 9 ∧ c1s cs = true ∧ clL cs = true ∧ cs.take 9 = cs :=
 ⟨ckC, fun H => zHs H, fun H => zF8 H, rfl, rfl, rfl, rfl⟩
theorem zMF (H : zC) : zAe 17 [.agg [.sl 6 cdR], int 0, .agg [int 4, int 0], .sl 1 [[int 0]]] H (.tup [.agg [int 1, .sl 1 []], int 0, int 2, int 0]) := by
 have h := zS0 ps0 ⟨by simp [ps0], by simp [ps0, zA3, zM, zBs], fun q hq => by
  simp only [ps0, zYL] at hq
  subst hq
  exact ⟨by simp, by simp, by simp [zM, zBs]⟩⟩ 0 4 0 (by unfold zBP; omega) [0] (by simp) (by simp [zBP]) H
 rw [zWo] at h
 refine ACall.args h rfl fun i x y hx hy => ?_
 match i with
 | 0 => simp only [zYh, zXt] at hx hy; subst hx; subst hy; exact zUN
 | 1 => cases hx; cases hy; exact AV.Le.refl _
 | 2 => cases hx; cases hy; exact AV.Le.refl _
 | 3 => cases hx; cases hy; exact AV.Le.refl _
 | i + 4 => simp at hx
theorem zIm (H : zC) : zAe 22 [.agg [int 1, .sl 1 []], .agg [int 1, zAg]] H (bool true) := by
 refine ACall.args (zSY 1 [] (by simp) H) rfl fun i x y hx hy => ?_
 match i with
 | 0 => cases hx; cases hy; exact AV.Le.refl _
 | 1 =>
  cases hx; cases hy
  refine AV.Le.agg rfl fun j a b ha hb => ?_
  match j with
  | 0 => cases ha; cases hb; exact AV.Le.refl _
  | 1 => cases ha; cases hb; exact AV.Le.nil 1
  | j + 2 => simp at ha
 | i + 2 => simp at hx
theorem zF0 (H : zC) : zAe 9 [int 4, int 6, .sl 1 [[int 5], [int 1], [int 3]]] H (.tup [.sl 1 [[int 5], [int (-2)]], int 0, int 0]) := by
 have h := zUY 4 6 [5, 1, 3] (by simp) H
 rw [zKm (by decide) (by decide) (by decide) (by decide)] at h
 exact h
theorem zM7 (H : zC) : zAe 8 [] H (bool true) := by
 refine ACall.drop (R := fun x => x = bool true) ?_
 refine enter Tryz.func8 L8_ok (zXs rfl) ?_
 obtain ⟨cs, c1, c2, k1, k2, k3, k4⟩ := zOL
 have cI := fun H => zUl [5, -2] [5, -2] (by unfold big; simp) H
 repeat' (first | (refine zXx (by omega) ?_) | (refine zA (c1 _) ?_) | (refine zA (c2 _) ?_) | (refine zA (zMF _) ?_) | (refine zA (zIm _) ?_) | (refine zA (zF0 _) ?_) | (refine zA (cI _) ?_) | (refine zN (c1 _) (by first | rfl | simp only [L8, k1, k2, k3, k4, zB, zG, zH, zI, zZ, zU, zAB, zAv, zAA, zAz, zAs, zCN, zY, splice, zXv, zXw, zAc, zF, rBuild, fillA, push_cast, simprocAttr, ↓reduceIte]) ?_) | (refine zN (c2 _) (by first | rfl | simp only [L8, k1, k2, k3, k4, zB, zG, zH, zI, zZ, zU, zAB, zAv, zAA, zAz, zAs, zCN, zY, splice, zXv, zXw, zAc, zF, rBuild, fillA, push_cast, simprocAttr, ↓reduceIte]) ?_) | (refine zN (zMF _) (by first | rfl | simp only [L8, k1, k2, k3, k4, zB, zG, zH, zI, zZ, zU, zAB, zAv, zAA, zAz, zAs, zCN, zY, splice, zXv, zXw, zAc, zF, rBuild, fillA, push_cast, simprocAttr, ↓reduceIte]) ?_) | (refine zN (zIm _) (by first | rfl | simp only [L8, k1, k2, k3, k4, zB, zG, zH, zI, zZ, zU, zAB, zAv, zAA, zAz, zAs, zCN, zY, splice, zXv, zXw, zAc, zF, rBuild, fillA, push_cast, simprocAttr, ↓reduceIte]) ?_) | (refine zN (zF0 _) (by first | rfl | simp only [L8, k1, k2, k3, k4, zB, zG, zH, zI, zZ, zU, zAB, zAv, zAA, zAz, zAs, zCN, zY, splice, zXv, zXw, zAc, zF, rBuild, fillA, push_cast, simprocAttr, ↓reduceIte]) ?_) | (refine zN (cI _) (by first | rfl | simp only [L8, k1, k2, k3, k4, zB, zG, zH, zI, zZ, zU, zAB, zAv, zAA, zAz, zAs, zCN, zY, splice, zXv, zXw, zAc, zF, rBuild, fillA, push_cast, simprocAttr, ↓reduceIte]) ?_) | (refine zE (c1 _) ?_) | (refine zE (c2 _) ?_) | (refine zE (zMF _) ?_) | (refine zE (zIm _) ?_) | (refine zE (zF0 _) ?_) | (refine zE (cI _) ?_) | (refine zBy (c1 _) ?_) | (refine zBy (c2 _) ?_) | (refine zBy (zMF _) ?_) | (refine zBy (zIm _) ?_) | (refine zBy (zF0 _) ?_) | (refine zBy (cI _) ?_) | (refine zAG (c1 _) ?_) | (refine zAG (c2 _) ?_) | (refine zAG (zMF _) ?_) | (refine zAG (zIm _) ?_) | (refine zAG (zF0 _) ?_) | (refine zAG (cI _) ?_) | simp -implicitDefEqProofs (disch := omega) only [L8, k1, k2, k3, k4, zB, zG, zH, zI, zZ, zU, zAB, zAv, zAA, zAz, zAs, zCN, zY, splice, zXv, zXw, zAc, zF, rBuild, fillA, zO, zT, zAd, zAn, zAi, zX, push_cast, simprocAttr, ↓reduceIte, zXq] | split)
 exact ⟨_, rfl⟩
section
variable {C : Cx} {known : List Int}
theorem iteP {α : Type} {P : α → Prop} {c : Prop} [Decidable c] {x y : α} (h1 : c → P x) (h2 : P y) : P (if c then x else y) := by
 split
 ·rename_i h; exact h1 h
 ·exact h2
end
theorem zJa {xs : List AV} (h : Val Tryz.prog 33 xs) : ∃ w L : Int, xs = [int w, int L] := by
 obtain ⟨hl, hf⟩ := zHI Tryz.underlying33 zOE h
 obtain ⟨x0, x1, rfl⟩ : ∃ a b, xs = [a, b] := by
  match xs, hl with
  | [a, b], _ => exact ⟨a, b, rfl⟩
 obtain ⟨x, hx, hx'⟩ := zCt Tryz.underlying3 (zBR hf 0 3 0 1 rfl zEb)
 obtain ⟨y, hy, hy'⟩ := zCt Tryz.underlying3 (zBR hf 1 3 1 1 rfl zEb)
 simp only [zXv, zXw, zYM, zY4, zX0, and_true] at hx hy
 subst hx; subst hy
 exact ⟨x, y, rfl⟩
theorem zUi (ps : List Pr) (hs : zB0 ps) (p w L : Int) (H : zC) : ∃ b, zAe 12 [.agg [zAM ps], int p, .agg [int w, int L]] H (bool b) ∧ (b = true → ∀ n, zBC ps p L = .tup [int n, int 0] → n ≤ 100000) := by
 obtain ⟨b, cS⟩ := zQt ps hs (H ++ [HO.box [zAM ps], HO.box [int w, int L]])
 have cC := fun H => zPy ps hs p L H
 have hcA : ∃ n e, zBC ps p L = .tup [int n, int e] := by
  unfold zBC
  repeat' (refine iteP (P := fun r : AV => ∃ n e, r = .tup [int n, int e]) (fun h => ?_) ?_)
  all_goals exact ⟨_, _, rfl⟩
 obtain ⟨n, e, hcA⟩ := hcA
 rw [hcA] at cC
 refine ⟨b && (!decide (e = 0) || decide (n ≤ 100000)), ?_, ?_⟩
 ·refine ACall.drop (R := fun x => x = bool (b && (!decide (e = 0) || decide (n ≤ 100000)))) ?_
  refine enter Tryz.func12 L12_ok (zXs rfl) ?_
  cases b with
  | false =>
   simp only [zZX]
   repeat' (first | refine zA (cC _) ?_ | refine zA (cS) ?_ | simp -implicitDefEqProofs (disch := omega) only [L12, zY, zXv, zXw, zF, push_cast, simprocAttr, ↓reduceIte, zXq])
   all_goals first | exact ⟨_, rfl⟩ | exact zJk
  | true =>
   simp only [zZF]
   by_cases he : e = 0
   ·subst he
    by_cases hn : n ≤ 100000
    ·rw [show (!decide ((0 : Int) = 0) || decide (n ≤ 100000)) = true by simp [hn]]
     repeat' (first | refine zA (cC _) ?_ | refine zA (cS) ?_ | simp -implicitDefEqProofs (disch := omega) only [L12, zY, zXv, zXw, zF, zAd, push_cast, simprocAttr, ↓reduceIte, zXq])
     all_goals first | exact ⟨_, rfl⟩ | exact zJk
    ·rw [show (!decide ((0 : Int) = 0) || decide (n ≤ 100000)) = false by simp [hn]]
     repeat' (first | refine zA (cC _) ?_ | refine zA (cS) ?_ | simp -implicitDefEqProofs (disch := omega) only [L12, zY, zXv, zXw, zF, zAn, push_cast, simprocAttr, ↓reduceIte, zXq])
     all_goals first | exact ⟨_, rfl⟩ | exact zJk
   ·rw [show (!decide (e = 0) || decide (n ≤ 100000)) = true by simp [he]]
    repeat' (first | refine zA (cC _) ?_ | refine zA (cS) ?_ | simp -implicitDefEqProofs (disch := omega) only [L12, zY, zXv, zXw, zF, zX, push_cast, simprocAttr, ↓reduceIte, zXq])
    all_goals first | exact ⟨_, rfl⟩ | exact zJk
 ·intro hb m hm
  rw [hcA] at hm
  simp only [AV.tup.injEq, zX0, AV.v.injEq, Value.int.injEq, true_and, and_true] at hm
  obtain ⟨rfl, rfl⟩ := hm
  simp only [zXE, zYS, zYA, zXQ, not_true_eq_false, zXB, false_or] at hb
  exact hb.2
theorem zNT {ps : List Pr} {p w L : Int} {inp : List Int} (h : zEY ps p w L inp) : zVW ps w p.toNat (zCQ ps w L (p.toNat + 1) p.toNat inp 0) :=
 zG9 h.hw h.hv _ _ _ _ (by omega) (by have := h.hp; omega) h.hn h.hi
theorem zNS (ps : List Pr) (p w L : Int) (inp : List Int) : (zD3 ps p w L inp).2.1.length ≤ 128 := by
 unfold zD3
 split
 ·rename_i h
  have hok := zNT h
  cases hr : zCQ ps w L (p.toNat + 1) p.toNat inp 0 with
  | mk r c =>
  rw [hr] at hok
  cases r with
  | ok out =>
   have h1 := h.hv.2 p.toNat (by have := h.hp; omega)
   obtain ⟨_, _, _, _, g5, g6, _⟩ := h1.2.1
   have := (zDO (q := ps.getD p.toNat default) g5 g6).2
   have := hok.1
   simp only
   omega
  | flt f q a => simp
 ·simp
section
variable (ps : List Pr) (hs : zB0 ps) (p w L : Int) (hp : zBP p) (inp : List Int) (hi : ∀ v ∈ inp, zBP v) (H : zC)
include hs hp hi
theorem zJd : zAe 6 [.agg [zAM ps], int p, .agg [int w, int L], .sl 1 (inp.map iR)] H (bool true) := by
 refine ACall.drop (R := fun x => x = bool true) ?_
 refine enter Tryz.func6 L6_ok (zXs rfl) ?_
 obtain ⟨b, cL, hb⟩ := zUi ps hs p w L (H ++ [HO.box [zAM ps], HO.box [int w, int L]])
 cases b with
 | false =>
  repeat' (first | refine zA (cL) ?_ | refine zA (zM7 _) ?_ | simp -implicitDefEqProofs (disch := omega) only [L6, zY, zXw, zF, push_cast, simprocAttr, ↓reduceIte, zXq])
  all_goals first | exact ⟨_, rfl⟩ | exact zJk
 | true =>
  by_cases h60 : inp.length ≤ 60
  ·have c1 := fun H => zS0 ps hs p w L hp inp (by omega) hi H
   have c2 := fun H => zQw ps hs p w L hp inp (by omega) hi H
   have c3 := fun H => zW8 ps hs p w L hp inp (by omega) hi H
   have c4 := fun H => zRH ps hs p w L hp inp (by omega) hi H
   have hl := zNS ps p w L inp
   generalize zD3 ps p w L inp = V at *
   generalize zK7 ps p w L inp = W at *
   obtain ⟨f, out, q, a, e⟩ := V
   obtain ⟨n, m⟩ := W
   have c5 := fun H => zSY f out (by simp only at hl; omega) H
   clear hl hb
   repeat' (first | refine zA (cL) ?_ | refine zA (c1 _) ?_ | refine zA (c2 _) ?_ | refine zA (c3 _) ?_ | refine zA (c4 _) ?_ | refine zA (c5 _) ?_ | refine zA (zM7 _) ?_ | simp -implicitDefEqProofs (disch := omega) only [L6, zKI, zY, splice, zXv, zXw, zAc, zF, zXr, zT, push_cast, simprocAttr, ↓reduceIte, zXq])
   all_goals first | exact ⟨_, rfl⟩ | exact zJk
  ·repeat' (first | refine zA (cL) ?_ | refine zA (zM7 _) ?_ | simp -implicitDefEqProofs (disch := omega) only [L6, zY, zXw, zF, zXr, zO, push_cast, simprocAttr, ↓reduceIte, zXq])
   all_goals first | exact ⟨_, rfl⟩ | exact zJk
end
end Go.Proofs.YtaipgalanpcgoaaGreat
