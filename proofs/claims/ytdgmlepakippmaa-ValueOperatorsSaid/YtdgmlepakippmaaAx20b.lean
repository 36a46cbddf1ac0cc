/- A drawn order in which an operation that makes memory may come early. -/
import Derived.Test.YtdgmlepakippmaaAx20
namespace Go.Ax
open Go Go.RowKit
set_option linter.unusedSimpArgs false
set_option linter.unusedVariables false

section
variable {P : Program} {w w0 : World} {X : Nat → Prop} {ρ ρ0 : Nat → Loc} {H H' ext : AHeap} {e : Env} {a : Act} {n n0 : Nat}

/-- The same but for the objects. -/
def Res.at (r : Res) (H : AHeap) : Res := ⟨r.ok, r.x, H⟩

theorem iBin_at (op : BinOp) (k k' : IntKind) (a b : Int) : iBin op k k' a b H' = (iBin op k k' a b H).at H' := by cases op <;> rfl
theorem sBin_at (op : BinOp) (a b : List UInt8) : sBin op a b H' = (sBin op a b H).at H' := by cases op <;> rfl
theorem eqRes_at (op : BinOp) (p : Prop) (b : Bool) : eqRes op p b H' = (eqRes op p b H).at H' := by cases op <;> rfl
theorem rBin_at (kd : KD) (op : BinOp) (x y : AV) : rBin kd op x y H' = (rBin kd op x y H).at H' := by
  unfold rBin
  split
  · exact iBin_at _ _ _ _ _
  · exact sBin_at _ _ _
  · exact eqRes_at _ _ _
  · cases kd <;> first | rfl | exact eqRes_at _ _ _
  · exact eqRes_at _ _ _
  · exact eqRes_at _ _ _
  · rfl
theorem rNot_at (x : AV) : rNot x H' = (rNot x H).at H' := by unfold rNot; split <;> rfl
theorem rNeg_at (x : AV) : rNeg x H' = (rNeg x H).at H' := by unfold rNeg; split <;> rfl
theorem rFld_at (ag : Bool) (o k : Nat) (x : AV) : rFld ag o k x H' = (rFld ag o k x H).at H' := by unfold rFld; split <;> rfl
theorem rIdx_at (x i : AV) : rIdx x i H' = (rIdx x i H).at H' := by unfold rIdx; split <;> rfl
theorem rExt_at (x : AV) (i : Nat) : rExt x i H' = (rExt x i H).at H' := by unfold rExt; split <;> rfl
theorem rMin_at (x y : AV) : rMin x y H' = (rMin x y H).at H' := by unfold rMin; split <;> rfl
theorem rMax_at (x y : AV) : rMax x y H' = (rMax x y H).at H' := by unfold rMax; split <;> rfl
theorem rBuild_at (zs : List AV) (ps : List (Nat × Nat × AV)) : rBuild zs ps H' = (rBuild zs ps H).at H' := rfl
theorem rBox_at (x : AV) : rBox true x H' = (rBox true x H).at H' := rfl
theorem rBsl_at (sz len : Nat) (zs : List AV) (ps : List (Nat × AV)) : rBsl true sz len zs ps H' = (rBsl true sz len zs ps H).at H' := rfl

theorem get_app {r : Nat} {o : HO} (h : H[r]? = some o) : (H ++ ext)[r]? = some o := by
  rw [List.getElem?_append_left (List.getElem?_eq_some_iff.1 h).1]; exact h
theorem isVer_app {ver r : Nat} (h : isVer ver H[r]?) : (H ++ ext)[r]? = H[r]? := by
  cases hh : H[r]? with
  | none => rw [hh] at h; exact h.elim
  | some o => exact get_app hh
theorem isArr_app {r : Nat} (h : isArr H[r]?) : (H ++ ext)[r]? = H[r]? := by
  cases hh : H[r]? with
  | none => rw [hh] at h; exact h.elim
  | some o => exact get_app hh
theorem isBox_app {r : Nat} (h : isBox H[r]?) : (H ++ ext)[r]? = H[r]? := by
  cases hh : H[r]? with
  | none => rw [hh] at h; exact h.elim
  | some o => exact get_app hh

/-- As it was, in more memory. -/
def More (r r' : Res) (H H' : AHeap) : Prop := r'.ok ∧ r'.x = r.x ∧ (r.H = H → r'.H = H')
theorem More.of_at {r r' : Res} (h : r' = r.at H') (hok : r.ok) : More r r' H H' := by subst h; exact ⟨hok, rfl, fun _ => rfl⟩

theorem rLoadO_at (ag : Bool) (k i off : Nat) (o : Option HO) : rLoadO ag k i off H' o = (rLoadO ag k i off H o).at H' := by unfold rLoadO; split <;> rfl
theorem rLoad_more {ag : Bool} {k : Nat} {p : AV} (h : (rLoad ag k p H).ok) : More (rLoad ag k p H) (rLoad ag k p (H ++ ext)) H (H ++ ext) := by
  cases p <;> simp only [rLoad] at h ⊢ <;> first | exact h.elim | skip
  case vp => exact ⟨h, rfl, fun _ => rfl⟩
  case ptr r ver off => rw [isVer_app h.1.2]; exact .of_at (by rw [rLoadO_at (H := H)]; rfl) h
  case pe r ver i off => rw [isVer_app h.1.2]; exact .of_at (by rw [rLoadO_at (H := H)]; rfl) h
theorem rNil_more {x : AV} (h : (rNil x H).ok) : More (rNil x H) (rNil x (H ++ ext)) H (H ++ ext) := by
  cases x <;> simp only [rNil] at h ⊢ <;> first | exact h.elim | exact ⟨h, rfl, fun _ => rfl⟩ | skip
  case fn f a b => cases f <;> simp only [rNil] at h ⊢ <;> first | exact h.elim | exact ⟨h, rfl, fun _ => rfl⟩
  case ptr r ver off => rw [isVer_app h]; exact ⟨h, rfl, fun _ => rfl⟩
  case pe r ver i off => rw [isVer_app h]; exact ⟨h, rfl, fun _ => rfl⟩
theorem szOk_app {sz : Nat} {x : AV} (h : szOk H sz x) : szOk (H ++ ext) sz x ∧ rowsOf (H ++ ext) x = rowsOf H x := by
  cases x
  case os r ver off len =>
    simp only [szOk] at h ⊢
    split at h
    · rename_i v s xs hh
      rw [get_app hh]
      exact ⟨h, by simp only [rowsOf, osRows, hh, get_app (ext := ext) hh]⟩
    · exact h.elim
  case v u =>
    cases u <;> first | exact ⟨h, rfl⟩ | skip
    case slice a l c => cases a <;> cases l <;> cases c <;> first | exact ⟨h, rfl⟩ | exact h.elim
  all_goals exact ⟨h, rfl⟩
theorem rConv_more {c : Cv} {x : AV} (h : (rConv c x H).ok) : More (rConv c x H) (rConv c x (H ++ ext)) H (H ++ ext) := by
  have hno : ∀ {r : Res}, r = .no H → r.ok → False := fun h1 h2 => by rw [h1] at h2; exact h2
  have hb : ∀ y : AV, szOk H 1 y ∧ ((rowsOf H y).bind rowBytes).isSome = true → szOk (H ++ ext) 1 y ∧ ((rowsOf (H ++ ext) y).bind rowBytes).isSome = true := fun y hy => by
    have := szOk_app (ext := ext) hy.1
    exact ⟨this.1, by rw [this.2]; exact hy.2⟩
  have hs : ∀ y : AV, szOk H 1 y → (rowsOf (H ++ ext) y) = rowsOf H y := fun y hy => (szOk_app hy).2
  cases c <;> cases x <;> simp only [rConv] at h ⊢ <;> first
    | exact h.elim
    | exact ⟨h, rfl, fun _ => rfl⟩
    | exact ⟨hb _ h, by rw [hs _ h.1], fun _ => rfl⟩
    | skip
  case sameB.os => rw [isArr_app h.2.1]; exact ⟨h, rfl, fun _ => rfl⟩
  all_goals
    rename_i u
    cases u <;> simp only [rConv] at h ⊢ <;> first
      | exact h.elim
      | exact ⟨h, rfl, fun _ => rfl⟩
      | exact ⟨hb _ h, by rw [hs _ h.1], fun _ => rfl⟩
theorem rSlice_more {lk : LK} {k : Nat} {x : AV} {lo hi : Option AV} (h : (rSlice lk k x lo hi H).ok) : More (rSlice lk k x lo hi H) (rSlice lk k x lo hi (H ++ ext)) H (H ++ ext) := by
  obtain ⟨⟨h1, h2⟩, h3⟩ := h
  have h2' := (szOk_app (ext := ext) h2).1
  have h4 : More (rSliceN x (bnd 0 lo) (bnd ((lenOf x).getD 0) hi) H) (rSliceN x (bnd 0 lo) (bnd ((lenOf x).getD 0) hi) (H ++ ext)) H (H ++ ext) := by
    unfold rSliceN at h3 ⊢
    split at h3
    · exact ⟨h3, rfl, fun _ => rfl⟩
    · exact ⟨h3, rfl, fun _ => rfl⟩
    · rw [isArr_app h3.2.2.2.1]; exact ⟨h3, rfl, fun _ => rfl⟩
    · exact ⟨h3, rfl, fun _ => rfl⟩
    · exact h3.elim
  exact ⟨⟨⟨h1, h2'⟩, h4.1⟩, h4.2.1, h4.2.2⟩
theorem rFaddr_more {k : Nat} {p : AV} (h : (rFaddr k p H).ok) : More (rFaddr k p H) (rFaddr k p (H ++ ext)) H (H ++ ext) := by
  cases p <;> simp only [rFaddr] at h ⊢ <;> first | exact h.elim | exact ⟨h, rfl, fun _ => rfl⟩ | skip
  case ptr r ver off => rw [isVer_app h.2]; exact ⟨h, rfl, fun _ => rfl⟩
  case pe r ver i off => rw [isVer_app h.2]; exact ⟨h, rfl, fun _ => rfl⟩
theorem rIaddr_more {sz : Nat} {x i : AV} (h : (rIaddr sz x i H).ok) : More (rIaddr sz x i H) (rIaddr sz x i (H ++ ext)) H (H ++ ext) := by
  unfold rIaddr at h ⊢
  split at h
  · exact ⟨h, rfl, fun _ => rfl⟩
  · rw [isVer_app h.2.2.2]
    exact ⟨⟨h.1, h.2.1, (szOk_app h.2.2.1).1, h.2.2.2⟩, rfl, fun _ => rfl⟩
  · exact h.elim
theorem rLookN_at (kd : KD) (z : AV) (ok : Bool) (k : Value) (ks : List Value) (vs : List AV) : rLookN kd z ok k ks vs H' = (rLookN kd z ok k ks vs H).at H' := rfl
theorem rLook_more {kd : KD} {z : AV} {ok : Bool} {m k : AV} (h : (rLook kd z ok m k H).ok) : More (rLook kd z ok m k H) (rLook kd z ok m k (H ++ ext)) H (H ++ ext) := by
  unfold rLook at h ⊢
  split at h
  · exact ⟨h, rfl, fun _ => rfl⟩
  · split at h
    · rename_i hh
      rw [get_app hh]
      exact ⟨h, rfl, fun _ => rfl⟩
    · exact h.elim
  · exact h.elim
theorem rLen_more {lk : LK} {x : AV} (h : (rLen lk x H).ok) : More (rLen lk x H) (rLen lk x (H ++ ext)) H (H ++ ext) := by
  obtain ⟨h1, h2⟩ := h
  refine ⟨⟨h1, ?_⟩, rfl, fun _ => rfl⟩
  cases x <;> first | exact h2 | skip
  case os r ver off len => simp only [verOk] at h2 ⊢; rw [isArr_app h2.1]; exact h2

theorem quiet_more {op : LOp} (hq : quietK op = true) (h : (ares op e H).ok) : More (ares op e H) (ares op e (H ++ ext)) H (H ++ ext) := by
  cases op <;> simp only [quietK] at hq <;> simp only [ares] at h ⊢ <;> first
    | exact (Bool.false_ne_true hq).elim
    | exact h.elim
    | exact ⟨h, rfl, fun _ => rfl⟩
    | exact .of_at (rBin_at ..) h
    | exact .of_at (rNot_at ..) h
    | exact .of_at (rNeg_at ..) h
    | exact .of_at (rFld_at ..) h
    | exact .of_at (rIdx_at ..) h
    | exact .of_at (rExt_at ..) h
    | exact .of_at (rMin_at ..) h
    | exact .of_at (rMax_at ..) h
    | exact rLoad_more h
    | exact rNil_more h
    | exact rConv_more h
    | exact rSlice_more h
    | exact rFaddr_more h
    | exact rIaddr_more h
    | exact rLook_more h
    | exact rLen_more h
    | skip
  case box imm x => rw [hq] at h ⊢; exact .of_at (rBox_at ..) h
  case bsl imm sz len zs ps => rw [hq] at h ⊢; exact .of_at (rBsl_at ..) h

theorem heapless_at {op : LOp} (hq : heapless op = true) (hc : ∀ f args, op ≠ .call f args) (hp : ∀ c x y, op ≠ .pick c x y) : ares op e H' = (ares op e H).at H' := by
  cases op <;> simp only [heapless] at hq <;> simp only [ares] <;> first
    | exact (Bool.false_ne_true hq).elim
    | rfl
    | exact rBin_at ..
    | exact rNot_at ..
    | exact rNeg_at ..
    | exact rFld_at ..
    | exact rIdx_at ..
    | exact rExt_at ..
    | exact rMin_at ..
    | exact rMax_at ..
    | exact absurd rfl (hc _ _)
    | exact absurd rfl (hp _ _ _)

theorem fresh_ext {op : LOp} (hq : fresh op = true) : ∃ ext, (ares op e H).H = H ++ ext := by
  cases op <;> simp only [fresh, Bool.not_eq_true'] at hq <;> simp only [ares] <;> first
    | exact (Bool.false_ne_true hq).elim
    | exact ⟨_, rfl⟩
    | skip
  case box imm x => rw [hq]; exact ⟨_, rfl⟩
  case bsl imm sz len zs ps => rw [hq]; exact ⟨_, rfl⟩
  case msl sz bytes zs len cap =>
    unfold rMsl
    split
    · exact ⟨_, rfl⟩
    · exact ⟨[], by simp [Res.no]⟩

theorem aopq_more {op : LOp} {x : AV} (hq : quietK op = true) (h : aopq P op e H fun y => y = x) : aopq P op e (H ++ ext) fun y => y = x := by
  have hh : ∀ (op : LOp), quietK op = true → ((ares op e H).ok ∧ (ares op e H).H = H ∧ (ares op e H).x = x) → ((ares op e (H ++ ext)).ok ∧ (ares op e (H ++ ext)).H = H ++ ext ∧ (ares op e (H ++ ext)).x = x) := fun op hq ⟨h1, h2, h3⟩ => by
    obtain ⟨g1, g2, g3⟩ := quiet_more (ext := ext) hq h1
    exact ⟨g1, g3 h2, g2.trans h3⟩
  cases op <;> simp only [aopq] at h ⊢ <;> first | exact h | exact hh _ hq h
theorem aopq_at {op : LOp} {x : AV} (hq : heapless op = true) (h : aopq P op e H fun y => y = x) : aopq P op e H' fun y => y = x := by
  have hh : ∀ (op : LOp), heapless op = true → (∀ f args, op ≠ .call f args) → (∀ c x y, op ≠ .pick c x y) → ((ares op e H).ok ∧ (ares op e H).H = H ∧ (ares op e H).x = x) → ((ares op e H').ok ∧ (ares op e H').H = H' ∧ (ares op e H').x = x) := fun op hq hc hp ⟨h1, h2, h3⟩ => by
    rw [heapless_at (H := H) hq hc hp]
    exact ⟨h1, rfl, h3⟩
  cases op <;> simp only [aopq] at h ⊢ <;> first | exact h | exact hh _ hq (by simp) (by simp) h

theorem stepQ_more {o : LO} {x : AV} (hq : quietK o.op = true) (h : stepQ P o e H x) : stepQ P o e (H ++ ext) x := by
  rcases h with ⟨h1, h2⟩ | h
  · exact .inl ⟨h1, aopq_more hq h2⟩
  · exact .inr h
theorem stepQ_at {o : LO} {x : AV} (hq : heapless o.op = true) (h : stepQ P o e H x) : stepQ P o e H' x := by
  rcases h with ⟨h1, h2⟩ | h
  · exact .inl ⟨h1, aopq_at hq h2⟩
  · exact .inr h

/-- Writes behind one another. -/
def wr : List (Option Nat × AV) → Env → Env
  | [], e => e
  | (d, x) :: l, e => wr l (ups e d x)
theorem wr_snoc : ∀ (l : List (Option Nat × AV)) (e : Env) (d : Option Nat) (x : AV), wr (l ++ [(d, x)]) e = ups (wr l e) d x
  | [], _, _, _ => rfl
  | (d', x') :: l, e, d, x => wr_snoc l (ups e d' x') d x
theorem wr_ne {t : Nat} : ∀ (l : List (Option Nat × AV)) (e : Env), (∀ x, (some t, x) ∉ l) → wr l e t = e t
  | [], _, _ => rfl
  | (d, x) :: l, e, h => by
    rw [wr, wr_ne l _ fun y hy => h y (List.mem_cons_of_mem _ hy), ups_ne]
    intro hd; exact h x (by rw [hd]; exact List.mem_cons_self)
theorem ups_comm {d d' : Option Nat} {x x' : AV} (h : ∀ t, d = some t → d' ≠ some t) : ups (ups e d x) d' x' = ups (ups e d' x') d x := by
  funext t
  cases d with
  | none => rfl
  | some a =>
    cases d' with
    | none => rfl
    | some b =>
      have hab : a ≠ b := fun hh => h a rfl (by rw [hh])
      simp only [ups, up]
      by_cases h1 : t = b
      · rw [if_pos h1, if_neg (by omega), if_pos h1]
      · rw [if_neg h1, if_neg h1]
theorem wr_ups {d : Option Nat} {y : AV} : ∀ (l : List (Option Nat × AV)) (e : Env), (∀ t, d = some t → ∀ x, (some t, x) ∉ l) → ups (wr l e) d y = wr l (ups e d y)
  | [], _, _ => rfl
  | (d', x) :: l, e, h => by
    rw [wr, wr, wr_ups l _ fun t ht z hz => h t ht z (List.mem_cons_of_mem _ hz), ups_comm]
    intro t ht hd
    exact h t hd x (by rw [ht]; exact List.mem_cons_self)

theorem aop_congr {op : LOp} {e e' : Env} {K : AV → AHeap → Prop} (h : ∀ t ∈ op.rd, e t = e' t) (hk : aop P op e H K) : aop P op e' H K := by
  have ha := ares_congr (H := H) h
  cases op <;> simp only [aop] at hk ⊢ <;> first | (rw [← ha]; exact hk) | exact hk | skip
  case call f args =>
    simp only [LOp.rd, List.mem_append] at h
    rw [← ev_congr fun t ht => h t (.inl ht), ← evL_congr fun t ht => h t (.inr ht)]
    exact hk
  case pick c a b =>
    simp only [LOp.rd, List.mem_append] at h
    rw [← ev_congr fun t ht => h t (.inl (.inl ht)), ← ev_congr fun t ht => h t (.inl (.inr ht)), ← ev_congr fun t ht => h t (.inr ht)]
    exact hk
  case isnil neg x =>
    rw [← ev_congr h]
    exact hk

variable {ops : Array Oper} {hd : List LO} {xs : Nat → AV}

theorem drawOk2_get {hs : List Hn} {reg : Nat} {hdl : List LO} {h : Nat} (hd : drawOk2 P n hs reg ops hdl h = true) {i j : Nat} (hj : j < ops.size) (hi : i < j) :
    ((Region.before ops).getD j 0).testBit i = true ∨ (j < h ∧ confl (hdl.getD i default) (hdl.getD j default) = false) ∨
      (i < h ∧ h ≤ j ∧ presAt hs reg j = [] ∧ quietK (hdl.getD i default).op = true ∧ confl (hdl.getD i default) (tlAt P n hs reg ops j) = false ∧ (heapless (hdl.getD i default).op = true ∨ fresh (tlAt P n hs reg ops j).op = true)) := by
  unfold drawOk2 at hd
  have h1 := List.all_eq_true.1 hd j (List.mem_range.2 hj)
  have h2 := List.all_eq_true.1 h1 i (List.mem_range.2 hi)
  simp only [Bool.or_eq_true, Bool.and_eq_true, decide_eq_true_eq, Bool.not_eq_true', List.isEmpty_iff] at h2
  rcases h2 with (h2 | h2) | h2
  · exact .inl h2
  · exact .inr (.inl h2)
  · exact .inr (.inr ⟨h2.1.1.1.1.1, h2.1.1.1.1.2, h2.1.1.1.2, h2.1.1.2, h2.1.2, h2.2⟩)

theorem mixed_sound {hs : List Hn} {reg h : Nat} {K : Env → AHeap → Prop} {Q : Exit → Act → World → Prop} (hE : edgesOk ops = true) (hD : drawOk2 P n hs reg ops hd h = true) (hh : h ≤ ops.size)
    (hlen : hd.length = h) (hget : ∀ k o, k < h → ops[k]? = some o → ∃ imm, lowOne P n imm ops o = some (hd.getD k default))
    (hQ : ∀ e' H' a' w', K e' H' → St X w0 ρ0 n0 n e' H' a' w' → Q .normal a' w') :
    ∀ (fuel k : Nat) (los : List LO) (ws : List (Option Nat × AV)) (H : AHeap) (a : Act) (w : World) (listed : Array Bool), h ≤ k → k ≤ ops.size → fuel = left listed ops.size → listed.size = ops.size →
      (∀ j, h ≤ j → j < ops.size → listed.getD j true = decide (j < k)) → Closed ops listed → lowOps P n hs reg ops k (ops.toList.drop k) = some los → aops P los (wr ws (ED hd xs e (fun _ => true) h)) H K →
      (∀ i, i < h → listed.getD i false = false → stepQ P (hd.getD i default) (ED hd xs e (fun _ => true) i) H (xs i)) →
      (∀ i, i < h → listed.getD i false = false → ∀ t x, (some t, x) ∈ ws → t ∉ (hd.getD i default).rd ∧ (hd.getD i default).d ≠ some t) →
      St X w0 ρ0 n0 n (wr ws (ED hd xs e (fun j => listed.getD j false) h)) H a w → wpAny P .any ops Q fuel listed a w := by
  have hT : ∀ i j, h ≤ i → i < j → j < ops.size → ((Region.before ops).getD j 0).testBit i = true := fun i j h1 h2 h3 => by
    rcases drawOk2_get hD h3 h2 with g | g | g
    · exact g
    · omega
    · omega
  intro fuel
  induction fuel with
  | zero =>
    intro k los ws H a w listed hk hks hf hsz ht hc hlo hK hx hw hst
    have hall : ∀ j, j < ops.size → listed.getD j true = true := by
      intro j hj
      cases hb : listed.getD j true with
      | true => rfl
      | false => have := left_pos hb ops.size hj; omega
    have hk2 : k = ops.size := by
      refine Classical.byContradiction fun hne => ?_
      have h1 := ht k hk (by omega)
      rw [hall k (by omega)] at h1
      simp at h1
    have hE' : ED hd xs e (fun j => listed.getD j false) h = ED hd xs e (fun _ => true) h := by
      funext t
      exact ED_congr h fun j hj _ => by rw [getD_ft (by omega), hall j (by omega)]
    rw [hE'] at hst
    exact tail_sound hE hT hQ 0 k los _ H a w listed hk (by omega) hsz (fun j hj => by rw [hall j hj]; simp; omega) hc hlo hK hst
  | succ fuel ih =>
    intro k los ws H a w listed hk hks hf hsz ht hc hlo hK hx hw hst
    by_cases hfull : ∀ j, j < h → listed.getD j true = true
    · have hall : ∀ j, j < ops.size → listed.getD j true = decide (j < k) := by
        intro j hj
        by_cases hjh : j < h
        · rw [hfull j hjh]; simp; omega
        · exact ht j (by omega) hj
      have hE' : ED hd xs e (fun j => listed.getD j false) h = ED hd xs e (fun _ => true) h := by
        funext t
        exact ED_congr h fun j hj _ => by rw [getD_ft (by omega), hall j (by omega)]; simp; omega
      rw [hE'] at hst
      have h0 := left_eq ops.size hall
      exact tail_sound hE hT hQ (fuel + 1) k los _ H a w listed hk (by omega) hsz hall hc hlo hK hst
    · have hun : ∃ i, i < h ∧ listed.getD i true = false := by
        refine Classical.byContradiction fun hno => hfull fun j hj => ?_
        cases hb : listed.getD j true with
        | true => rfl
        | false => exact absurd ⟨j, hj, hb⟩ hno
      obtain ⟨i0, hi0, hi0u, hi0l⟩ := least_un hun
      have hr0 : i0 ∈ Region.ready .any ops listed := ready_of hE (by omega) hi0u fun j hj => by rw [getD_ft (by omega)]; exact hi0l j hj
      refine ⟨fun h0 => by rw [h0] at hr0; simp at hr0, fun i hi => ?_⟩
      obtain ⟨hiu, oi, hoi, hiall⟩ := mem_ready.1 hi
      have his : i < ops.size := (Array.getElem?_eq_some_iff.1 hoi).1
      have hidf : listed.getD i false = false := by rw [getD_ft (by omega)]; exact hiu
      have hcf1 : ∀ a b : LO, ∀ t, a.d = some t → t ∈ b.rd → confl a b = true := by
        intro a b t h1 h2
        cases hb : confl a b with
        | true => rfl
        | false => exact absurd h2 ((conflF hb).1 t h1)
      have hcf2 : ∀ a b : LO, ∀ t, b.d = some t → t ∈ a.rd → confl a b = true := by
        intro a b t h1 h2
        cases hb : confl a b with
        | true => rfl
        | false => exact absurd h2 ((conflF hb).2.1 t h1)
      have hcf3 : ∀ a b : LO, ∀ t, a.d = some t → b.d = some t → confl a b = true := by
        intro a b t h1 h2
        cases hb : confl a b with
        | true => rfl
        | false => exact absurd h2 ((conflF hb).2.2 t h1)
      have hcount : fuel = left (listed.setIfInBounds i true) ops.size := by
        have := left_set hiu ops.size
        rw [if_pos his] at this
        omega
      by_cases hih : i < h
      · -- one of the first h
        have hbef : ∀ j, j < i → confl (hd.getD j default) (hd.getD i default) = true → listed.getD j false = true := by
          intro j hj hcf
          rcases drawOk2_get hD his hj with g6 | g6 | g6
          · exact closed_before hc i oi j hoi g6 hiall
          · rw [g6.2] at hcf; cases hcf
          · omega
        have hbeh : ∀ j, i < j → j < h → confl (hd.getD i default) (hd.getD j default) = true → listed.getD j false = false := by
          intro j hj hjh hcf
          rcases drawOk2_get hD (show j < ops.size by omega) hj with g6 | g6 | g6
          · cases hb : listed.getD j false with
            | false => rfl
            | true =>
              obtain ⟨oj, hoj⟩ : ∃ oj, ops[j]? = some oj := ⟨ops[j]'(by omega), by simp [show j < ops.size by omega]⟩
              have := closed_before hc j oj i hoj g6 (hc j oj hoj hb)
              rw [hidf] at this
              cases this
          · rw [g6.2] at hcf; cases hcf
          · omega
        have hwi := hw i hih hidf
        have hA : ∀ t ∈ (hd.getD i default).rd, ED hd xs e (fun _ => true) i t = wr ws (ED hd xs e (fun j => listed.getD j false) h) t := by
          intro t htr
          rw [wr_ne ws _ fun x hx => (hwi t x hx).1 htr, ED_skip (i := i) h (by omega) fun j h1 h2 h3 => by
            by_cases hji : j = i
            · rw [hji]; exact hidf
            · exact hbeh j (by omega) h2 (hcf2 _ _ t h3 htr)]
          exact ED_congr i fun j h1 h2 => (hbef j h1 (hcf1 _ _ t h2 htr)).symm
        have hB0 : ups (ED hd xs e (fun j => listed.getD j false) h) (hd.getD i default).d (xs i) = ED hd xs e (fun j => (listed.setIfInBounds i true).getD j false) h := by
          funext t
          by_cases hdt : (hd.getD i default).d = some t
          · rw [ED_skip (i := i + 1) h (by omega) fun j h1 h2 h3 => by
              rw [set_get, if_neg (by omega)]
              exact hbeh j (by omega) h2 (hcf3 _ _ t hdt h3)]
            rw [hdt, ups_eq]
            have hset : (listed.setIfInBounds i true).getD i false = true := by rw [set_get, if_pos ⟨rfl, by omega⟩]
            simp only [ED]
            rw [if_pos hset, hdt, ups_eq]
          · rw [ups_ne hdt]
            exact ED_congr h fun j h1 h2 => by
              rw [set_get, if_neg]
              rintro ⟨rfl, _⟩
              exact hdt h2
        have hB : ups (wr ws (ED hd xs e (fun j => listed.getD j false) h)) (hd.getD i default).d (xs i) = wr ws (ED hd xs e (fun j => (listed.setIfInBounds i true).getD j false) h) := by
          rw [wr_ups ws _ fun t ht x hx => (hwi t x hx).2 ht, hB0]
        have hstep := stepQ_congr hA (hx i hih hidf)
        obtain ⟨imm, hlow⟩ := hget i oi hih hoi
        have hone : aops P [hd.getD i default] (wr ws (ED hd xs e (fun j => listed.getD j false) h)) H fun e' H' => e' = wr ws (ED hd xs e (fun j => (listed.setIfInBounds i true).getD j false) h) ∧ H' = H := by
          refine aops_of ?_
          rcases hstep with ⟨g1, g2⟩ | ⟨g1, g2⟩
          · refine .inl ⟨g1, ?_⟩
            have := aop_of_aopq g2
            simp only [aops]
            refine aop_mono this ?_
            rintro y H' ⟨rfl, rfl⟩
            exact ⟨hB, rfl⟩
          · refine .inr ⟨g1, ?_⟩
            rw [← g2]
            exact ⟨hB, rfl⟩
        have hnx := op_step hlow hone hst (next := wpAny P .any ops Q fuel (listed.setIfInBounds i true)) (Q := Q) fun e'' H'' a'' w'' hK'' hs'' => by
          obtain ⟨rfl, rfl⟩ := hK''
          have hsub : ∀ j, j < h → (listed.setIfInBounds i true).getD j false = false → listed.getD j false = false := fun j hj hl => by
            rw [set_get] at hl
            split at hl
            · cases hl
            · exact hl
          exact ih k los ws _ a'' w'' _ hk hks hcount (by simpa using hsz) (fun j h1 h2 => by rw [set_get, if_neg (by omega)]; exact ht j h1 h2) (hc.set hi) hlo hK (fun j hj hl => hx j hj (hsub j hj hl)) (fun j hj hl => hw j hj (hsub j hj hl)) hs''
        unfold wpOp
        rw [hoi]
        simp only
        split
        · rename_i hw'; rw [if_pos hw'] at hnx; exact .inl hnx
        · rename_i hw'; rw [if_neg hw'] at hnx; exact hnx
      · -- the next of those behind
        have hik : i = k := by
          have g1 := ht i (by omega) his
          rw [hiu] at g1
          have g2 : ¬ i < k := by simpa using g1.symm
          rcases Nat.lt_or_ge k i with g5 | g5
          · have := closed_before hc i oi k hoi (hT k i hk g5 his) hiall
            rw [getD_ft (by omega), ht k hk (by omega)] at this
            simp at this
          · omega
        subst hik
        have hfr : ∀ j, j < h → listed.getD j false = false → presAt hs reg i = [] ∧ quietK (hd.getD j default).op = true ∧ confl (hd.getD j default) (tlAt P n hs reg ops i) = false ∧ (heapless (hd.getD j default).op = true ∨ fresh (tlAt P n hs reg ops i).op = true) := by
          intro j hj hl
          rcases drawOk2_get hD his (show j < i by omega) with g | g | g
          · have := closed_before hc i oi j hoi g hiall
            rw [hl] at this
            cases this
          · omega
          · exact g.2.2
        have hi0f : listed.getD i0 false = false := by rw [getD_ft (by omega)]; exact hi0u
        rw [List.drop_eq_getElem_cons (by simpa using his)] at hlo
        have hop : ops[i]? = some (ops.toList[i]'(by simpa using his)) := by simp [his]
        generalize ops.toList[i]'(by simpa using his) = o at hlo hop
        obtain rfl : oi = o := Option.some.inj (hoi.symm.trans hop)
        unfold lowOps at hlo
        cases h1 : lowOne P n (hasImm hs reg i) ops oi with
        | none => simp [h1] at hlo
        | some lo =>
          cases h2 : lowOps P n hs reg ops (i + 1) (ops.toList.drop (i + 1)) with
          | none => simp [h1, h2] at hlo
          | some m =>
            simp only [h1, h2, (hfr i0 hi0 hi0f).1, List.nil_append] at hlo
            split at hlo
            · simp only [Option.some.injEq] at hlo
              subst hlo
              have htl : tlAt P n hs reg ops i = lo := by simp [tlAt, hoi, h1]
              rw [htl] at hfr
              -- what it reads is the same
              have hR : ∀ t ∈ lo.rd, wr ws (ED hd xs e (fun _ => true) h) t = wr ws (ED hd xs e (fun j => listed.getD j false) h) t := by
                intro t htr
                have : ∀ (l : List (Option Nat × AV)) (e1 e2 : Env), e1 t = e2 t → wr l e1 t = wr l e2 t := by
                  intro l
                  induction l with
                  | nil => intro e1 e2 h; exact h
                  | cons p l ihl =>
                    intro e1 e2 h
                    obtain ⟨d, x⟩ := p
                    refine ihl _ _ ?_
                    by_cases hdt : d = some t
                    · rw [hdt, ups_eq, ups_eq]
                    · rw [ups_ne hdt, ups_ne hdt]; exact h
                refine this ws _ _ (ED_congr h fun j hj hdj => ?_)
                cases hb : listed.getD j false with
                | true => rfl
                | false =>
                  have := (conflF (hfr j hj hb).2.2.1).1 t hdj
                  exact absurd htr this
              have hwant : wantA lo.g (wr ws (ED hd xs e (fun _ => true) h)) = wantA lo.g (wr ws (ED hd xs e (fun j => listed.getD j false) h)) := wantA_congr fun t want hg => hR t (by simp [LO.rd, hg])
              have hnext : ∀ (x : AV) (H2 : AHeap), aops P m (ups (wr ws (ED hd xs e (fun _ => true) h)) lo.d x) H2 K → (H2 = H ∨ (∃ ext, H2 = H ++ ext) ∨ ∀ j, j < h → listed.getD j false = false → heapless (hd.getD j default).op = true) →
                  ∀ a'' w'', St X w0 ρ0 n0 n (ups (wr ws (ED hd xs e (fun j => listed.getD j false) h)) lo.d x) H2 a'' w'' → wpAny P .any ops Q fuel (listed.setIfInBounds i true) a'' w'' := by
                intro x H2 hK2 hH a'' w'' hs''
                have hsame : ∀ j, j < h → (listed.setIfInBounds i true).getD j false = listed.getD j false := fun j hj => by rw [set_get, if_neg (by omega)]
                have hED : ED hd xs e (fun j => (listed.setIfInBounds i true).getD j false) h = ED hd xs e (fun j => listed.getD j false) h := by
                  funext t
                  exact ED_congr h fun j hj _ => hsame j hj
                refine ih (i + 1) m (ws ++ [(lo.d, x)]) H2 a'' w'' _ (by omega) (by omega) hcount (by simpa using hsz) (fun j hj1 hj2 => ?_) (hc.set hi) h2 (by rw [wr_snoc]; exact hK2) (fun j hj hl => ?_) (fun j hj hl t y hy => ?_) (by rw [wr_snoc, hED]; exact hs'')
                · rw [set_get]
                  by_cases hji : j = i
                  · rw [if_pos ⟨hji, by omega⟩]; simp; omega
                  · rw [if_neg fun hh => hji hh.1, ht j hj1 hj2]
                    have : (j < i) = (j < i + 1) := by simp; omega
                    simp only [this]
                · rw [hsame j hj] at hl
                  have hq := hx j hj hl
                  rcases hH with rfl | ⟨ext, rfl⟩ | hH
                  · exact hq
                  · exact stepQ_more (hfr j hj hl).2.1 hq
                  · exact stepQ_at (hH j hj hl) hq
                · rw [hsame j hj] at hl
                  rcases List.mem_append.1 hy with hy | hy
                  · exact hw j hj hl t y hy
                  · simp only [List.mem_singleton, Prod.mk.injEq] at hy
                    have hcf := conflF (hfr j hj hl).2.2.1
                    exact ⟨hcf.2.1 t hy.1.symm, fun hdj => hcf.2.2 t hdj hy.1.symm⟩
              have hone : aops P [lo] (wr ws (ED hd xs e (fun j => listed.getD j false) h)) H fun e' H2 => ∃ x, e' = ups (wr ws (ED hd xs e (fun j => listed.getD j false) h)) lo.d x ∧ aops P m (ups (wr ws (ED hd xs e (fun _ => true) h)) lo.d x) H2 K ∧ (H2 = H ∨ (∃ ext, H2 = H ++ ext) ∨ ∀ j, j < h → listed.getD j false = false → heapless (hd.getD j default).op = true) := by
                refine aops_of ?_
                rcases aops_cons hK with ⟨g1, g2⟩ | ⟨g1, g2⟩
                · refine .inl ⟨by rw [← hwant]; exact g1, ?_⟩
                  have g3 := aop_congr (fun t ht => hR t (by simp [LO.rd, ht])) g2
                  by_cases hfre : fresh lo.op = true
                  · have hext := fresh_ext (e := wr ws (ED hd xs e (fun j => listed.getD j false) h)) (H := H) hfre
                    have hares : ∀ (op : LOp) (e1 : Env) (K1 K2 : AV → AHeap → Prop), fresh op = true → aop P op e1 H K1 → (∀ x, K1 x (ares op e1 H).H → K2 x (ares op e1 H).H) → aop P op e1 H K2 := by
                      intro op e1 K1 K2 hf h1 h2
                      cases op <;> simp only [fresh] at hf <;> first
                        | exact (Bool.false_ne_true hf).elim
                        | exact ⟨h1.1, h2 _ h1.2⟩
                    refine hares lo.op _ _ _ hfre g3 fun x hx => ?_
                    simp only [aops]
                    exact ⟨x, rfl, hx, .inr (.inl hext)⟩
                  · refine aop_mono g3 fun x H2 hx => ?_
                    simp only [aops]
                    refine ⟨x, rfl, hx, .inr (.inr fun j hj hl => ?_)⟩
                    exact (hfr j hj hl).2.2.2.resolve_right hfre
                · refine .inr ⟨by rw [← hwant]; exact g1, ?_⟩
                  exact ⟨undefA, rfl, g2, .inl rfl⟩
              have hnx := op_step h1 hone hst (next := wpAny P .any ops Q fuel (listed.setIfInBounds i true)) (Q := Q) fun e'' H'' a'' w'' hK'' hs'' => by
                obtain ⟨x, rfl, hK2, hH⟩ := hK''
                exact hnext x H'' hK2 hH a'' w'' hs''
              unfold wpOp
              rw [hoi]
              simp only
              split
              · rename_i hw'; rw [if_pos hw'] at hnx; exact .inl hnx
              · rename_i hw'; rw [if_neg hw'] at hnx; exact hnx
            · cases hlo

theorem draw_sound2 {hs : List Hn} {id h : Nat} {tl : List LO} {K : Env → AHeap → Prop} {Q : Exit → Act → World → Prop} (hhd : lowHd P n hs id ops 0 (ops.toList.take h) = some hd) (htl : lowOps P n hs id ops h (ops.toList.drop h) = some tl)
    (hD : drawOk2 P n hs id ops hd h = true) (hE : edgesOk ops = true) (hm : P.follows .mixedOrders = true) (hh : h ≤ ops.size) (hK : aopsq P hd e H fun e' => aops P tl e' H K) (hst : St X w0 ρ0 n0 n e H a w)
    (hQ : ∀ e' H' a' w', K e' H' → St X w0 ρ0 n0 n e' H' a' w' → Q .normal a' w') : (Code.region id ops true).wp P Q a w := by
  refine wp_region_any hm ?_
  obtain ⟨g1, g2⟩ := lowHd_get _ _ _ hhd
  have hlen : hd.length = h := by rw [g1]; simp; omega
  obtain ⟨xs, g3, g4⟩ := aopsq_chain hd hK
  rw [hlen] at g3 g4
  have h0 : ∀ j, (Array.replicate ops.size false).getD j false = false := fun j => getD_replicate_false _ _
  have h1 : ∀ j, j < ops.size → (Array.replicate ops.size false).getD j true = false := fun j hj => by rw [← getD_ft (by simpa using hj)]; exact h0 j
  refine mixed_sound hE hD hh hlen (fun k o hk ho => g2 k o ?_) hQ ops.size h tl [] H a _ _ (Nat.le_refl _) hh ?_ (by simp) (fun j h2 hj => ?_) ?_ htl g3 (fun i hi _ => g4 i hi) (fun i _ _ t x hx => by simp at hx) ?_
  · rw [List.getElem?_take, if_pos hk]; simpa using ho
  · have := left_eq (listed := Array.replicate ops.size false) (h := 0) ops.size fun j hj => by rw [h1 j hj]; simp
    omega
  · rw [h1 j hj]; simp; omega
  · intro j oj hj hl
    rw [h0 j] at hl
    cases hl
  · have : ED hd xs e (fun j => (Array.replicate ops.size false).getD j false) h = e := by
      funext t
      rw [ED_skip (i := 0) h (Nat.zero_le _) fun j _ _ _ => h0 j]
      rfl
    show St X w0 ρ0 n0 n (ED hd xs e (fun j => (Array.replicate ops.size false).getD j false) h) H a _
    rw [this]
    exact hst.still ⟨rfl, rfl, rfl, Nat.le_refl _⟩ rfl
end
end Go.Ax
