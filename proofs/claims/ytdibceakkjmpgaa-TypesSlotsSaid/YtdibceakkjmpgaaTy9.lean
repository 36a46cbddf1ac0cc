/- Types, part 9: the slots of variables. -/
import Derived.Test.YtdibceakkjmpgaaFs
import Derived.Test.YtdibceakkjmpgaaTy8
namespace Go.Proofs.Ytdibceakkjmpgaa
open Go Go.Ax
set_option maxRecDepth 100000
set_option linter.unusedSimpArgs false
set_option linter.unusedVariables false

theorem layN_get (rs : List Rc) : ∀ (a : Nat) (l : List Vr) (q : Nat), q < l.length → (layN rs a l).getD q default = { l.getD q default with slot := (a + totF rs (l.take q) : Nat) }
  | _, [], q, h => by simp at h
  | a, v :: l, 0, _ => by simp [layN, totF]
  | a, v :: l, q + 1, h => by
    have := layN_get rs (a + sizeF rs v.ty) l q (by simpa using h)
    simp only [layN, List.getD_cons_succ, List.take_succ_cons, totF] at this ⊢
    rw [this, Nat.add_assoc]
theorem tot_scal (rs : List Rc) : ∀ l : List Vr, (∀ v ∈ l, validF v.ty rs = true) → ((l.map Vr.ty).flatMap (scal1 rs)).length = totF rs l
  | [], _ => rfl
  | v :: l, h => by
    have h1 := tot_scal rs l fun v hv => h v (by simp [hv])
    simp only [List.map_cons, List.flatMap_cons, List.length_append, totF, sizeF_yes (h v (by simp)), h1]
theorem mem_of_upto {α : Type} [Inhabited α] {l : List α} {p : α → Prop} (h : ∀ i, i < l.length → p (l.getD i default)) : ∀ t ∈ l, p t := by
  intro t ht
  obtain ⟨i, hi, rfl⟩ := List.mem_iff_getElem.1 ht
  have := h i hi
  simpa [List.getD_eq_getElem?_getD, hi] using this
theorem first_bad {α : Type} [Inhabited α] {l : List α} {p : α → Bool} (h : ¬ l.all p = true) : ∃ j, j < l.length ∧ p (l.getD j default) = false ∧ ∀ i, i < j → p (l.getD i default) = true := by
  induction l with
  | nil => simp at h
  | cons x l ih =>
    by_cases hx : p x = true
    · have h' : ¬ l.all p = true := by simpa [hx] using h
      obtain ⟨j, h1, h2, h3⟩ := ih h'
      refine ⟨j + 1, by simpa using h1, by simpa using h2, fun i hi => ?_⟩
      cases i with
      | zero => simpa using hx
      | succ i => simpa using h3 i (by omega)
    · exact ⟨0, by simp, by simpa using hx, fun i hi => by omega⟩

theorem typesSlots (rs : List Rc) (l : List Vr) (hr : rs.length ≤ 9223372036854775807) (H : AHeap) : Comp' 5 [.sl 2 (rs.map rcR), .sl 8 (l.map vrR)] H (bool true) := by
  refine ACall.drop (R := fun x => x = bool true) ?_
  refine enter Try.func5 L5s_ok (Nat.le_of_ble_eq_true rfl) ?_
  by_cases hf : fewF rs = true
  · have hF := few_of hf
    by_cases h20 : l.length ≤ 20
    · have hrl := hF.len
      by_cases hne : l = []
      · subst hne
        repeat' (first | (refine And.intro (by omega) ?_) | (refine callF_pure (few rs _ hr) ?_) | (refine callF_pure (awakeT _) ?_) | (refine callQF_pure (few rs _ hr) rfl ?_) | (refine callQF_pure (awakeT _) rfl ?_) | simp -implicitDefEqProofs (disch := omega) only [L5s, hf, dT_lt, dF_lt, dT_le, dF_le, dT_eq, dF_eq, push_cast, ↓reduceIte, Nat.reduceEqDiff, reduceCtorEq, Nat.reduceAdd, Nat.reduceSub, Nat.reduceMul, Nat.reduceLeDiff, Nat.reduceLT, Nat.reduceMod, Nat.reduceDiv, Int.reduceToNat, Int.reduceLT, Int.reduceLE, Int.reduceEq, Int.reduceAdd, Int.reduceSub, Int.reduceNeg, Int.reduceMul, Bool.and_self] | split)
        refine callF_mono (layout_nil rs _) ?_
        rintro y H' ⟨⟨sz, rfl⟩, hH⟩
        obtain rfl : H = H' := hH.symm
        repeat' (first | (refine And.intro (by omega) ?_) | simp -implicitDefEqProofs (disch := omega) only [dT_lt, dF_lt, dT_le, dF_le, dT_eq, dF_eq, push_cast, ↓reduceIte, Nat.reduceEqDiff, reduceCtorEq, Nat.reduceAdd, Nat.reduceSub, Nat.reduceMul, Nat.reduceLeDiff, Nat.reduceLT, Nat.reduceMod, Nat.reduceDiv, Int.reduceToNat, Int.reduceLT, Int.reduceLE, Int.reduceEq, Int.reduceAdd, Int.reduceSub, Int.reduceNeg, Int.reduceMul, Bool.and_self] | split)
        refine rk_loopS (fun (p : Nat) e' H' => e' 0 = .sl 2 (rs.map rcR) ∧ e' 1 = .sl 8 [] ∧ e' 5 = .sl sz [] ∧ e' 6 = int 0 ∧ e' 7 = .os H.length 0 0 0 ∧ e' 29 = int 0 ∧ e' 30 = int 0 ∧ H' = H ++ [.arr 0 3 []]) (fun p => 0) 0 ?_ ?_
        · exact ⟨rfl, rfl, rfl, rfl, rfl, rfl, rfl, rfl⟩
        rintro p e' H' ⟨h0, h1, h5, h6, h7, h29, h30, rfl⟩
        repeat' (first | (refine And.intro (by omega) ?_) | simp -implicitDefEqProofs (disch := omega) only [h0, h1, h5, h6, h7, h29, h30, dT_lt, dF_lt, dT_le, dF_le, dT_eq, dF_eq, push_cast, ↓reduceIte, Nat.reduceEqDiff, reduceCtorEq, Nat.reduceAdd, Nat.reduceSub, Nat.reduceMul, Nat.reduceLeDiff, Nat.reduceLT, Nat.reduceMod, Nat.reduceDiv, Int.reduceToNat, Int.reduceLT, Int.reduceLE, Int.reduceEq, Int.reduceAdd, Int.reduceSub, Int.reduceNeg, Int.reduceMul, Bool.and_self] | split)
        refine rk_loopS (fun (p : Nat) e' H' => e' 0 = .sl 2 (rs.map rcR) ∧ e' 6 = int 0 ∧ e' 7 = .os H.length 0 0 0 ∧ e' 10 = int 0 ∧ e' 61 = int 0 ∧ e' 62 = int 0 ∧ H' = H ++ [.arr 0 3 []]) (fun p => 0) 0 ?_ ?_
        · exact ⟨h0, h6, h7, rfl, rfl, rfl, rfl⟩
        rintro p e' H' ⟨h0, h6, h7, h10, h61, h62, rfl⟩
        have hs0 : scalV rs [] = .sl 3 [] := rfl
        repeat' (first | (refine And.intro (by omega) ?_) | (refine callF_pure (scalars rs [] _ hF (by simp)) ?_) | (refine callF_pure (awakeT _) ?_) | (refine callQF_pure (scalars rs [] _ hF (by simp)) rfl ?_) | (refine callQF_pure (awakeT _) rfl ?_) | simp -implicitDefEqProofs (disch := omega) only [h0, h6, h7, h10, h61, h62, hs0, dT_lt, dF_lt, dT_le, dF_le, dT_eq, dF_eq, push_cast, ↓reduceIte, Nat.reduceEqDiff, reduceCtorEq, Nat.reduceAdd, Nat.reduceSub, Nat.reduceMul, Nat.reduceLeDiff, Nat.reduceLT, Nat.reduceMod, Nat.reduceDiv, Int.reduceToNat, Int.reduceLT, Int.reduceLE, Int.reduceEq, Int.reduceAdd, Int.reduceSub, Int.reduceNeg, Int.reduceMul, Bool.and_self] | split)
        all_goals exact ⟨_, rfl⟩
      · by_cases hall : l.all (fun v => validF v.ty rs) = true
        · have hv : ∀ i, i < l.length → validF (l.getD i default).ty rs = true := fun i hi => List.all_eq_true.1 hall _ (getD_mem' hi)
          have hlay := layV_yes hv
          repeat' (first | (refine And.intro (by omega) ?_) | (refine callF_pure (few rs _ hr) ?_) | (refine callF_pure (awakeT _) ?_) | (refine callF_pure (layout rs l _ hF h20 hne) ?_) | (refine callQF_pure (few rs _ hr) rfl ?_) | (refine callQF_pure (awakeT _) rfl ?_) | (refine callQF_pure (layout rs l _ hF h20 hne) rfl ?_) | simp -implicitDefEqProofs (disch := omega) only [L5s, hf, hlay, dT_lt, dF_lt, dT_le, dF_le, dT_eq, dF_eq, push_cast, ↓reduceIte, Nat.reduceEqDiff, reduceCtorEq, Nat.reduceAdd, Nat.reduceSub, Nat.reduceMul, Nat.reduceLeDiff, Nat.reduceLT, Nat.reduceMod, Nat.reduceDiv, Int.reduceToNat, Int.reduceLT, Int.reduceLE, Int.reduceEq, Int.reduceAdd, Int.reduceSub, Int.reduceNeg, Int.reduceMul, Bool.and_self] | split)
          refine rk_loopS (fun (p : Nat × Nat × List HO) e' H' => e' 0 = .sl 2 (rs.map rcR) ∧ e' 1 = .sl 8 (l.map vrR) ∧ e' 5 = .sl 8 ((layN rs 0 l).map vrR) ∧ e' 6 = int (totF rs l) ∧ e' 7 = .os H.length p.2.1 0 p.1 ∧ e' 28 = .sl 8 (l.map vrR) ∧ e' 29 = int l.length ∧ e' 30 = int p.1 ∧ H' = H ++ .arr p.2.1 3 (((l.take p.1).map Vr.ty).map tyR) :: p.2.2 ∧ p.1 ≤ l.length) (fun p => l.length - p.1) (0, 0, []) ?_ ?_
          · exact ⟨rfl, rfl, rfl, rfl, rfl, rfl, rfl, rfl, rfl, Nat.zero_le _⟩
          rintro ⟨j, ver, rest⟩ e' H' ⟨h0, h1, h5, h6, h7, h28, h29, h30, rfl, hj⟩
          simp only at h0 h1 h5 h6 h7 h28 h29 h30 hj
          have hjl : (((l.take j).map Vr.ty).map tyR).length = j := by simp; omega
          by_cases hlt : j < l.length
          · have hvj := hv j hlt
            have hsn : ((l.take j).map Vr.ty).map tyR ++ [[int (l.getD j default).ty.k, int (l.getD j default).ty.len, str (l.getD j default).ty.rc]] = ((l.take (j + 1)).map Vr.ty).map tyR := by rw [take_snoc hlt]; simp [tyR]
            repeat' (first | (refine And.intro (by omega) ?_) | (refine callF_pure (valid (l.getD j default).ty rs _ (by omega)) ?_) | (refine callQF_pure (valid (l.getD j default).ty rs _ (by omega)) rfl ?_) | simp -implicitDefEqProofs (disch := omega) only [h0, h1, h5, h6, h7, h28, h29, h30, rows_getD, vrR, hvj, hjl, all_take _ (Nat.le_of_eq hjl), hsn, dT_lt, dF_lt, dT_le, dF_le, dT_eq, dF_eq, push_cast, ↓reduceIte, Nat.reduceEqDiff, reduceCtorEq, Nat.reduceAdd, Nat.reduceSub, Nat.reduceMul, Nat.reduceLeDiff, Nat.reduceLT, Nat.reduceMod, Nat.reduceDiv, Int.reduceToNat, Int.reduceLT, Int.reduceLE, Int.reduceEq, Int.reduceAdd, Int.reduceSub, Int.reduceNeg, Int.reduceMul, Bool.and_self] | split)
            exact .mk (j + 1, ver + 1, rest ++ [_]) ⟨h0, h1, h5, h6, rfl, h28, h29, rfl, rfl, hlt⟩ (by simp only; omega)
          · obtain rfl : j = l.length := by omega
            have hll := layN_len rs 0 l
            repeat' (first | (refine And.intro (by omega) ?_) | simp -implicitDefEqProofs (disch := omega) only [h0, h1, h5, h6, h7, h28, h29, h30, hll, dT_lt, dF_lt, dT_le, dF_le, dT_eq, dF_eq, push_cast, ↓reduceIte, Nat.reduceEqDiff, reduceCtorEq, Nat.reduceAdd, Nat.reduceSub, Nat.reduceMul, Nat.reduceLeDiff, Nat.reduceLT, Nat.reduceMod, Nat.reduceDiv, Int.reduceToNat, Int.reduceLT, Int.reduceLE, Int.reduceEq, Int.reduceAdd, Int.reduceSub, Int.reduceNeg, Int.reduceMul, Bool.and_self] | split)
            refine rk_loopS (fun (p : Nat × List HO) e' H' => e' 0 = .sl 2 (rs.map rcR) ∧ e' 1 = .sl 8 (l.map vrR) ∧ e' 6 = int (totF rs l) ∧ e' 7 = .os H.length ver 0 l.length ∧ e' 10 = int (totF rs (l.take p.1)) ∧ e' 60 = .sl 8 ((layN rs 0 l).map vrR) ∧ e' 61 = int l.length ∧ e' 62 = int p.1 ∧ H' = H ++ .arr ver 3 (((l.take l.length).map Vr.ty).map tyR) :: p.2 ∧ p.1 ≤ l.length) (fun p => l.length - p.1) (0, rest) ?_ ?_
            · exact ⟨h0, h1, h6, h7, rfl, rfl, rfl, rfl, rfl, Nat.zero_le _⟩
            rintro ⟨q, rest2⟩ e2 H2 ⟨g0, g1, g6, g7, g10, g60, g61, g62, rfl, hq⟩
            simp only at g0 g1 g6 g7 g10 g60 g61 g62 hq
            have htq := totF_le hF (l.take q)
            have hqq : (l.take q).length = q := by simp; omega
            by_cases hql : q < l.length
            · have hX : (layN rs 0 l).getD q default = { l.getD q default with slot := (totF rs (l.take q) : Nat) } := by rw [layN_get rs 0 l q hql, Nat.zero_add]
              have hvq := hv q hql
              have hsz := sizeF_le (t := (l.getD q default).ty) hF
              have htt : totF rs (l.take (q + 1)) = totF rs (l.take q) + sizeF rs (l.getD q default).ty := by rw [take_snoc hql, totF_app]; simp [totF]
              repeat' (first | (refine And.intro (by omega) ?_) | (refine callF_pure (size (l.getD q default).ty rs _ hF) ?_) | (refine callQF_pure (size (l.getD q default).ty rs _ hF) rfl ?_) | simp -implicitDefEqProofs (disch := omega) only [g0, g1, g6, g7, g10, g60, g61, g62, rows_getD, vrR, hX, hvq, hll, kEqI, kEqS, dT_lt, dF_lt, dT_le, dF_le, dT_eq, dF_eq, push_cast, ↓reduceIte, Nat.reduceEqDiff, reduceCtorEq, Nat.reduceAdd, Nat.reduceSub, Nat.reduceMul, Nat.reduceLeDiff, Nat.reduceLT, Nat.reduceMod, Nat.reduceDiv, Int.reduceToNat, Int.reduceLT, Int.reduceLE, Int.reduceEq, Int.reduceAdd, Int.reduceSub, Int.reduceNeg, Int.reduceMul, Bool.and_self] | split)
              exact .mk (q + 1, rest2 ++ [_]) ⟨g0, g1, g6, g7, by rw [htt]; rfl, g60, g61, rfl, rfl, hql⟩ (by simp only; omega)
            · obtain rfl : q = l.length := by omega
              have hmem := mem_of_upto (p := fun v : Vr => validF v.ty rs = true) hv
              have hsv : scalV rs (l.map Vr.ty) = .sl 3 (((l.map Vr.ty).flatMap (scal1 rs)).map tyR) := by
                unfold scalV
                rw [if_pos (by rw [List.all_eq_true]; intro t ht; obtain ⟨v, hv', rfl⟩ := List.mem_map.1 ht; exact hmem v hv')]
              have hts := tot_scal rs l hmem
              have hta : ((l.map Vr.ty).map tyR).take l.length = (l.map Vr.ty).map tyR := all_take _ (by simp)
              have hlm : (l.map Vr.ty).length ≤ 20 := by simpa using h20
              repeat' (first | (refine And.intro (by omega) ?_) | (refine callF_pure (scalars rs (l.map Vr.ty) _ hF hlm) ?_) | (refine callF_pure (awakeT _) ?_) | (refine callQF_pure (scalars rs (l.map Vr.ty) _ hF hlm) rfl ?_) | (refine callQF_pure (awakeT _) rfl ?_) | simp -implicitDefEqProofs (disch := omega) only [g0, g1, g6, g7, g10, g60, g61, g62, hll, List.take_length, hta, hsv, hts, dT_lt, dF_lt, dT_le, dF_le, dT_eq, dF_eq, push_cast, ↓reduceIte, Nat.reduceEqDiff, reduceCtorEq, Nat.reduceAdd, Nat.reduceSub, Nat.reduceMul, Nat.reduceLeDiff, Nat.reduceLT, Nat.reduceMod, Nat.reduceDiv, Int.reduceToNat, Int.reduceLT, Int.reduceLE, Int.reduceEq, Int.reduceAdd, Int.reduceSub, Int.reduceNeg, Int.reduceMul, Bool.and_self] | split)
              all_goals exact ⟨_, rfl⟩
        · obtain ⟨j0, hj0, hbad, hgood⟩ := first_bad hall
          have hlay := layV_no hj0 hbad
          repeat' (first | (refine And.intro (by omega) ?_) | (refine callF_pure (few rs _ hr) ?_) | (refine callF_pure (awakeT _) ?_) | (refine callF_pure (layout rs l _ hF h20 hne) ?_) | (refine callQF_pure (few rs _ hr) rfl ?_) | (refine callQF_pure (awakeT _) rfl ?_) | (refine callQF_pure (layout rs l _ hF h20 hne) rfl ?_) | simp -implicitDefEqProofs (disch := omega) only [L5s, hf, hlay, dT_lt, dF_lt, dT_le, dF_le, dT_eq, dF_eq, push_cast, ↓reduceIte, Nat.reduceEqDiff, reduceCtorEq, Nat.reduceAdd, Nat.reduceSub, Nat.reduceMul, Nat.reduceLeDiff, Nat.reduceLT, Nat.reduceMod, Nat.reduceDiv, Int.reduceToNat, Int.reduceLT, Int.reduceLE, Int.reduceEq, Int.reduceAdd, Int.reduceSub, Int.reduceNeg, Int.reduceMul, Bool.and_self] | split)
          refine rk_loopS (fun (p : Nat × Nat × List HO) e' H' => e' 0 = .sl 2 (rs.map rcR) ∧ e' 5 = nilS ∧ e' 6 = int 0 ∧ e' 7 = .os H.length p.2.1 0 p.1 ∧ e' 28 = .sl 8 (l.map vrR) ∧ e' 29 = int l.length ∧ e' 30 = int p.1 ∧ H' = H ++ .arr p.2.1 3 (((l.take p.1).map Vr.ty).map tyR) :: p.2.2 ∧ p.1 ≤ j0) (fun p => l.length - p.1) (0, 0, []) ?_ ?_
          · exact ⟨rfl, rfl, rfl, rfl, rfl, rfl, rfl, rfl, Nat.zero_le _⟩
          rintro ⟨j, ver, rest⟩ e' H' ⟨h0, h5, h6, h7, h28, h29, h30, rfl, hj⟩
          simp only at h0 h5 h6 h7 h28 h29 h30 hj
          have hlt : j < l.length := by omega
          have hjl : (((l.take j).map Vr.ty).map tyR).length = j := by simp; omega
          by_cases hjj : j < j0
          · have hvj := hgood j hjj
            have hsn : ((l.take j).map Vr.ty).map tyR ++ [[int (l.getD j default).ty.k, int (l.getD j default).ty.len, str (l.getD j default).ty.rc]] = ((l.take (j + 1)).map Vr.ty).map tyR := by rw [take_snoc hlt]; simp [tyR]
            repeat' (first | (refine And.intro (by omega) ?_) | (refine callF_pure (valid (l.getD j default).ty rs _ (by omega)) ?_) | (refine callQF_pure (valid (l.getD j default).ty rs _ (by omega)) rfl ?_) | simp -implicitDefEqProofs (disch := omega) only [h0, h5, h6, h7, h28, h29, h30, rows_getD, vrR, hvj, hjl, all_take _ (Nat.le_of_eq hjl), hsn, dT_lt, dF_lt, dT_le, dF_le, dT_eq, dF_eq, push_cast, ↓reduceIte, Nat.reduceEqDiff, reduceCtorEq, Nat.reduceAdd, Nat.reduceSub, Nat.reduceMul, Nat.reduceLeDiff, Nat.reduceLT, Nat.reduceMod, Nat.reduceDiv, Int.reduceToNat, Int.reduceLT, Int.reduceLE, Int.reduceEq, Int.reduceAdd, Int.reduceSub, Int.reduceNeg, Int.reduceMul, Bool.and_self] | split)
            exact .mk (j + 1, ver + 1, rest ++ [_]) ⟨h0, h5, h6, rfl, h28, h29, rfl, rfl, hjj⟩ (by simp only; omega)
          · obtain rfl : j = j0 := by omega
            repeat' (first | (refine And.intro (by omega) ?_) | (refine callF_pure (valid (l.getD j default).ty rs _ (by omega)) ?_) | (refine callF_pure (awakeT _) ?_) | (refine callQF_pure (valid (l.getD j default).ty rs _ (by omega)) rfl ?_) | (refine callQF_pure (awakeT _) rfl ?_) | simp -implicitDefEqProofs (disch := omega) only [h0, h5, h6, h7, h28, h29, h30, rows_getD, vrR, hbad, dT_lt, dF_lt, dT_le, dF_le, dT_eq, dF_eq, push_cast, ↓reduceIte, Nat.reduceEqDiff, reduceCtorEq, Nat.reduceAdd, Nat.reduceSub, Nat.reduceMul, Nat.reduceLeDiff, Nat.reduceLT, Nat.reduceMod, Nat.reduceDiv, Int.reduceToNat, Int.reduceLT, Int.reduceLE, Int.reduceEq, Int.reduceAdd, Int.reduceSub, Int.reduceNeg, Int.reduceMul, Bool.and_self] | split)
            all_goals exact ⟨_, rfl⟩
    · repeat' (first | (refine And.intro (by omega) ?_) | (refine callF_pure (few rs _ hr) ?_) | (refine callF_pure (awakeT _) ?_) | (refine callQF_pure (few rs _ hr) rfl ?_) | (refine callQF_pure (awakeT _) rfl ?_) | simp -implicitDefEqProofs (disch := omega) only [L5s, hf, dT_lt, dF_lt, dT_le, dF_le, dT_eq, dF_eq, push_cast, ↓reduceIte, Nat.reduceEqDiff, reduceCtorEq, Nat.reduceAdd, Nat.reduceSub, Nat.reduceMul, Nat.reduceLeDiff, Nat.reduceLT, Nat.reduceMod, Nat.reduceDiv, Int.reduceToNat, Int.reduceLT, Int.reduceLE, Int.reduceEq, Int.reduceAdd, Int.reduceSub, Int.reduceNeg, Int.reduceMul, Bool.and_self] | split)
      exact ⟨[], by simp⟩
  · have hf' := Bool.eq_false_iff.2 hf
    repeat' (first | (refine And.intro (by omega) ?_) | (refine callF_pure (few rs _ hr) ?_) | (refine callF_pure (awakeT _) ?_) | (refine callQF_pure (few rs _ hr) rfl ?_) | (refine callQF_pure (awakeT _) rfl ?_) | simp -implicitDefEqProofs (disch := omega) only [L5s, hf', dT_lt, dF_lt, dT_le, dF_le, dT_eq, dF_eq, push_cast, ↓reduceIte, Nat.reduceEqDiff, reduceCtorEq, Nat.reduceAdd, Nat.reduceSub, Nat.reduceMul, Nat.reduceLeDiff, Nat.reduceLT, Nat.reduceMod, Nat.reduceDiv, Int.reduceToNat, Int.reduceLT, Int.reduceLE, Int.reduceEq, Int.reduceAdd, Int.reduceSub, Int.reduceNeg, Int.reduceMul, Bool.and_self] | split)
    exact ⟨[], by simp⟩
end Go.Proofs.Ytdibceakkjmpgaa
