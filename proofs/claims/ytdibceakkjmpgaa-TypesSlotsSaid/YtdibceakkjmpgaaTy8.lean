/- Types, part 8: the statements' functions. -/
import Derived.Test.YtdibceakkjmpgaaTy7
namespace Go.Proofs.Ytdibceakkjmpgaa
open Go Go.Ax
set_option maxRecDepth 100000
set_option linter.unusedSimpArgs false
set_option linter.unusedVariables false

theorem few_of {rs : List Rc} (h : fewF rs = true) : Few rs := ⟨(fewF_iff.1 h).1, (fewF_iff.1 h).2⟩

theorem scalV_sl {rs : List Rc} {l : List Ty} (hf : Few rs) (hl : l.length ≤ 20) : scalV rs l = nilS ∨ ∃ ts : List Ty, scalV rs l = .sl 3 (ts.map tyR) ∧ ts.length ≤ 400 := by
  unfold scalV
  split
  · rename_i h
    have := flat_len hf (fun t ht => List.all_eq_true.1 h t ht)
    exact .inr ⟨_, rfl, by omega⟩
  · exact .inl rfl

theorem typesForms (rs : List Rc) (l : List Ty) (hr : rs.length ≤ 9223372036854775807) (hl : l.length ≤ 9223372036854775807) (hok : ∀ t ∈ l, t.Ok) (H : AHeap) : Comp' 4 [.sl 2 (rs.map rcR), .sl 3 (l.map tyR)] H (bool true) := by
  refine ACall.drop (R := fun x => x = bool true) ?_
  refine enter Try.func4 L4_ok (Nat.le_of_ble_eq_true rfl) ?_
  by_cases hf : fewF rs = true
  · have hF := few_of hf
    by_cases h20 : l.length ≤ 20
    · repeat' (first | (refine And.intro (by omega) ?_) | (refine callF_pure (few rs _ hr) ?_) | (refine callF_pure (awakeT _) ?_) | (refine callQF_pure (few rs _ hr) rfl ?_) | (refine callQF_pure (awakeT _) rfl ?_) | simp -implicitDefEqProofs (disch := omega) only [L4, hf, dT_lt, dF_lt, dT_le, dF_le, dT_eq, dF_eq, push_cast, ↓reduceIte, Nat.reduceEqDiff, reduceCtorEq, Nat.reduceAdd, Nat.reduceSub, Nat.reduceMul, Nat.reduceLeDiff, Nat.reduceLT, Nat.reduceMod, Nat.reduceDiv, Int.reduceToNat, Int.reduceLT, Int.reduceLE, Int.reduceEq, Int.reduceAdd, Int.reduceSub, Int.reduceNeg, Int.reduceMul, Bool.and_self] | split)
      have hrl := hF.len
      refine rk_loopS (fun (p : Nat × List HO) e' H' => e' 0 = .sl 2 (rs.map rcR) ∧ e' 1 = .sl 3 (l.map tyR) ∧ e' 16 = .sl 3 (l.map tyR) ∧ e' 17 = int l.length ∧ e' 18 = int p.1 ∧ H' = H ++ p.2 ∧ p.1 ≤ l.length) (fun p => l.length - p.1) (0, []) ?_ ?_
      · exact ⟨rfl, rfl, rfl, rfl, rfl, by simp, Nat.zero_le _⟩
      rintro ⟨j, rest⟩ e' H' ⟨h0, h1, h16, h17, h18, rfl, hj⟩
      simp only at h0 h1 h16 h17 h18 hj
      by_cases hlt : j < l.length
      · have hfm := (hok _ (getD_mem' hlt)).len.2
        repeat' (first | (refine And.intro (by omega) ?_) | (refine callF_pure (valid (l.getD j default) rs _ (by omega)) ?_) | (refine callF_pure (validR (l.getD j default) rs _ (by omega)) ?_) | (refine callF_pure (format (l.getD j default) hfm _) ?_) | (refine callF_pure (formatR (l.getD j default) hfm _) ?_) | (refine callF_pure (size (l.getD j default) rs _ hF) ?_) | (refine callF_pure (sizeR (l.getD j default) rs _ hF) ?_) | (refine callQF_pure (valid (l.getD j default) rs _ (by omega)) rfl ?_) | (refine callQF_pure (validR (l.getD j default) rs _ (by omega)) rfl ?_) | (refine callQF_pure (format (l.getD j default) hfm _) rfl ?_) | (refine callQF_pure (formatR (l.getD j default) hfm _) rfl ?_) | (refine callQF_pure (size (l.getD j default) rs _ hF) rfl ?_) | (refine callQF_pure (sizeR (l.getD j default) rs _ hF) rfl ?_) | simp -implicitDefEqProofs (disch := omega) only [h0, h1, h16, h17, h18, rows_getD, tyR, dT_lt, dF_lt, dT_le, dF_le, dT_eq, dF_eq, push_cast, ↓reduceIte, Nat.reduceEqDiff, reduceCtorEq, Nat.reduceAdd, Nat.reduceSub, Nat.reduceMul, Nat.reduceLeDiff, Nat.reduceLT, Nat.reduceMod, Nat.reduceDiv, Int.reduceToNat, Int.reduceLT, Int.reduceLE, Int.reduceEq, Int.reduceAdd, Int.reduceSub, Int.reduceNeg, Int.reduceMul, Bool.and_self] | split)
        exact .mk (j + 1, rest ++ [_]) ⟨h0, h1, h16, h17, rfl, by simp only [List.append_assoc]; rfl, hlt⟩ (by simp only; omega)
      · rcases scalV_sl hF h20 with hs | ⟨ts, hs, hts⟩
        · repeat' (first | (refine And.intro (by omega) ?_) | (refine callF_pure (scalars rs l _ hF h20) ?_) | (refine callF_pure (scalarsR rs l _ hF h20) ?_) | (refine callF_pure (equalR_nil _) ?_) | (refine callF_pure (awakeT _) ?_) | (refine callQF_pure (scalars rs l _ hF h20) rfl ?_) | (refine callQF_pure (scalarsR rs l _ hF h20) rfl ?_) | (refine callQF_pure (equalR_nil _) rfl ?_) | (refine callQF_pure (awakeT _) rfl ?_) | simp -implicitDefEqProofs (disch := omega) only [h0, h1, h16, h17, h18, hs, dT_lt, dF_lt, dT_le, dF_le, dT_eq, dF_eq, push_cast, ↓reduceIte, Nat.reduceEqDiff, reduceCtorEq, Nat.reduceAdd, Nat.reduceSub, Nat.reduceMul, Nat.reduceLeDiff, Nat.reduceLT, Nat.reduceMod, Nat.reduceDiv, Int.reduceToNat, Int.reduceLT, Int.reduceLE, Int.reduceEq, Int.reduceAdd, Int.reduceSub, Int.reduceNeg, Int.reduceMul, Bool.and_self] | split)
          all_goals exact ⟨_, rfl⟩
        · have htl : (ts.length : Int) < 9223372036854775807 := by omega
          repeat' (first | (refine And.intro (by omega) ?_) | (refine callF_pure (scalars rs l _ hF h20) ?_) | (refine callF_pure (scalarsR rs l _ hF h20) ?_) | (refine callF_pure (equalR ts ts _ htl htl) ?_) | (refine callF_pure (awakeT _) ?_) | (refine callQF_pure (scalars rs l _ hF h20) rfl ?_) | (refine callQF_pure (scalarsR rs l _ hF h20) rfl ?_) | (refine callQF_pure (equalR ts ts _ htl htl) rfl ?_) | (refine callQF_pure (awakeT _) rfl ?_) | simp -implicitDefEqProofs (disch := omega) only [h0, h1, h16, h17, h18, hs, dT_lt, dF_lt, dT_le, dF_le, dT_eq, dF_eq, push_cast, ↓reduceIte, Nat.reduceEqDiff, reduceCtorEq, Nat.reduceAdd, Nat.reduceSub, Nat.reduceMul, Nat.reduceLeDiff, Nat.reduceLT, Nat.reduceMod, Nat.reduceDiv, Int.reduceToNat, Int.reduceLT, Int.reduceLE, Int.reduceEq, Int.reduceAdd, Int.reduceSub, Int.reduceNeg, Int.reduceMul, Bool.and_self] | split)
          all_goals exact ⟨_, rfl⟩
    · repeat' (first | (refine And.intro (by omega) ?_) | (refine callF_pure (few rs _ hr) ?_) | (refine callF_pure (awakeT _) ?_) | (refine callQF_pure (few rs _ hr) rfl ?_) | (refine callQF_pure (awakeT _) rfl ?_) | simp -implicitDefEqProofs (disch := omega) only [L4, hf, dT_lt, dF_lt, dT_le, dF_le, dT_eq, dF_eq, push_cast, ↓reduceIte, Nat.reduceEqDiff, reduceCtorEq, Nat.reduceAdd, Nat.reduceSub, Nat.reduceMul, Nat.reduceLeDiff, Nat.reduceLT, Nat.reduceMod, Nat.reduceDiv, Int.reduceToNat, Int.reduceLT, Int.reduceLE, Int.reduceEq, Int.reduceAdd, Int.reduceSub, Int.reduceNeg, Int.reduceMul, Bool.and_self] | split)
      exact ⟨[], by simp⟩
  · have hf' := Bool.eq_false_iff.2 hf
    repeat' (first | (refine And.intro (by omega) ?_) | (refine callF_pure (few rs _ hr) ?_) | (refine callF_pure (awakeT _) ?_) | (refine callQF_pure (few rs _ hr) rfl ?_) | (refine callQF_pure (awakeT _) rfl ?_) | simp -implicitDefEqProofs (disch := omega) only [L4, hf', dT_lt, dF_lt, dT_le, dF_le, dT_eq, dF_eq, push_cast, ↓reduceIte, Nat.reduceEqDiff, reduceCtorEq, Nat.reduceAdd, Nat.reduceSub, Nat.reduceMul, Nat.reduceLeDiff, Nat.reduceLT, Nat.reduceMod, Nat.reduceDiv, Int.reduceToNat, Int.reduceLT, Int.reduceLE, Int.reduceEq, Int.reduceAdd, Int.reduceSub, Int.reduceNeg, Int.reduceMul, Bool.and_self] | split)
    exact ⟨[], by simp⟩
theorem sameF_iff {a : Ty} {ra : List Rc} {b : Ty} {rb : List Rc} : sameF a ra b rb = true ↔ validF a ra = true ∧ validF b rb = true ∧ a = b ∧ (¬ a.k = 4 ∨ fldF ra a.rc = fldF rb b.rc) := by
  simp only [sameF, Bool.and_eq_true, Bool.or_eq_true, decide_eq_true_eq, Bool.not_eq_true', decide_eq_false_iff_not, and_assoc]
theorem sameF_symm (a : Ty) (ra : List Rc) (b : Ty) (rb : List Rc) : sameF a ra b rb = sameF b rb a ra := by
  rw [Bool.eq_iff_iff, sameF_iff, sameF_iff]
  constructor
  · rintro ⟨h1, h2, rfl, h4⟩; exact ⟨h2, h1, rfl, h4.imp id Eq.symm⟩
  · rintro ⟨h1, h2, rfl, h4⟩; exact ⟨h2, h1, rfl, h4.imp id Eq.symm⟩
theorem sameF_self (a : Ty) (ra : List Rc) : sameF a ra a ra = validF a ra := by
  rw [Bool.eq_iff_iff, sameF_iff]
  exact ⟨fun h => h.1, fun h => ⟨h, h, rfl, .inr rfl⟩⟩
theorem scal1_fld (rs : List Rc) (t : Ty) : scal1 rs t = if t.k = 3 then List.replicate t.len.toNat tyI else if t.k = 4 then (fldF rs t.rc).map fun f => scF f.ty else [⟨t.k, 0, []⟩] := by
  unfold scal1 fldF
  split
  · rfl
  · split
    · split <;> simp_all
    · rfl
theorem same_scal {a : Ty} {ra : List Rc} {b : Ty} {rb : List Rc} (hf : Few ra) (h : sameF a ra b rb = true) : ∃ ts : List Ty, scalV ra [a] = .sl 3 (ts.map tyR) ∧ scalV rb [b] = .sl 3 (ts.map tyR) ∧ (ts.length : Int) < 9223372036854775807 := by
  obtain ⟨h1, h2, rfl, h4⟩ := sameF_iff.1 h
  have e : scal1 ra a = scal1 rb a := by
    rw [scal1_fld, scal1_fld]
    by_cases hk : a.k = 4
    · rw [h4.resolve_left (fun h => h hk)]
    · simp [hk]
  have := scal1_len hf h1
  exact ⟨scal1 ra a, scalV_1 h1, by rw [scalV_1 h2, e], by omega⟩

theorem typesSame (a b : Ty) (ra rb : List Rc) (hra : ra.length ≤ 9223372036854775807) (hrb : rb.length ≤ 9223372036854775807) (H : AHeap) : Comp' 6 [.sl 2 (ra.map rcR), .sl 2 (rb.map rcR), .agg (tyR a), .agg (tyR b)] H (bool true) := by
  refine ACall.drop (R := fun x => x = bool true) ?_
  refine enter Try.func6 L6_ok (Nat.le_of_ble_eq_true rfl) ?_
  by_cases hfa : fewF ra = true
  · by_cases hfb : fewF rb = true
    · have hFa := few_of hfa
      have hFb := few_of hfb
      have hal := hFa.len
      have hbl := hFb.len
      have h1 := sameF_symm a ra b rb
      have h2 := sameF_self a ra
      by_cases hs : sameF a ra b rb = true
      · obtain ⟨ts, e1, e2, e3⟩ := same_scal hFa hs
        rw [hs] at h1
        repeat' (first | (refine And.intro (by omega) ?_) | (refine callF_pure (few ra _ hra) ?_) | (refine callF_pure (few rb _ hrb) ?_) | (refine callF_pure (same a ra b rb _ hFa hFb) ?_) | (refine callF_pure (same b rb a ra _ hFb hFa) ?_) | (refine callF_pure (same a ra a ra _ hFa hFa) ?_) | (refine callF_pure (valid a ra _ (by omega)) ?_) | (refine callF_pure (scalars ra [a] _ hFa (by simp)) ?_) | (refine callF_pure (scalars rb [b] _ hFb (by simp)) ?_) | (refine callF_pure (equalR ts ts _ (by omega) (by omega)) ?_) | (refine callF_pure (awakeT _) ?_) | (refine callQF_pure (few ra _ hra) rfl ?_) | (refine callQF_pure (few rb _ hrb) rfl ?_) | (refine callQF_pure (same a ra b rb _ hFa hFb) rfl ?_) | (refine callQF_pure (same b rb a ra _ hFb hFa) rfl ?_) | (refine callQF_pure (same a ra a ra _ hFa hFa) rfl ?_) | (refine callQF_pure (valid a ra _ (by omega)) rfl ?_) | (refine callQF_pure (scalars ra [a] _ hFa (by simp)) rfl ?_) | (refine callQF_pure (scalars rb [b] _ hFb (by simp)) rfl ?_) | (refine callQF_pure (equalR ts ts _ (by omega) (by omega)) rfl ?_) | (refine callQF_pure (awakeT _) rfl ?_) | simp -implicitDefEqProofs (disch := omega) only [L6, tyR, hfa, hfb, hs, ← h1, h2, e1, e2, dT_lt, dF_lt, dT_le, dF_le, dT_eq, dF_eq, push_cast, ↓reduceIte, Nat.reduceEqDiff, reduceCtorEq, Nat.reduceAdd, Nat.reduceSub, Nat.reduceMul, Nat.reduceLeDiff, Nat.reduceLT, Nat.reduceMod, Nat.reduceDiv, Int.reduceToNat, Int.reduceLT, Int.reduceLE, Int.reduceEq, Int.reduceAdd, Int.reduceSub, Int.reduceNeg, Int.reduceMul, Bool.and_self] | split)
        all_goals exact ⟨_, rfl⟩
      · have hs' := Bool.eq_false_iff.2 hs
        rw [hs'] at h1
        repeat' (first | (refine And.intro (by omega) ?_) | (refine callF_pure (few ra _ hra) ?_) | (refine callF_pure (few rb _ hrb) ?_) | (refine callF_pure (same a ra b rb _ hFa hFb) ?_) | (refine callF_pure (same b rb a ra _ hFb hFa) ?_) | (refine callF_pure (same a ra a ra _ hFa hFa) ?_) | (refine callF_pure (valid a ra _ (by omega)) ?_) | (refine callF_pure (awakeT _) ?_) | (refine callQF_pure (few ra _ hra) rfl ?_) | (refine callQF_pure (few rb _ hrb) rfl ?_) | (refine callQF_pure (same a ra b rb _ hFa hFb) rfl ?_) | (refine callQF_pure (same b rb a ra _ hFb hFa) rfl ?_) | (refine callQF_pure (same a ra a ra _ hFa hFa) rfl ?_) | (refine callQF_pure (valid a ra _ (by omega)) rfl ?_) | (refine callQF_pure (awakeT _) rfl ?_) | simp -implicitDefEqProofs (disch := omega) only [L6, tyR, hfa, hfb, hs', ← h1, h2, dT_lt, dF_lt, dT_le, dF_le, dT_eq, dF_eq, push_cast, ↓reduceIte, Nat.reduceEqDiff, reduceCtorEq, Nat.reduceAdd, Nat.reduceSub, Nat.reduceMul, Nat.reduceLeDiff, Nat.reduceLT, Nat.reduceMod, Nat.reduceDiv, Int.reduceToNat, Int.reduceLT, Int.reduceLE, Int.reduceEq, Int.reduceAdd, Int.reduceSub, Int.reduceNeg, Int.reduceMul, Bool.and_self] | split)
        all_goals exact ⟨_, rfl⟩
    · have hf' := Bool.eq_false_iff.2 hfb
      repeat' (first | (refine And.intro (by omega) ?_) | (refine callF_pure (few ra _ hra) ?_) | (refine callF_pure (few rb _ hrb) ?_) | (refine callF_pure (awakeT _) ?_) | (refine callQF_pure (few ra _ hra) rfl ?_) | (refine callQF_pure (few rb _ hrb) rfl ?_) | (refine callQF_pure (awakeT _) rfl ?_) | simp -implicitDefEqProofs (disch := omega) only [L6, hfa, hf', tyR, dT_lt, dF_lt, dT_le, dF_le, dT_eq, dF_eq, push_cast, ↓reduceIte, Nat.reduceEqDiff, reduceCtorEq, Nat.reduceAdd, Nat.reduceSub, Nat.reduceMul, Nat.reduceLeDiff, Nat.reduceLT, Nat.reduceMod, Nat.reduceDiv, Int.reduceToNat, Int.reduceLT, Int.reduceLE, Int.reduceEq, Int.reduceAdd, Int.reduceSub, Int.reduceNeg, Int.reduceMul, Bool.and_self] | split)
      all_goals exact ⟨_, rfl⟩
  · have hf' := Bool.eq_false_iff.2 hfa
    repeat' (first | (refine And.intro (by omega) ?_) | (refine callF_pure (few ra _ hra) ?_) | (refine callF_pure (few rb _ hrb) ?_) | (refine callF_pure (awakeT _) ?_) | (refine callQF_pure (few ra _ hra) rfl ?_) | (refine callQF_pure (few rb _ hrb) rfl ?_) | (refine callQF_pure (awakeT _) rfl ?_) | simp -implicitDefEqProofs (disch := omega) only [L6, hf', tyR, dT_lt, dF_lt, dT_le, dF_le, dT_eq, dF_eq, push_cast, ↓reduceIte, Nat.reduceEqDiff, reduceCtorEq, Nat.reduceAdd, Nat.reduceSub, Nat.reduceMul, Nat.reduceLeDiff, Nat.reduceLT, Nat.reduceMod, Nat.reduceDiv, Int.reduceToNat, Int.reduceLT, Int.reduceLE, Int.reduceEq, Int.reduceAdd, Int.reduceSub, Int.reduceNeg, Int.reduceMul, Bool.and_self] | split)
    all_goals exact ⟨_, rfl⟩
end Go.Proofs.Ytdibceakkjmpgaa
