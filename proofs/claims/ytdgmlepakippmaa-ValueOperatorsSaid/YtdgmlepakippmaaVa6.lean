/- Values, part 6: Format. -/
import Derived.Test.YtdgmlepakippmaaVa5
namespace Go.Proofs.Ytdgmlepakippmaa
open Go Go.Ax
set_option maxRecDepth 100000
set_option linter.unusedSimpArgs false
set_option linter.unusedVariables false

abbrev trueS : List UInt8 := [116, 114, 117, 101]
abbrev falseS : List UInt8 := [102, 97, 108, 115, 101]
def wordF (s : Ty) (n : Int) : List UInt8 := if s.k = 2 then (if n = 0 then falseS else trueS) else decZ n
def wordsF (sc : List Ty) (l : List Int) : List (List UInt8) := List.zipWith wordF sc l
def closeF (t : Ty) (s : List UInt8) : List UInt8 := if t.k = 3 then [91] ++ s ++ [93] else if t.k = 4 then t.rc ++ [40] ++ s ++ [41] else s
def fmtF (t : Ty) (rs : List Rc) (l : List Int) : List UInt8 := if validF t rs = true ∧ (scal1 rs t).length = l.length then closeF t (Lib.join (wordsF (scal1 rs t) l) [44, 32]) else []
def sR (x : List UInt8) : List AV := [str x]

theorem decZ_len {n : Int} (h : i64R n) : (decZ n).length ≤ 20 := by
  unfold i64R at h
  unfold decZ
  split
  · simp only [List.length_cons]
    have := decF_len 18 n.natAbs (by omega)
    omega
  · have := decF_len 18 n.natAbs (by omega)
    omega
theorem wordF_len (s : Ty) {n : Int} (h : i64R n) : (wordF s n).length ≤ 20 := by
  unfold wordF
  split
  · split <;> simp
  · exact decZ_len h
theorem join_len (xs : List (List UInt8)) (sep : List UInt8) (k : Nat) (h : ∀ x ∈ xs, x.length ≤ k) : (Lib.join xs sep).length ≤ xs.length * (k + sep.length) := by
  cases xs with
  | nil => simp [Lib.join_nil]
  | cons x xs =>
    have hx := h x (by simp)
    rw [Lib.join_cons]
    have : (Lib.joinTail sep xs).length ≤ xs.length * (k + sep.length) := by
      unfold Lib.joinTail
      have hh : ∀ y ∈ xs, y.length ≤ k := fun y hy => h y (by simp [hy])
      clear h
      induction xs with
      | nil => simp
      | cons y ys ih =>
        have hy := hh y (by simp)
        have h2 := ih fun z hz => hh z (by simp [hz])
        simp only [List.map_cons, List.flatten_cons, List.length_append, List.length_cons, Nat.succ_mul] at h2 ⊢
        omega
    simp only [List.length_append, List.length_cons, Nat.succ_mul]
    omega
theorem words_len {sc : List Ty} {l : List Int} (h : sc.length = l.length) : (wordsF sc l).length = l.length := by simp [wordsF, h]
theorem words_get {sc : List Ty} {l : List Int} {j : Nat} (h : sc.length = l.length) (hj : j < l.length) : (wordsF sc l).getD j default = wordF (sc.getD j default) (l.getD j default) := by
  simp [wordsF, List.getD, List.getElem?_eq_getElem, hj, h]
theorem words_le {sc : List Ty} {l : List Int} (hr : allR l) : ∀ x ∈ wordsF sc l, x.length ≤ 20 := by
  intro x hx
  unfold wordsF at hx
  obtain ⟨i, hi, rfl⟩ := List.mem_iff_getElem.1 hx
  simp only [List.length_zipWith] at hi
  simp only [List.getElem_zipWith]
  refine wordF_len _ ?_
  have := hr i (by omega)
  rwa [show l.getD i default = l[i]'(by omega) by simp [List.getD, List.getElem?_eq_getElem (show i < l.length by omega)]] at this
theorem scalV_one {rs : List Rc} {t : Ty} (h : validF t rs = true) : scalV rs [t] = .sl 3 ((scal1 rs t).map tyR) := by
  simp [scalV, h]
theorem scalV_bad {rs : List Rc} {t : Ty} (h : validF t rs = false) : scalV rs [t] = nilS := by
  simp [scalV, h]

theorem fmtC (t : Ty) (rs : List Rc) (l : List Int) (hf : Few rs) (hrc : t.rc.length ≤ 1000000) (hr : allR l) (hl : big l.length) (H : AHeap) : Comp' 27 [.agg (tyR t), .sl 2 (rs.map rcR), .sl 1 (l.map iR)] H (str (fmtF t rs l)) := by
  refine ACall.drop (R := fun x => x = str (fmtF t rs l)) ?_
  refine enter Try.func27 L27_ok (Nat.le_of_ble_eq_true rfl) ?_
  have hrl := hf.len
  unfold big at hl
  have hs := fun H => scalars rs [t] H hf (by simp)
  have hva := fun H => valid t rs H (by omega)
  simp only [List.map_cons, List.map_nil, tyR] at hs hva
  cases hv : validF t rs <;> rw [hv] at hva
  · have e : fmtF t rs l = [] := by unfold fmtF; rw [hv]; rfl
    rw [e]
    rw [scalV_bad hv] at hs
    repeat' (first | (refine And.intro (by omega) ?_) | (refine callF_pure (hs _) ?_) | (refine callF_pure (hva _) ?_) | (refine callQF_pure (hs _) rfl ?_) | (refine callQF_pure (hva _) rfl ?_) | simp -implicitDefEqProofs (disch := omega) only [L27, hv, tyR, dT_lt, dF_lt, dT_le, dF_le, dT_eq, dF_eq, push_cast, ↓reduceIte, Nat.reduceEqDiff, reduceCtorEq, Nat.reduceAdd, Nat.reduceSub, Nat.reduceMul, Nat.reduceLeDiff, Nat.reduceLT, Nat.reduceMod, Nat.reduceDiv, Int.reduceToNat, Int.reduceLT, Int.reduceLE, Int.reduceEq, Int.reduceAdd, Int.reduceSub, Int.reduceNeg, Int.reduceMul, Bool.and_self] | split)
    exact ⟨_, rfl⟩
  · rw [scalV_one hv] at hs
    have hsl := scal1_len hf hv
    by_cases hlen : (scal1 rs t).length = l.length
    · have e : fmtF t rs l = closeF t (Lib.join (wordsF (scal1 rs t) l) [44, 32]) := by unfold fmtF; rw [if_pos ⟨hv, hlen⟩]
      rw [e]
      generalize scal1 rs t = sc at *
      repeat' (first | (refine And.intro (by omega) ?_) | (refine callF_pure (hs _) ?_) | (refine callF_pure (hva _) ?_) | (refine callQF_pure (hs _) rfl ?_) | (refine callQF_pure (hva _) rfl ?_) | simp -implicitDefEqProofs (disch := omega) only [L27, tyR, dT_lt, dF_lt, dT_le, dF_le, dT_eq, dF_eq, push_cast, ↓reduceIte, Nat.reduceEqDiff, reduceCtorEq, Nat.reduceAdd, Nat.reduceSub, Nat.reduceMul, Nat.reduceLeDiff, Nat.reduceLT, Nat.reduceMod, Nat.reduceDiv, Int.reduceToNat, Int.reduceLT, Int.reduceLE, Int.reduceEq, Int.reduceAdd, Int.reduceSub, Int.reduceNeg, Int.reduceMul, Bool.and_self] | split)
      refine rk_loopS (fun (p : Nat × Nat × List HO) e' H' => e' 3 = .ptr H.length 0 0 ∧ e' 7 = .sl 3 (sc.map tyR) ∧ e' 8 = .os (H.length + 1) p.2.1 0 p.1 ∧ e' 27 = .sl 1 (l.map iR) ∧ e' 28 = int l.length ∧ e' 29 = int p.1 ∧ H' = H ++ .box (tyR t) :: .arr p.2.1 1 (((wordsF sc l).take p.1).map sR) :: p.2.2 ∧ p.1 ≤ l.length) (fun p => l.length - p.1) (0, 0, []) ?_ ?_
      · exact ⟨rfl, rfl, rfl, rfl, rfl, rfl, rfl, Nat.zero_le _⟩
      rintro ⟨j, ver, rest⟩ e' H' ⟨h3, h7, h8, h27, h28, h29, rfl, hj⟩
      simp only at h3 h7 h8 h27 h28 h29 hj
      by_cases hlt : j < l.length
      · have hwl := words_len hlen
        have hg := words_get hlen hlt
        have hts := take_snoc (l := wordsF sc l) (j := j) (by omega)
        have htl : ((wordsF sc l).take j).length = j := by simp; omega
        have hfin : List.take j (((wordsF sc l).take j).map sR) ++ [sR ((wordsF sc l).getD j default)] = ((wordsF sc l).take (j + 1)).map sR := by
          rw [hts, List.map_append, List.take_of_length_le (by simp; omega)]; rfl
        rw [hg] at hfin
        by_cases hk : (sc.getD j default).k = 2
        · by_cases hn : l.getD j default = 0
          · have hw : wordF (sc.getD j default) (l.getD j default) = falseS := by unfold wordF; rw [if_pos hk, if_pos hn]
            rw [hw] at hfin
            generalize hte : sc.getD j default = te at *
            obtain ⟨k, len, rc⟩ := te
            simp only at hk
            repeat' (first | (refine And.intro (by omega) ?_) | simp -implicitDefEqProofs (disch := omega) only [h3, h7, h8, h27, h28, h29, rows_getD, tyR, iR, hte, dT_lt, dF_lt, dT_le, dF_le, dT_eq, dF_eq, push_cast, ↓reduceIte, Nat.reduceEqDiff, reduceCtorEq, Nat.reduceAdd, Nat.reduceSub, Nat.reduceMul, Nat.reduceLeDiff, Nat.reduceLT, Nat.reduceMod, Nat.reduceDiv, Int.reduceToNat, Int.reduceLT, Int.reduceLE, Int.reduceEq, Int.reduceAdd, Int.reduceSub, Int.reduceNeg, Int.reduceMul, Bool.and_self] | split)
            exact .mk (j + 1, ver + 1, rest) ⟨h3, h7, rfl, h27, h28, rfl, congrArg (fun z => H ++ HO.box (tyR t) :: HO.arr (ver + 1) 1 z :: rest) hfin, hlt⟩ (by simp only; omega)
          · have hw : wordF (sc.getD j default) (l.getD j default) = trueS := by unfold wordF; rw [if_pos hk, if_neg hn]
            rw [hw] at hfin
            generalize hte : sc.getD j default = te at *
            obtain ⟨k, len, rc⟩ := te
            simp only at hk
            repeat' (first | (refine And.intro (by omega) ?_) | simp -implicitDefEqProofs (disch := omega) only [h3, h7, h8, h27, h28, h29, rows_getD, tyR, iR, hte, dT_lt, dF_lt, dT_le, dF_le, dT_eq, dF_eq, push_cast, ↓reduceIte, Nat.reduceEqDiff, reduceCtorEq, Nat.reduceAdd, Nat.reduceSub, Nat.reduceMul, Nat.reduceLeDiff, Nat.reduceLT, Nat.reduceMod, Nat.reduceDiv, Int.reduceToNat, Int.reduceLT, Int.reduceLE, Int.reduceEq, Int.reduceAdd, Int.reduceSub, Int.reduceNeg, Int.reduceMul, Bool.and_self] | split)
            exact .mk (j + 1, ver + 1, rest) ⟨h3, h7, rfl, h27, h28, rfl, congrArg (fun z => H ++ HO.box (tyR t) :: HO.arr (ver + 1) 1 z :: rest) hfin, hlt⟩ (by simp only; omega)
        · have hdz := hr j hlt
          have hw : wordF (sc.getD j default) (l.getD j default) = decZ (l.getD j default) := by unfold wordF; rw [if_neg hk]
          rw [hw] at hfin
          generalize hte : sc.getD j default = te at *
          obtain ⟨k, len, rc⟩ := te
          simp only at hk
          repeat' (first | (refine And.intro (by omega) ?_) | (refine callF_pure (decimalV _ hdz _) ?_) | (refine callQF_pure (decimalV _ hdz _) rfl ?_) | simp -implicitDefEqProofs (disch := omega) only [h3, h7, h8, h27, h28, h29, rows_getD, tyR, iR, hte, dT_lt, dF_lt, dT_le, dF_le, dT_eq, dF_eq, push_cast, ↓reduceIte, Nat.reduceEqDiff, reduceCtorEq, Nat.reduceAdd, Nat.reduceSub, Nat.reduceMul, Nat.reduceLeDiff, Nat.reduceLT, Nat.reduceMod, Nat.reduceDiv, Int.reduceToNat, Int.reduceLT, Int.reduceLE, Int.reduceEq, Int.reduceAdd, Int.reduceSub, Int.reduceNeg, Int.reduceMul, Bool.and_self] | split)
          exact .mk (j + 1, ver + 1, rest) ⟨h3, h7, rfl, h27, h28, rfl, congrArg (fun z => H ++ HO.box (tyR t) :: HO.arr (ver + 1) 1 z :: rest) hfin, hlt⟩ (by simp only; omega)
      · have hjl : j = l.length := by omega
        have hwl := words_len hlen
        have hall : List.take j (((wordsF sc l).take j).map sR) = (wordsF sc l).map sR := by
          rw [List.take_of_length_le (by simp; omega), List.take_of_length_le (by omega)]
        have htl : ((wordsF sc l).take j).length = j := by simp; omega
        have hjn := join_len (wordsF sc l) [44, 32] 20 (words_le hr)
        have hjj : (Lib.join (wordsF sc l) [44, 32]).length ≤ 440 := by simp at hjn; omega
        have hJ := fun H => joinC (wordsF sc l) [44, 32] (by omega) (by omega) H
        generalize Lib.join (wordsF sc l) [44, 32] = jn at *
        have hJ' : ∀ H, ACall Try.prog 30 [.sl 1 ((wordsF sc l).map sR), str [44, 32]] H fun x H' => x = str jn ∧ H' = H := hJ
        by_cases k3 : t.k = 3
        · have ec : closeF t jn = [91] ++ jn ++ [93] := by unfold closeF; rw [if_pos k3]
          rw [ec]
          repeat' (first | (refine And.intro (by omega) ?_) | (refine callF_pure (hJ' _) ?_) | (refine callQF_pure (hJ' _) rfl ?_) | simp -implicitDefEqProofs (disch := omega) only [h3, h7, h8, h27, h28, h29, hall, tyR, dT_lt, dF_lt, dT_le, dF_le, dT_eq, dF_eq, push_cast, ↓reduceIte, Nat.reduceEqDiff, reduceCtorEq, Nat.reduceAdd, Nat.reduceSub, Nat.reduceMul, Nat.reduceLeDiff, Nat.reduceLT, Nat.reduceMod, Nat.reduceDiv, Int.reduceToNat, Int.reduceLT, Int.reduceLE, Int.reduceEq, Int.reduceAdd, Int.reduceSub, Int.reduceNeg, Int.reduceMul, Bool.and_self] | split)
          exact ⟨_, rfl⟩
        · by_cases k4 : t.k = 4
          · have ec : closeF t jn = t.rc ++ [40] ++ jn ++ [41] := by unfold closeF; rw [if_neg k3, if_pos k4]
            rw [ec]
            repeat' (first | (refine And.intro (by omega) ?_) | (refine callF_pure (hJ' _) ?_) | (refine callQF_pure (hJ' _) rfl ?_) | simp -implicitDefEqProofs (disch := omega) only [h3, h7, h8, h27, h28, h29, hall, tyR, dT_lt, dF_lt, dT_le, dF_le, dT_eq, dF_eq, push_cast, ↓reduceIte, Nat.reduceEqDiff, reduceCtorEq, Nat.reduceAdd, Nat.reduceSub, Nat.reduceMul, Nat.reduceLeDiff, Nat.reduceLT, Nat.reduceMod, Nat.reduceDiv, Int.reduceToNat, Int.reduceLT, Int.reduceLE, Int.reduceEq, Int.reduceAdd, Int.reduceSub, Int.reduceNeg, Int.reduceMul, Bool.and_self] | split)
            exact ⟨_, rfl⟩
          · have ec : closeF t jn = jn := by unfold closeF; rw [if_neg k3, if_neg k4]
            rw [ec]
            repeat' (first | (refine And.intro (by omega) ?_) | (refine callF_pure (hJ' _) ?_) | (refine callQF_pure (hJ' _) rfl ?_) | simp -implicitDefEqProofs (disch := omega) only [h3, h7, h8, h27, h28, h29, hall, tyR, dT_lt, dF_lt, dT_le, dF_le, dT_eq, dF_eq, push_cast, ↓reduceIte, Nat.reduceEqDiff, reduceCtorEq, Nat.reduceAdd, Nat.reduceSub, Nat.reduceMul, Nat.reduceLeDiff, Nat.reduceLT, Nat.reduceMod, Nat.reduceDiv, Int.reduceToNat, Int.reduceLT, Int.reduceLE, Int.reduceEq, Int.reduceAdd, Int.reduceSub, Int.reduceNeg, Int.reduceMul, Bool.and_self] | split)
            exact ⟨_, rfl⟩
    · have e : fmtF t rs l = [] := by unfold fmtF; rw [if_neg fun h => hlen h.2]
      rw [e]
      repeat' (first | (refine And.intro (by omega) ?_) | (refine callF_pure (hs _) ?_) | (refine callF_pure (hva _) ?_) | (refine callQF_pure (hs _) rfl ?_) | (refine callQF_pure (hva _) rfl ?_) | simp -implicitDefEqProofs (disch := omega) only [L27, hv, tyR, dT_lt, dF_lt, dT_le, dF_le, dT_eq, dF_eq, push_cast, ↓reduceIte, Nat.reduceEqDiff, reduceCtorEq, Nat.reduceAdd, Nat.reduceSub, Nat.reduceMul, Nat.reduceLeDiff, Nat.reduceLT, Nat.reduceMod, Nat.reduceDiv, Int.reduceToNat, Int.reduceLT, Int.reduceLE, Int.reduceEq, Int.reduceAdd, Int.reduceSub, Int.reduceNeg, Int.reduceMul, Bool.and_self] | split)
      exact ⟨_, rfl⟩
end Go.Proofs.Ytdgmlepakippmaa
