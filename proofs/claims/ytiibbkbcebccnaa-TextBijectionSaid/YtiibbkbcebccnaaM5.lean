/- Parts, merged by a program (wip/tools/merge.py): Tb20. -/
import Derived.Test.YtiibbkbcebccnaaM4
/- Texts: the law TextBijection. -/
namespace Go.Proofs.Ytiibbkbcebccnaa
open Go Go.Ax Go.RowKit
set_option maxRecDepth 100000
set_option linter.unusedSimpArgs false
set_option linter.unusedVariables false

/-- The key of an offset. -/
def keyP (s : List UInt8) (i : Nat) : Value := .agg #[.int .i64 (posF s i).1, .int .i64 (posF s i).2]
def keysP (s : List UInt8) (j : Nat) : List Value := (List.range j).map (keyP s)
theorem keysP_snoc (s : List UInt8) (j : Nat) : keysP s (j + 1) = keysP s j ++ [keyP s j] := by simp [keysP, List.range_succ]
theorem pos_off {s : List UInt8} {i : Nat} (hi : i ≤ s.length) : offOk s (posF s i).1 (posF s i).2 ∧ (i : Int) = frF s (posF s i).1 + (posF s i).2 - 1 := (pos_iff hi _ _).1 rfl
theorem keys_fresh {s : List UInt8} {j : Nat} (hj : j ≤ s.length) : ∀ k' ∈ keysP s j, kCmp (keyP s j) k' = true ∧ kEq (keyP s j) k' = false := by
  intro k' hk
  simp only [keysP, List.mem_map, List.mem_range] at hk
  obtain ⟨i, hi, rfl⟩ := hk
  have h1 := (pos_off (s := s) (i := j) hj).2
  have h2 := (pos_off (s := s) (i := i) (by omega)).2
  refine ⟨by simp [keyP, kCmp, kCmp2], ?_⟩
  simp only [keyP, kEq, kEq2, Bool.and_eq_false_iff, beq_eq_false_iff_ne, ne_eq]
  by_cases h3 : (posF s j).1 = (posF s i).1
  · right
    intro h4
    rw [h3, h4] at h1
    omega
  · exact .inl h3

theorem textBijection (s : List UInt8) (H : AHeap) : Comp' 8 [str s] H (bool true) := by
  refine ACall.drop (R := fun x => x = bool true) ?_
  refine enter Try.func8 L8z_ok (Nat.le_of_ble_eq_true rfl) ?_
  by_cases hs : s.length ≤ 200
  · have c0 := fun H => contC s 13 H
    cases hcont : decide (0 ≤ Lib.indexByte s 13) with
    | true =>
      rw [hcont] at c0
      repeat' (first | (refine And.intro (by omega) ?_) | (refine callF_pure (c0 _) ?_) | (refine callF_pure (awakeC _) ?_) | (refine callQF_pure (c0 _) (by first | rfl | simp -implicitDefEqProofs (disch := omega) only [L8z, dT_lt, dF_lt, dT_le, dF_le, dT_eq, dF_eq, push_cast, ↓reduceIte, Nat.reduceEqDiff, reduceCtorEq, Nat.reduceAdd, Nat.reduceSub, Nat.reduceMul, Nat.reduceLeDiff, Nat.reduceLT, Nat.reduceMod, Nat.reduceDiv, Int.reduceToNat, Int.reduceLT, Int.reduceLE, Int.reduceEq, Int.reduceAdd, Int.reduceSub, Int.reduceNeg, Int.reduceMul, Bool.and_self]) ?_) | (refine callQF_pure (awakeC _) (by first | rfl | simp -implicitDefEqProofs (disch := omega) only [L8z, dT_lt, dF_lt, dT_le, dF_le, dT_eq, dF_eq, push_cast, ↓reduceIte, Nat.reduceEqDiff, reduceCtorEq, Nat.reduceAdd, Nat.reduceSub, Nat.reduceMul, Nat.reduceLeDiff, Nat.reduceLT, Nat.reduceMod, Nat.reduceDiv, Int.reduceToNat, Int.reduceLT, Int.reduceLE, Int.reduceEq, Int.reduceAdd, Int.reduceSub, Int.reduceNeg, Int.reduceMul, Bool.and_self]) ?_) | simp -implicitDefEqProofs (disch := omega) only [L8z, dT_lt, dF_lt, dT_le, dF_le, dT_eq, dF_eq, push_cast, ↓reduceIte, Nat.reduceEqDiff, reduceCtorEq, Nat.reduceAdd, Nat.reduceSub, Nat.reduceMul, Nat.reduceLeDiff, Nat.reduceLT, Nat.reduceMod, Nat.reduceDiv, Int.reduceToNat, Int.reduceLT, Int.reduceLE, Int.reduceEq, Int.reduceAdd, Int.reduceSub, Int.reduceNeg, Int.reduceMul, Bool.and_self] | split)
      exact ⟨[], by simp⟩
    | false =>
      rw [hcont] at c0
      have hno := index_none s 13 hcont
      repeat' (first | (refine And.intro (by omega) ?_) | (refine callF_pure (c0 _) ?_) | (refine callQF_pure (c0 _) (by first | rfl | simp -implicitDefEqProofs (disch := omega) only [L8z, dT_lt, dF_lt, dT_le, dF_le, dT_eq, dF_eq, push_cast, ↓reduceIte, Nat.reduceEqDiff, reduceCtorEq, Nat.reduceAdd, Nat.reduceSub, Nat.reduceMul, Nat.reduceLeDiff, Nat.reduceLT, Nat.reduceMod, Nat.reduceDiv, Int.reduceToNat, Int.reduceLT, Int.reduceLE, Int.reduceEq, Int.reduceAdd, Int.reduceSub, Int.reduceNeg, Int.reduceMul, Bool.and_self]) ?_) | simp -implicitDefEqProofs (disch := omega) only [L8z, dT_lt, dF_lt, dT_le, dF_le, dT_eq, dF_eq, push_cast, ↓reduceIte, Nat.reduceEqDiff, reduceCtorEq, Nat.reduceAdd, Nat.reduceSub, Nat.reduceMul, Nat.reduceLeDiff, Nat.reduceLT, Nat.reduceMod, Nat.reduceDiv, Int.reduceToNat, Int.reduceLT, Int.reduceLE, Int.reduceEq, Int.reduceAdd, Int.reduceSub, Int.reduceNeg, Int.reduceMul, Bool.and_self] | split)
      refine rk_loopS (fun (j : Nat) e' G => e' 0 = str s ∧ e' 3 = .om H.length 0 ∧ e' 22 = int ((s.length : Int) + 1) ∧ e' 23 = int j ∧ G = H ++ [.map 0 (keysP s j) (List.replicate j (bool true))] ∧ j ≤ s.length + 1) (fun j => s.length + 1 - j) 0 ?_ ?_
      · exact ⟨rfl, rfl, rfl, rfl, rfl, Nat.zero_le _⟩
      rintro j e' G ⟨h0, h3, h22, h23, rfl, hj⟩
      by_cases hlt : j ≤ s.length
      · have c1 := fun H => posT s j (by omega) H
        obtain ⟨g1, g2⟩ := pos_off (s := s) (i := j) hlt
        have c2 := fun H => offTY s _ _ hs g1 H
        rw [← g2] at c2
        have hfr := keys_fresh hlt
        have hks := keysP_snoc s j
        have hkp : keyP s j = .agg #[.int .i64 (posF s j).1, .int .i64 (posF s j).2] := rfl
        have hrep : List.replicate (j + 1) (bool true) = List.replicate j (bool true) ++ [bool true] := List.replicate_succ'
        generalize List.replicate j (bool true) = vs at *
        rw [hkp] at hfr hks
        generalize (posF s j).1 = a at *
        generalize (posF s j).2 = b at *
        generalize hkk : keysP s j = ks at *
        have f1 : (∀ k' ∈ ks, kCmp (.agg #[.int .i64 a, .int .i64 b]) k' = true) = True := eq_true fun k' hk => (hfr k' hk).1
        have f2 : mget (.agg #[.int .i64 a, .int .i64 b]) ks vs = none := mget_fresh ks vs fun k' hk => (hfr k' hk).2
        have f3 : (∀ k' ∈ ks, kCmp (.agg #[.int .i64 a, .int .i64 b]) k' = true ∧ kEq (.agg #[.int .i64 a, .int .i64 b]) k' = false) = True := eq_true hfr
        have f4 : kIs (.agg [.int, .int]) (.agg #[.int .i64 a, .int .i64 b]) = true := rfl
        have hgm : ∀ x : HO, (H ++ [x])[H.length]? = some x := fun x => by simp
        have hsm : ∀ x y : HO, (H ++ [x]).set H.length y = H ++ [y] := fun x y => by simp
        repeat' (first | (refine And.intro (by omega) ?_) | (refine callF_pure (c1 _) ?_) | (refine callF_pure (c2 _) ?_) | (refine callQF_pure (c1 _) (by first | rfl | simp -implicitDefEqProofs (disch := omega) only [h0, h3, h22, h23, splice, f1, f2, f3, f4, hgm, hsm, lookV, dT_lt, dF_lt, dT_le, dF_le, dT_eq, dF_eq, push_cast, ↓reduceIte, Nat.reduceEqDiff, reduceCtorEq, Nat.reduceAdd, Nat.reduceSub, Nat.reduceMul, Nat.reduceLeDiff, Nat.reduceLT, Nat.reduceMod, Nat.reduceDiv, Int.reduceToNat, Int.reduceLT, Int.reduceLE, Int.reduceEq, Int.reduceAdd, Int.reduceSub, Int.reduceNeg, Int.reduceMul, Bool.and_self]) ?_) | (refine callQF_pure (c2 _) (by first | rfl | simp -implicitDefEqProofs (disch := omega) only [h0, h3, h22, h23, splice, f1, f2, f3, f4, hgm, hsm, lookV, dT_lt, dF_lt, dT_le, dF_le, dT_eq, dF_eq, push_cast, ↓reduceIte, Nat.reduceEqDiff, reduceCtorEq, Nat.reduceAdd, Nat.reduceSub, Nat.reduceMul, Nat.reduceLeDiff, Nat.reduceLT, Nat.reduceMod, Nat.reduceDiv, Int.reduceToNat, Int.reduceLT, Int.reduceLE, Int.reduceEq, Int.reduceAdd, Int.reduceSub, Int.reduceNeg, Int.reduceMul, Bool.and_self]) ?_) | simp -implicitDefEqProofs (disch := omega) only [h0, h3, h22, h23, splice, f1, f2, f3, f4, hgm, hsm, lookV, dT_lt, dF_lt, dT_le, dF_le, dT_eq, dF_eq, push_cast, ↓reduceIte, Nat.reduceEqDiff, reduceCtorEq, Nat.reduceAdd, Nat.reduceSub, Nat.reduceMul, Nat.reduceLeDiff, Nat.reduceLT, Nat.reduceMod, Nat.reduceDiv, Int.reduceToNat, Int.reduceLT, Int.reduceLE, Int.reduceEq, Int.reduceAdd, Int.reduceSub, Int.reduceNeg, Int.reduceMul, Bool.and_self] | split)
        exact .mk (j + 1) ⟨h0, h3, h22, rfl, by rw [hks, hrep], by omega⟩ (by omega)
      · generalize HO.map 0 (keysP s j) (List.replicate j (bool true)) = M
        have c3 := fun H => linesT s (by omega) H
        have hll := linG_len s s.length
        have hjn := all_lines s hno
        have c5 := fun H => joinC ((List.range (linA s).length).map (lnF s)) [10] (by simp only [List.length_map, List.length_range]; unfold linA; omega) (by rw [hjn]; omega) H
        rw [hjn] at c5
        repeat' (first | (refine And.intro (by omega) ?_) | (refine callF_pure (c3 _) ?_) | (refine callQF_pure (c3 _) (by first | rfl | simp -implicitDefEqProofs (disch := omega) only [h0, h3, h22, h23, List.length_map, dT_lt, dF_lt, dT_le, dF_le, dT_eq, dF_eq, push_cast, ↓reduceIte, Nat.reduceEqDiff, reduceCtorEq, Nat.reduceAdd, Nat.reduceSub, Nat.reduceMul, Nat.reduceLeDiff, Nat.reduceLT, Nat.reduceMod, Nat.reduceDiv, Int.reduceToNat, Int.reduceLT, Int.reduceLE, Int.reduceEq, Int.reduceAdd, Int.reduceSub, Int.reduceNeg, Int.reduceMul, Bool.and_self]) ?_) | simp -implicitDefEqProofs (disch := omega) only [h0, h3, h22, h23, List.length_map, dT_lt, dF_lt, dT_le, dF_le, dT_eq, dF_eq, push_cast, ↓reduceIte, Nat.reduceEqDiff, reduceCtorEq, Nat.reduceAdd, Nat.reduceSub, Nat.reduceMul, Nat.reduceLeDiff, Nat.reduceLT, Nat.reduceMod, Nat.reduceDiv, Int.reduceToNat, Int.reduceLT, Int.reduceLE, Int.reduceEq, Int.reduceAdd, Int.reduceSub, Int.reduceNeg, Int.reduceMul, Bool.and_self] | split)
        refine rk_loopS (fun (st : Nat × Nat) e' G => e' 0 = str s ∧ e' 9 = .os (H.length + 1) st.2 0 st.1 ∧ e' 60 = int (linA s).length ∧ e' 61 = int st.1 ∧ G = H ++ [M, .arr st.2 1 (((List.range st.1).map (lnF s)).map fun x => [str x])] ∧ st.1 ≤ (linA s).length) (fun st => (linA s).length - st.1) (0, 0) ?_ ?_
        · exact ⟨h0, rfl, rfl, rfl, rfl, Nat.zero_le _⟩
        clear h0 h3 h22 h23 e'
        rintro ⟨q, v⟩ e' G ⟨h0, h9, h60, h61, rfl, hq⟩
        simp only at h9 h61 hq
        have hql : (((List.range q).map (lnF s)).map fun x => [str x]).length = q := by simp
        by_cases hlq : q < (linA s).length
        · have c4 := fun H => lineTY s ((q : Int) + 1) hs ⟨by omega, by omega⟩ H
          have hsn : (((List.range (q + 1)).map (lnF s)).map fun x => [str x]) = (((List.range q).map (lnF s)).map fun x => [str x]) ++ [[str (lnF s q)]] := by simp [List.range_succ]
          change ∀ H, Comp' _ _ _ (str (lnF s q)) at c4
          have htk : ∀ l : List (List AV), l.length = q → l.take q = l := fun l h => List.take_of_length_le (by omega)
          have g1 : ∀ (x y : HO), (H ++ [x, y])[H.length + 1]? = some y := fun x y => by rw [get_add]; rfl
          have g2 : ∀ (x y z : HO), (H ++ [x, y]).set (H.length + 1) z = H ++ [x, z] := fun x y z => by rw [set_add]; rfl
          generalize ((List.range q).map (lnF s)).map (fun x => [str x]) = rows at *
          generalize lnF s q = ln at *
          have hla : (linA s).length ≤ 201 := by unfold linA; omega
          generalize (linA s).length = m at *
          repeat' (first | (refine And.intro (by omega) ?_) | (refine callF_pure (c4 _) ?_) | (refine callQF_pure (c4 _) (by first | rfl | simp -implicitDefEqProofs (disch := omega) only [h0, h9, h60, h61, splice, g1, g2, hql, dT_lt, dF_lt, dT_le, dF_le, dT_eq, dF_eq, push_cast, ↓reduceIte, Nat.reduceEqDiff, reduceCtorEq, Nat.reduceAdd, Nat.reduceSub, Nat.reduceMul, Nat.reduceLeDiff, Nat.reduceLT, Nat.reduceMod, Nat.reduceDiv, Int.reduceToNat, Int.reduceLT, Int.reduceLE, Int.reduceEq, Int.reduceAdd, Int.reduceSub, Int.reduceNeg, Int.reduceMul, Bool.and_self]) ?_) | simp -implicitDefEqProofs (disch := omega) only [h0, h9, h60, h61, splice, g1, g2, hql, dT_lt, dF_lt, dT_le, dF_le, dT_eq, dF_eq, push_cast, ↓reduceIte, Nat.reduceEqDiff, reduceCtorEq, Nat.reduceAdd, Nat.reduceSub, Nat.reduceMul, Nat.reduceLeDiff, Nat.reduceLT, Nat.reduceMod, Nat.reduceDiv, Int.reduceToNat, Int.reduceLT, Int.reduceLE, Int.reduceEq, Int.reduceAdd, Int.reduceSub, Int.reduceNeg, Int.reduceMul, Bool.and_self] | split)
          exact .mk (q + 1, v + 1) ⟨h0, rfl, h60, rfl, by rw [hsn, htk rows hql], hlq⟩ (by simp only; omega)
        · have e : q = (linA s).length := by omega
          have g1 : ∀ (x y : HO), (H ++ [x, y])[H.length + 1]? = some y := fun x y => by rw [get_add]; rfl
          have g2 : ∀ (x y z : HO), (H ++ [x, y]).set (H.length + 1) z = H ++ [x, z] := fun x y z => by rw [set_add]; rfl
          rw [← e] at c5 h60
          generalize (List.range q).map (lnF s) = ls at *
          have htk : (ls.map fun x => [str x]).take q = ls.map fun x => [str x] := List.take_of_length_le (by omega)
          have hql2 : ls.length = q := by simpa using hql
          repeat' (first | (refine And.intro (by omega) ?_) | (refine callF_pure (c5 _) ?_) | (refine callF_pure (awakeC _) ?_) | (refine callQF_pure (c5 _) (by first | rfl | simp -implicitDefEqProofs (disch := omega) only [h0, h9, h60, h61, g1, g2, htk, dT_lt, dF_lt, dT_le, dF_le, dT_eq, dF_eq, push_cast, ↓reduceIte, Nat.reduceEqDiff, reduceCtorEq, Nat.reduceAdd, Nat.reduceSub, Nat.reduceMul, Nat.reduceLeDiff, Nat.reduceLT, Nat.reduceMod, Nat.reduceDiv, Int.reduceToNat, Int.reduceLT, Int.reduceLE, Int.reduceEq, Int.reduceAdd, Int.reduceSub, Int.reduceNeg, Int.reduceMul, Bool.and_self]) ?_) | (refine callQF_pure (awakeC _) (by first | rfl | simp -implicitDefEqProofs (disch := omega) only [h0, h9, h60, h61, g1, g2, htk, dT_lt, dF_lt, dT_le, dF_le, dT_eq, dF_eq, push_cast, ↓reduceIte, Nat.reduceEqDiff, reduceCtorEq, Nat.reduceAdd, Nat.reduceSub, Nat.reduceMul, Nat.reduceLeDiff, Nat.reduceLT, Nat.reduceMod, Nat.reduceDiv, Int.reduceToNat, Int.reduceLT, Int.reduceLE, Int.reduceEq, Int.reduceAdd, Int.reduceSub, Int.reduceNeg, Int.reduceMul, Bool.and_self]) ?_) | simp -implicitDefEqProofs (disch := omega) only [h0, h9, h60, h61, g1, g2, htk, dT_lt, dF_lt, dT_le, dF_le, dT_eq, dF_eq, push_cast, ↓reduceIte, Nat.reduceEqDiff, reduceCtorEq, Nat.reduceAdd, Nat.reduceSub, Nat.reduceMul, Nat.reduceLeDiff, Nat.reduceLT, Nat.reduceMod, Nat.reduceDiv, Int.reduceToNat, Int.reduceLT, Int.reduceLE, Int.reduceEq, Int.reduceAdd, Int.reduceSub, Int.reduceNeg, Int.reduceMul, Bool.and_self] | split)
          exact ⟨_, rfl⟩
  · repeat' (first | (refine And.intro (by omega) ?_) | (refine callF_pure (awakeC _) ?_) | (refine callQF_pure (awakeC _) (by first | rfl | simp -implicitDefEqProofs (disch := omega) only [L8z, dT_lt, dF_lt, dT_le, dF_le, dT_eq, dF_eq, push_cast, ↓reduceIte, Nat.reduceEqDiff, reduceCtorEq, Nat.reduceAdd, Nat.reduceSub, Nat.reduceMul, Nat.reduceLeDiff, Nat.reduceLT, Nat.reduceMod, Nat.reduceDiv, Int.reduceToNat, Int.reduceLT, Int.reduceLE, Int.reduceEq, Int.reduceAdd, Int.reduceSub, Int.reduceNeg, Int.reduceMul, Bool.and_self]) ?_) | simp -implicitDefEqProofs (disch := omega) only [L8z, dT_lt, dF_lt, dT_le, dF_le, dT_eq, dF_eq, push_cast, ↓reduceIte, Nat.reduceEqDiff, reduceCtorEq, Nat.reduceAdd, Nat.reduceSub, Nat.reduceMul, Nat.reduceLeDiff, Nat.reduceLT, Nat.reduceMod, Nat.reduceDiv, Int.reduceToNat, Int.reduceLT, Int.reduceLE, Int.reduceEq, Int.reduceAdd, Int.reduceSub, Int.reduceNeg, Int.reduceMul, Bool.and_self] | split)
    exact ⟨[], by simp⟩
#print axioms textBijection
end Go.Proofs.Ytiibbkbcebccnaa
