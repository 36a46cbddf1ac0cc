/- The lexer's functions, and those of its reference: what each computes. Part 6: names, numbers, spaces. -/
import Derived.Test.YtdibceakkjmpgaaLx5
namespace Go.Proofs.Ytdibceakkjmpgaa
open Go Go.Ax
set_option maxRecDepth 100000
set_option linter.unusedSimpArgs false
set_option linter.unusedVariables false

theorem take_ext {α : Type} {a b : List α} {j : Nat} {d : α} (h : a.take j = b.take j) (ha : j < a.length) (hb : j < b.length) (he : a.getD j d = b.getD j d) : a.take (j + 1) = b.take (j + 1) := by
  rw [List.take_succ_eq_append_getElem ha, List.take_succ_eq_append_getElem hb, h]
  simp [List.getD_eq_getElem?_getD, ha, hb] at he
  rw [he]

theorem textsR (a b : List (List UInt8)) (H : AHeap) (ha : (a.length : Int) < 9223372036854775807) (hb : (b.length : Int) < 9223372036854775807) : Comp 34 [.sl 1 (strs a), .sl 1 (strs b)] H (bool (decide (a = b))) := by
  refine enter Try.func34 L34_ok (Nat.le_of_ble_eq_true rfl) ?_
  repeat' (first | (refine ⟨by omega, ?_⟩) | simp -implicitDefEqProofs (disch := omega) only [L34, strs_len, push_cast, ↓reduceIte, Nat.reduceEqDiff, reduceCtorEq, Nat.reduceAdd, Nat.reduceSub, Nat.reduceMul, Nat.reduceLeDiff, Nat.reduceLT, Nat.reduceMod, Nat.reduceDiv, Int.reduceToNat, Int.reduceLT, Int.reduceLE, Int.reduceEq, Int.reduceAdd, Int.reduceSub, Int.reduceNeg, Int.reduceMul, Bool.and_self] | split)
  · rename_i h
    have hl : a.length = b.length := by omega
    refine rk_loopS (fun (j : Nat) e' H' => e' 0 = .sl 1 (strs a) ∧ e' 1 = .sl 1 (strs b) ∧ e' 5 = int j ∧ H = H' ∧ j ≤ a.length ∧ a.take j = b.take j) (fun j => a.length - j) 0 ?_ ?_
    · exact ⟨rfl, rfl, rfl, rfl, Nat.zero_le _, rfl⟩
    rintro j e' H' ⟨h0, h1, h5, rfl, hj, hr⟩
    by_cases hlt : j < a.length
    · repeat' (first | (refine ⟨by omega, ?_⟩) | simp -implicitDefEqProofs (disch := omega) only [h0, h1, h5, strs_len, strs_getD, push_cast, ↓reduceIte, Nat.reduceEqDiff, reduceCtorEq, Nat.reduceAdd, Nat.reduceSub, Nat.reduceMul, Nat.reduceLeDiff, Nat.reduceLT, Nat.reduceMod, Nat.reduceDiv, Int.reduceToNat, Int.reduceLT, Int.reduceLE, Int.reduceEq, Int.reduceAdd, Int.reduceSub, Int.reduceNeg, Int.reduceMul, Bool.and_self] | split)
      · exact .mk (j + 1) ⟨h0, h1, rfl, rfl, hlt, take_ext hr hlt (by omega) (by assumption)⟩ (by omega)
      · rw [decide_eq_false]
        rintro rfl; exact absurd rfl (by assumption)
      · omega
    · repeat' (first | (refine ⟨by omega, ?_⟩) | simp -implicitDefEqProofs (disch := omega) only [h0, h1, h5, strs_len, strs_getD, push_cast, ↓reduceIte, Nat.reduceEqDiff, reduceCtorEq, Nat.reduceAdd, Nat.reduceSub, Nat.reduceMul, Nat.reduceLeDiff, Nat.reduceLT, Nat.reduceMod, Nat.reduceDiv, Int.reduceToNat, Int.reduceLT, Int.reduceLE, Int.reduceEq, Int.reduceAdd, Int.reduceSub, Int.reduceNeg, Int.reduceMul, Bool.and_self] | split)
      · omega
      · rw [take_all a (by omega), take_all b (by omega)] at hr
        rw [decide_eq_true hr]
  · rename_i h
    rw [decide_eq_false]
    rintro rfl; exact h rfl

/-- The number that digits are. -/
def numN (n : Nat) (l : List UInt8) : Nat := l.foldl (fun n c => 10 * n + (c.toNat - 48)) n
def isNum (s : List UInt8) : Bool := decide (1 ≤ s.length) && decide (s.length ≤ 9) && s.all isD
def numV (s : List UInt8) : AV := if isNum s = true then .tup [int (numN 0 s), bool true] else .tup [int 0, bool false]
theorem isNum_iff {s : List UInt8} : isNum s = true ↔ 1 ≤ s.length ∧ s.length ≤ 9 ∧ ∀ j, j < s.length → isD (s.getD j 0) = true := by
  simp only [isNum, Bool.and_eq_true, decide_eq_true_eq, List.all_eq_true, and_assoc]
  refine and_congr_right fun _ => and_congr_right fun _ => ⟨fun h j hj => h _ (getD_mem hj 0), fun h x hx => ?_⟩
  obtain ⟨j, hj, rfl⟩ := List.mem_iff_getElem.1 hx
  have := h j hj
  simpa [List.getD_eq_getElem?_getD, hj] using this
theorem numV_no {s : List UInt8} (h : ¬ isNum s = true) : numV s = .tup [int 0, bool false] := if_neg h
theorem numV_yes {s : List UInt8} (h : isNum s = true) : numV s = .tup [int (numN 0 s), bool true] := if_pos h
theorem runF_all {p : UInt8 → Bool} : ∀ {s : List UInt8}, s.length ≤ runF p s 0 → ∀ j, j < s.length → p (s.getD j 0) = true
  | [], _, j, hj => by simp at hj
  | c :: l, h, j, hj => by
    simp only [runF, List.drop_zero, Nat.zero_add, List.takeWhile_cons] at h
    by_cases hc : p c = true
    · rw [if_pos hc] at h
      cases j with
      | zero => simpa using hc
      | succ j => rw [List.getD_cons_succ]; exact runF_all (by simpa [runF] using h) j (by simpa using hj)
    · rw [if_neg hc] at h; simp at h
theorem all_runF {p : UInt8 → Bool} : ∀ {s : List UInt8}, (∀ j, j < s.length → p (s.getD j 0) = true) → runF p s 0 = s.length
  | [], _ => by simp [runF]
  | c :: l, h => by
    have hc : p c = true := h 0 (by simp)
    have := all_runF (s := l) fun j hj => by have := h (j + 1) (by simpa using hj); rwa [List.getD_cons_succ] at this
    simp only [runF, List.drop_zero, Nat.zero_add] at this
    simp [runF, List.takeWhile_cons, hc, this]
theorem numN_cons (n : Nat) (c : UInt8) (l : List UInt8) : numN n (c :: l) = numN (10 * n + (c.toNat - 48)) l := by unfold numN; rw [List.foldl_cons]
theorem numN_step {s : List UInt8} {n j : Nat} (h : j < s.length) : numN (10 * n + ((s.getD j 0).toNat - 48)) (s.drop (j + 1)) = numN n (s.drop j) := by
  have e : s.getD j 0 = s[j] := by simp [List.getD_eq_getElem?_getD, h]
  have e2 : s.drop j = s[j] :: s.drop (j + 1) := List.drop_eq_getElem_cons h
  rw [e, e2, numN_cons]
theorem pow_bound {n j : Nat} (h : n < 10 ^ j) (hj : j ≤ 9) : n < 1000000000 := by
  have h1 : 10 ^ j ≤ 10 ^ 9 := Nat.pow_le_pow_right (by decide) hj
  have h2 : (10 : Nat) ^ 9 = 1000000000 := by simp
  rw [h2] at h1
  exact Nat.lt_of_lt_of_le h h1
theorem int_c {x : AV} {a : Int} {b : Nat} (h : x = int a) (h2 : a = b) : x = int b := h.trans (by rw [h2])
theorem isD_iff {c : UInt8} : isD c = true ↔ 48 ≤ c.toNat ∧ c.toNat ≤ 57 := by simp [isD]

theorem number (s : List UInt8) (H : AHeap) (hs : (s.length : Int) < 9223372036854775807) : Comp 9 [str s] H (numV s) := by
  refine enter Try.func9 L9_ok (Nat.le_of_ble_eq_true rfl) ?_
  repeat' (first | (refine ⟨by omega, ?_⟩) | (refine callF_pure (run s 0 isD 37 _ (by omega) (by omega) fun c => digit c _) ?_) | (refine callQF_pure (run s 0 isD 37 _ (by omega) (by omega) fun c => digit c _) rfl ?_) | simp -implicitDefEqProofs (disch := omega) only [L9, push_cast, ↓reduceIte, Nat.reduceEqDiff, reduceCtorEq, Nat.reduceAdd, Nat.reduceSub, Nat.reduceMul, Nat.reduceLeDiff, Nat.reduceLT, Nat.reduceMod, Nat.reduceDiv, Int.reduceToNat, Int.reduceLT, Int.reduceLE, Int.reduceEq, Int.reduceAdd, Int.reduceSub, Int.reduceNeg, Int.reduceMul, Bool.and_self] | split)
  · rw [numV_no]; simp_all [isNum]
  · rw [numV_no]; rw [isNum_iff]; omega
  · rw [numV_no]; rw [isNum_iff]; rintro ⟨_, _, h⟩; have := all_runF h; omega
  · rename_i h1 h2 h3
    have hd : ∀ j, j < s.length → isD (s.getD j 0) = true := runF_all (by omega)
    have hpos : 1 ≤ s.length := by cases s with | nil => exact absurd rfl h1 | cons a l => simp
    rw [numV_yes (isNum_iff.2 ⟨hpos, by omega, hd⟩)]
    refine rk_loopS (fun (p : Nat × Nat) e' H' => e' 4 = int p.2 ∧ e' 22 = .sl 1 (s.map byteRow) ∧ e' 23 = int s.length ∧ e' 24 = int p.1 ∧ H = H' ∧ p.1 ≤ s.length ∧ p.2 < 10 ^ p.1 ∧ numN p.2 (s.drop p.1) = numN 0 s) (fun p => s.length - p.1) (0, 0) ?_ ?_
    · exact ⟨rfl, rfl, rfl, rfl, rfl, Nat.zero_le _, by simp, rfl⟩
    rintro ⟨j, n⟩ e' H' ⟨g4, g22, g23, g24, rfl, hj, hp, hr⟩
    simp only at g4 g22 g23 g24 hj hp hr
    by_cases hlt : j < s.length
    · have hn := pow_bound hp (by omega)
      have hc := isD_iff.1 (hd j hlt)
      have hb := bytes_getD hlt
      rw [Nat.zero_add] at hb
      have hp' : 10 * n + ((s.getD j 0).toNat - 48) < 10 ^ (j + 1) := by rw [Nat.pow_succ]; omega
      repeat' (first | (refine ⟨by omega, ?_⟩) | simp -implicitDefEqProofs (disch := omega) only [g4, g22, g23, g24, hb, push_cast, ↓reduceIte, Nat.reduceEqDiff, reduceCtorEq, Nat.reduceAdd, Nat.reduceSub, Nat.reduceMul, Nat.reduceLeDiff, Nat.reduceLT, Nat.reduceMod, Nat.reduceDiv, Int.reduceToNat, Int.reduceLT, Int.reduceLE, Int.reduceEq, Int.reduceAdd, Int.reduceSub, Int.reduceNeg, Int.reduceMul, Bool.and_self] | split)
      · exact .mk (j + 1, 10 * n + ((s.getD j 0).toNat - 48)) ⟨int_c rfl (by omega), g22, g23, rfl, rfl, hlt, hp', by simp only; rw [numN_step hlt]; exact hr⟩ (by simp only; omega)
      · omega
    · repeat' (first | (refine ⟨by omega, ?_⟩) | simp -implicitDefEqProofs (disch := omega) only [g4, g22, g23, g24, push_cast, ↓reduceIte, Nat.reduceEqDiff, reduceCtorEq, Nat.reduceAdd, Nat.reduceSub, Nat.reduceMul, Nat.reduceLeDiff, Nat.reduceLT, Nat.reduceMod, Nat.reduceDiv, Int.reduceToNat, Int.reduceLT, Int.reduceLE, Int.reduceEq, Int.reduceAdd, Int.reduceSub, Int.reduceNeg, Int.reduceMul, Bool.and_self] | split)
      · omega
      · rw [List.drop_eq_nil_of_le (by omega)] at hr
        rw [← hr]; rfl

theorem numberR (s : List UInt8) (H : AHeap) (hs : (s.length : Int) < 9223372036854775807) : Comp 10 [str s] H (numV s) := by
  refine enter Try.func10 L10_ok (Nat.le_of_ble_eq_true rfl) ?_
  repeat' (first | (refine ⟨by omega, ?_⟩) | simp -implicitDefEqProofs (disch := omega) only [L10, push_cast, ↓reduceIte, Nat.reduceEqDiff, reduceCtorEq, Nat.reduceAdd, Nat.reduceSub, Nat.reduceMul, Nat.reduceLeDiff, Nat.reduceLT, Nat.reduceMod, Nat.reduceDiv, Int.reduceToNat, Int.reduceLT, Int.reduceLE, Int.reduceEq, Int.reduceAdd, Int.reduceSub, Int.reduceNeg, Int.reduceMul, Bool.and_self] | split)
  · rw [numV_no]; rw [isNum_iff]; omega
  · rw [numV_no]; rw [isNum_iff]; omega
  · rename_i h1 h2
    refine rk_loopS (fun (p : Nat × Nat) e' H' => e' 0 = str s ∧ e' 4 = int p.2 ∧ e' 5 = int p.1 ∧ H = H' ∧ p.1 ≤ s.length ∧ p.2 < 10 ^ p.1 ∧ numN p.2 (s.drop p.1) = numN 0 s ∧ ∀ j, j < p.1 → isD (s.getD j 0) = true) (fun p => s.length - p.1) (0, 0) ?_ ?_
    · exact ⟨rfl, rfl, rfl, rfl, Nat.zero_le _, by simp, rfl, by simp⟩
    rintro ⟨j, n⟩ e' H' ⟨g0, g4, g5, rfl, hj, hp, hr, hd⟩
    simp only at g0 g4 g5 hj hp hr hd
    by_cases hlt : j < s.length
    · have hn := pow_bound hp (by omega)
      have hc := isD_iff (c := s.getD j 0)
      by_cases hdj : isD (s.getD j 0) = true
      · rw [hdj] at hc
        have hc' := hc.1 rfl
        have hp' : 10 * n + ((s.getD j 0).toNat - 48) < 10 ^ (j + 1) := by rw [Nat.pow_succ]; omega
        repeat' (first | (refine ⟨by omega, ?_⟩) | (refine callF_pure (digitR _ _) ?_) | (refine callQF_pure (digitR _ _) rfl ?_) | simp -implicitDefEqProofs (disch := omega) only [g0, g4, g5, hdj, push_cast, ↓reduceIte, Nat.reduceEqDiff, reduceCtorEq, Nat.reduceAdd, Nat.reduceSub, Nat.reduceMul, Nat.reduceLeDiff, Nat.reduceLT, Nat.reduceMod, Nat.reduceDiv, Int.reduceToNat, Int.reduceLT, Int.reduceLE, Int.reduceEq, Int.reduceAdd, Int.reduceSub, Int.reduceNeg, Int.reduceMul, Bool.and_self] | split)
        · refine .mk (j + 1, 10 * n + ((s.getD j 0).toNat - 48)) ⟨g0, int_c rfl (by omega), rfl, rfl, hlt, hp', by simp only; rw [numN_step hlt]; exact hr, fun k hk => ?_⟩ (by simp only; omega)
          by_cases h : k = j
          · rw [h]; exact hdj
          · exact hd k (by simp only at hk; omega)
        · omega
      · have hdj' := Bool.eq_false_iff.2 hdj
        repeat' (first | (refine ⟨by omega, ?_⟩) | (refine callF_pure (digitR _ _) ?_) | (refine callQF_pure (digitR _ _) rfl ?_) | simp -implicitDefEqProofs (disch := omega) only [g0, g4, g5, hdj', push_cast, ↓reduceIte, Nat.reduceEqDiff, reduceCtorEq, Nat.reduceAdd, Nat.reduceSub, Nat.reduceMul, Nat.reduceLeDiff, Nat.reduceLT, Nat.reduceMod, Nat.reduceDiv, Int.reduceToNat, Int.reduceLT, Int.reduceLE, Int.reduceEq, Int.reduceAdd, Int.reduceSub, Int.reduceNeg, Int.reduceMul, Bool.and_self] | split)
        · rw [numV_no]; rw [isNum_iff]; rintro ⟨_, _, h⟩; exact hdj (h j hlt)
        · omega
    · repeat' (first | (refine ⟨by omega, ?_⟩) | simp -implicitDefEqProofs (disch := omega) only [g0, g4, g5, push_cast, ↓reduceIte, Nat.reduceEqDiff, reduceCtorEq, Nat.reduceAdd, Nat.reduceSub, Nat.reduceMul, Nat.reduceLeDiff, Nat.reduceLT, Nat.reduceMod, Nat.reduceDiv, Int.reduceToNat, Int.reduceLT, Int.reduceLE, Int.reduceEq, Int.reduceAdd, Int.reduceSub, Int.reduceNeg, Int.reduceMul, Bool.and_self] | split)
      · omega
      · rw [List.drop_eq_nil_of_le (by omega)] at hr
        rw [numV_yes (isNum_iff.2 ⟨by omega, by omega, fun k hk => hd k (by omega)⟩), ← hr]; rfl

def isName (s : List UInt8) : Bool := decide (1 ≤ s.length) && decide (s.length ≤ 16) && isL (s.getD 0 0) && !isK s && decide (runF isN s 0 = s.length)
theorem isName_iff {s : List UInt8} : isName s = true ↔ 1 ≤ s.length ∧ s.length ≤ 16 ∧ isL (s.getD 0 0) = true ∧ isK s = false ∧ runF isN s 0 = s.length := by
  simp only [isName, Bool.and_eq_true, decide_eq_true_eq, Bool.not_eq_true', and_assoc]
theorem noName {s : List UInt8} (h : 1 ≤ s.length → s.length ≤ 16 → isL (s.getD 0 0) = true → isK s = false → False) : AV.v (.bool false) = bool (isName s) := by
  rw [show isName s = false from Bool.eq_false_iff.2 fun hh => by rw [isName_iff] at hh; exact h hh.1 hh.2.1 hh.2.2.1 hh.2.2.2.1]

theorem name (s : List UInt8) (H : AHeap) (hs : (s.length : Int) < 9223372036854775806) : Comp 13 [str s] H (bool (isName s)) := by
  refine enter Try.func13 L13_ok (Nat.le_of_ble_eq_true rfl) ?_
  have hne : s = [] ↔ s.length = 0 := by simp
  repeat' (first | (refine ⟨by omega, ?_⟩) | (refine callF_pure (run s 0 isN 42 _ (by omega) (by omega) fun c => nameC c _) ?_) | (refine callF_pure (letter _ _) ?_) | (refine callF_pure (keyword _ _) ?_) | (refine callQF_pure (run s 0 isN 42 _ (by omega) (by omega) fun c => nameC c _) rfl ?_) | (refine callQF_pure (letter _ _) rfl ?_) | (refine callQF_pure (keyword _ _) rfl ?_) | simp -implicitDefEqProofs (disch := omega) only [L13, hne, push_cast, ↓reduceIte, Nat.reduceEqDiff, reduceCtorEq, Nat.reduceAdd, Nat.reduceSub, Nat.reduceMul, Nat.reduceLeDiff, Nat.reduceLT, Nat.reduceMod, Nat.reduceDiv, Int.reduceToNat, Int.reduceLT, Int.reduceLE, Int.reduceEq, Int.reduceAdd, Int.reduceSub, Int.reduceNeg, Int.reduceMul, Bool.and_self] | split)
  all_goals first
    | exact noName fun h1 h2 h3 h4 => by first | omega | (simp_all; done)
    | skip
  refine bool_eq ?_
  rw [isName_iff, decide_eq_true_eq]
  exact ⟨fun h => ⟨by omega, by omega, by simpa using ‹¬ isL _ = false›, by simpa using ‹¬ isK _ = true›, by omega⟩, fun h => by omega⟩

theorem nameR (s : List UInt8) (H : AHeap) (hs : (s.length : Int) < 9223372036854775806) : Comp 14 [str s] H (bool (isName s)) := by
  refine enter Try.func14 L14_ok (Nat.le_of_ble_eq_true rfl) ?_
  by_cases h1 : 1 ≤ s.length
  · by_cases hL : isL (s.getD 0 0) = true
    · repeat' (first | (refine ⟨by omega, ?_⟩) | (refine callF_pure (tokenR s 0 _ (by omega) h1 (.inl hL)) ?_) | (refine callF_pure (letterR _ _) ?_) | (refine callF_pure (keywordR _ _) ?_) | (refine callQF_pure (tokenR s 0 _ (by omega) h1 (.inl hL)) rfl ?_) | (refine callQF_pure (letterR _ _) rfl ?_) | (refine callQF_pure (keywordR _ _) rfl ?_) | simp -implicitDefEqProofs (disch := omega) only [L14, hL, push_cast, ↓reduceIte, Nat.reduceEqDiff, reduceCtorEq, Nat.reduceAdd, Nat.reduceSub, Nat.reduceMul, Nat.reduceLeDiff, Nat.reduceLT, Nat.reduceMod, Nat.reduceDiv, Int.reduceToNat, Int.reduceLT, Int.reduceLE, Int.reduceEq, Int.reduceAdd, Int.reduceSub, Int.reduceNeg, Int.reduceMul, Bool.and_self] | split)
      all_goals first
        | exact noName fun h1 h2 h3 h4 => by first | omega | (simp_all; done)
        | skip
      refine bool_eq ?_
      rw [isName_iff, decide_eq_true_eq, tokF_L hL]
      exact ⟨fun h => ⟨by omega, by omega, hL, by simpa using ‹¬ isK _ = true›, by simp only at h; omega⟩, fun h => by simp only; omega⟩
    · have hL' := Bool.eq_false_iff.2 hL
      repeat' (first | (refine ⟨by omega, ?_⟩) | (refine callF_pure (letterR _ _) ?_) | (refine callF_pure (keywordR _ _) ?_) | (refine callQF_pure (letterR _ _) rfl ?_) | (refine callQF_pure (keywordR _ _) rfl ?_) | simp -implicitDefEqProofs (disch := omega) only [L14, hL', push_cast, ↓reduceIte, Nat.reduceEqDiff, reduceCtorEq, Nat.reduceAdd, Nat.reduceSub, Nat.reduceMul, Nat.reduceLeDiff, Nat.reduceLT, Nat.reduceMod, Nat.reduceDiv, Int.reduceToNat, Int.reduceLT, Int.reduceLE, Int.reduceEq, Int.reduceAdd, Int.reduceSub, Int.reduceNeg, Int.reduceMul, Bool.and_self] | split)
      all_goals exact noName fun h1 h2 h3 h4 => by first | omega | (simp_all; done)
  · repeat' (first | (refine ⟨by omega, ?_⟩) | (refine callF_pure (letterR _ _) ?_) | (refine callF_pure (keywordR _ _) ?_) | (refine callQF_pure (letterR _ _) rfl ?_) | (refine callQF_pure (keywordR _ _) rfl ?_) | simp -implicitDefEqProofs (disch := omega) only [L14, push_cast, ↓reduceIte, Nat.reduceEqDiff, reduceCtorEq, Nat.reduceAdd, Nat.reduceSub, Nat.reduceMul, Nat.reduceLeDiff, Nat.reduceLT, Nat.reduceMod, Nat.reduceDiv, Int.reduceToNat, Int.reduceLT, Int.reduceLE, Int.reduceEq, Int.reduceAdd, Int.reduceSub, Int.reduceNeg, Int.reduceMul, Bool.and_self] | split)
    · exact noName fun h1 h2 h3 h4 => by omega
    · omega

/-- Need two words nothing between them? -/
def joins (a b : List UInt8) : Bool := decide ((scanF (a ++ b)).length = 3) && decide ((wordsF (a ++ b) (scanF (a ++ b))).getD 0 [] = a) && decide ((wordsF (a ++ b) (scanF (a ++ b))).getD 1 [] = b)
def spaceV (a b : List UInt8) : AV := str (if joins a b = true then [] else [32])

theorem joins_iff {a b : List UInt8} : joins a b = true ↔ (scanF (a ++ b)).length = 3 ∧ (wordsF (a ++ b) (scanF (a ++ b))).getD 0 [] = a ∧ (wordsF (a ++ b) (scanF (a ++ b))).getD 1 [] = b := by
  simp only [joins, Bool.and_eq_true, decide_eq_true_eq, and_assoc]
theorem spaceV_yes {a b : List UInt8} (h : joins a b = true) : spaceV a b = str [] := by unfold spaceV; rw [if_pos h]
theorem spaceV_no {a b : List UInt8} (h : ¬ joins a b = true) : spaceV a b = str [32] := by unfold spaceV; rw [if_neg h]
theorem joins_at {a b : List UInt8} (hl : (scanF (a ++ b)).length = 3) : joins a b = true ↔ ((scanF (a ++ b)).getD 0 ⟨0, 0, 0, 0⟩).at_ = 0 ∧ ((scanF (a ++ b)).getD 0 ⟨0, 0, 0, 0⟩).en = a.length ∧ ((scanF (a ++ b)).getD 1 ⟨0, 0, 0, 0⟩).at_ = a.length ∧ ((scanF (a ++ b)).getD 1 ⟨0, 0, 0, 0⟩).en = a.length + b.length := by
  rw [joins_iff]
  have hin := scanN_in (a ++ b) ((a ++ b).length + 1) 0 (Nat.zero_le _)
  change inText (a ++ b) 0 (scanF (a ++ b)) at hin
  generalize scanF (a ++ b) = l at hl hin ⊢
  match l, hl with
  | [t0, t1, t2], _ =>
    obtain ⟨_, h1, h2, h3, _, _, h5, h6, h7, _, _⟩ := hin
    simp only [List.length_append] at h3 h7
    simp only [wordsF, List.map_cons, List.getD_cons_zero, List.getD_cons_succ, List.length_cons, List.length_nil, Nat.zero_add, Nat.reduceAdd, true_and]
    constructor
    · rintro ⟨g1, g2⟩
      have l1 := congrArg List.length g1
      have l2 := congrArg List.length g2
      simp only [List.length_take, List.length_drop, List.length_append] at l1 l2
      omega
    · rintro ⟨g1, g2, g3, g4⟩
      rw [g1, g2, g3, g4, List.drop_zero, Nat.sub_zero]
      exact ⟨by simp, by simp [show a.length + b.length - a.length = b.length by omega]⟩

theorem space (a b : List UInt8) (H : AHeap) (hl : a.length + b.length ≤ 4096) : Comp 15 [str a, str b] H (spaceV a b) := by
  refine enter Try.func15 L15_ok (Nat.le_of_ble_eq_true rfl) ?_
  have hlen : (a ++ b).length ≤ 4096 := by simpa using hl
  have hsc := scanF_length (a ++ b)
  have hwl : (wordsF (a ++ b) (scanF (a ++ b))).length = (scanF (a ++ b)).length := by simp [wordsF]
  repeat' (first | (refine ⟨by omega, ?_⟩) | (refine callF_pure (scan _ _ (by simpa using hl)) ?_) | (refine callF_pure (words _ _ _ (by omega) (by omega) (scanF_le _)) ?_) | (refine callQF_pure (scan _ _ (by simpa using hl)) rfl ?_) | (refine callQF_pure (words _ _ _ (by omega) (by omega) (scanF_le _)) rfl ?_) | simp -implicitDefEqProofs (disch := omega) only [L15, strs_len, strs_getD, hwl, push_cast, ↓reduceIte, Nat.reduceEqDiff, reduceCtorEq, Nat.reduceAdd, Nat.reduceSub, Nat.reduceMul, Nat.reduceLeDiff, Nat.reduceLT, Nat.reduceMod, Nat.reduceDiv, Int.reduceToNat, Int.reduceLT, Int.reduceLE, Int.reduceEq, Int.reduceAdd, Int.reduceSub, Int.reduceNeg, Int.reduceMul, Bool.and_self] | split)
  all_goals first
    | (rw [spaceV_yes (joins_iff.2 ⟨by omega, by assumption, by assumption⟩)]; done)
    | (rw [spaceV_no fun h => by rw [joins_iff] at h; first | omega | exact absurd h.2.1 (by assumption) | exact absurd h.2.2 (by assumption)]; done)
theorem spaceR (a b : List UInt8) (H : AHeap) (hl : a.length + b.length ≤ 4096) : Comp 16 [str a, str b] H (spaceV a b) := by
  refine enter Try.func16 L16_ok (Nat.le_of_ble_eq_true rfl) ?_
  have hlen : (a ++ b).length ≤ 4096 := by simpa using hl
  repeat' (first | (refine ⟨by omega, ?_⟩) | (refine callF_pure (scanR _ _ (by simpa using hl)) ?_) | (refine callQF_pure (scanR _ _ (by simpa using hl)) rfl ?_) | simp -implicitDefEqProofs (disch := omega) only [L16, toks_getD', tokR, push_cast, ↓reduceIte, Nat.reduceEqDiff, reduceCtorEq, Nat.reduceAdd, Nat.reduceSub, Nat.reduceMul, Nat.reduceLeDiff, Nat.reduceLT, Nat.reduceMod, Nat.reduceDiv, Int.reduceToNat, Int.reduceLT, Int.reduceLE, Int.reduceEq, Int.reduceAdd, Int.reduceSub, Int.reduceNeg, Int.reduceMul, Bool.and_self] | split)
  all_goals first
    | omega
    | (rw [spaceV_yes ((joins_at (by omega)).2 ⟨by omega, by omega, by omega, by omega⟩)]; done)
    | (rw [spaceV_no fun h => by rw [joins_at (by omega)] at h; omega]; done)
    | (rw [spaceV_no fun h => by rw [joins_iff] at h; omega]; done)
end Go.Proofs.Ytdibceakkjmpgaa
