/- The lexer's functions, and those of its reference: what each computes. Part 4: white space, one token. -/
import Derived.Test.YtdibceakkjmpgaaLx3
namespace Go.Proofs.Ytdibceakkjmpgaa
open Go Go.Ax
set_option maxRecDepth 100000
set_option linter.unusedSimpArgs false
set_option linter.unusedVariables false

/-- How many bytes of white space and comments a text begins with; the flag: within a comment. -/
def skipL : Bool → List UInt8 → Nat
  | _, [] => 0
  | true, c :: l => if isC c = true then skipL true l + 1 else skipL false l + 1
  | false, c :: l => if isW c = true then skipL false l + 1 else if c.toNat = 35 then skipL true l + 1 else 0
def skipF (s : List UInt8) (i : Nat) : Nat := i + skipL false (s.drop i)

theorem skipL_comment : ∀ l : List UInt8, skipL true l = (l.takeWhile isC).length + skipL false (l.drop (l.takeWhile isC).length)
  | [] => by simp [skipL]
  | c :: l => by
    by_cases h : isC c = true
    · rw [List.takeWhile_cons, if_pos h]
      simp only [skipL, h, if_true, List.length_cons, List.drop_succ_cons]
      rw [skipL_comment l]; omega
    · have hw : isW c = true := by simp [isC] at h; simp [isW, h]
      rw [List.takeWhile_cons, if_neg h]
      simp [skipL, h, hw]
theorem skipF_white {s : List UInt8} {i : Nat} (h : i < s.length) (hw : isW (s.getD i 0) = true) : skipF s (i + 1) = skipF s i := by
  simp only [skipF]
  rw [List.drop_eq_getElem_cons h]
  simp [List.getD_eq_getElem?_getD, h] at hw
  simp [skipL, hw]; omega
theorem skipF_comment {s : List UInt8} {i : Nat} (h : i < s.length) (hw : isW (s.getD i 0) = false) (hc : (s.getD i 0).toNat = 35) : skipF s (runF isC s i) = skipF s i := by
  simp only [skipF, runF]
  rw [← List.drop_drop, List.drop_eq_getElem_cons h]
  simp [List.getD_eq_getElem?_getD, h] at hw hc
  have hC : isC s[i] = true := by simp [isC, hc]
  have e := skipL_comment (s[i] :: s.drop (i + 1))
  simp only [skipL, hC, if_true] at e
  simp only [skipL, hw, hc, Bool.false_eq_true, if_false, if_true]
  omega
theorem skipF_stop {s : List UInt8} {i : Nat} (h : i < s.length → isW (s.getD i 0) = false ∧ ¬ (s.getD i 0).toNat = 35) : skipF s i = i := by
  simp only [skipF]
  by_cases hi : i < s.length
  · obtain ⟨h1, h2⟩ := h hi
    rw [List.drop_eq_getElem_cons hi]
    simp [List.getD_eq_getElem?_getD, hi] at h1 h2
    simp [skipL, h1, h2]
  · simp [List.drop_eq_nil_of_le (Nat.le_of_not_lt hi), skipL]
theorem skipL_le : ∀ (b : Bool) (l : List UInt8), skipL b l ≤ l.length
  | _, [] => by simp [skipL]
  | true, c :: l => by simp only [skipL, List.length_cons]; have := skipL_le true l; have := skipL_le false l; split <;> omega
  | false, c :: l => by simp only [skipL, List.length_cons]; have := skipL_le true l; have := skipL_le false l; (repeat' split) <;> omega
theorem skipF_le {s : List UInt8} {i : Nat} (h : i ≤ s.length) : i ≤ skipF s i ∧ skipF s i ≤ s.length := by
  simp only [skipF]
  have := skipL_le false (s.drop i)
  simp at this
  omega
theorem runF_ge {p : UInt8 → Bool} {l : List UInt8} {i : Nat} : i ≤ runF p l i := by simp [runF]
theorem runF_gt {p : UInt8 → Bool} {l : List UInt8} {i : Nat} (h : i < l.length) (hp : p (l.getD i 0) = true) : i < runF p l i := by
  rw [← runF_step h hp]; exact runF_ge

theorem skip (s : List UInt8) (i : Nat) (H : AHeap) (hl : (s.length : Int) < 9223372036854775806) (hi : i ≤ s.length) : Comp 65 [str s, int i] H (int (skipF s i)) := by
  refine enter Try.func65 L65_ok (Nat.le_of_ble_eq_true rfl) ?_
  simp -implicitDefEqProofs (disch := omega) only [L65, push_cast, ↓reduceIte, Nat.reduceEqDiff, reduceCtorEq, Nat.reduceAdd, Nat.reduceSub, Nat.reduceMul, Nat.reduceLeDiff, Nat.reduceLT, Nat.reduceMod, Nat.reduceDiv, Int.reduceToNat, Int.reduceLT, Int.reduceLE, Int.reduceEq, Int.reduceAdd, Int.reduceSub, Int.reduceNeg, Int.reduceMul, Bool.and_self]
  refine rk_loopS (fun (j : Nat) e' H' => e' 0 = str s ∧ e' 1 = int j ∧ H = H' ∧ j ≤ s.length ∧ skipF s j = skipF s i) (fun j => s.length - j) i ⟨rfl, rfl, rfl, hi, rfl⟩ ?_
  rintro j e' H' ⟨h0, h1, rfl, hj, hr⟩
  repeat' (first | (refine ⟨by omega, ?_⟩) | (refine callF_pure (white _ _) ?_) | (refine callF_pure (run s _ isC 94 _ (by omega) hj fun c => skipC c _) ?_) | (refine callQF_pure (white _ _) rfl ?_) | (refine callQF_pure (run s _ isC 94 _ (by omega) hj fun c => skipC c _) rfl ?_) | simp -implicitDefEqProofs (disch := omega) only [h0, h1, push_cast, ↓reduceIte, Nat.reduceEqDiff, reduceCtorEq, Nat.reduceAdd, Nat.reduceSub, Nat.reduceMul, Nat.reduceLeDiff, Nat.reduceLT, Nat.reduceMod, Nat.reduceDiv, Int.reduceToNat, Int.reduceLT, Int.reduceLE, Int.reduceEq, Int.reduceAdd, Int.reduceSub, Int.reduceNeg, Int.reduceMul, Bool.and_self] | split)
  · rename_i h2 h3
    exact .mk (j + 1) ⟨h0, rfl, rfl, by omega, by rw [skipF_white (by omega) h3]; exact hr⟩ (by omega)
  · rename_i h2 h3 h4
    exact .mk (runF isC s j) ⟨h0, rfl, rfl, runF_le hj, by rw [skipF_comment (by omega) (Bool.eq_false_iff.2 h3) (by omega)]; exact hr⟩ (by have := runF_gt (p := isC) (show j < s.length by omega) (by simp only [isC, Bool.not_eq_true', decide_eq_false_iff_not]; omega); omega)
  · rename_i h2 h3 h4
    rw [← hr, skipF_stop fun _ => ⟨Bool.eq_false_iff.2 h3, by omega⟩]
  · rw [← hr, skipF_stop fun _ => by omega]

theorem isW_35 {c : UInt8} (h : isW c = true) (h2 : (c.toNat : Int) = 35) : False := by
  simp only [isW, Bool.or_eq_true, decide_eq_true_eq] at h; omega

theorem skipR (s : List UInt8) (i : Nat) (H : AHeap) (hl : (s.length : Int) < 9223372036854775806) (hi : i ≤ s.length) : Comp 71 [str s, int i] H (int (skipF s i)) := by
  refine enter Try.func71 L71_ok (Nat.le_of_ble_eq_true rfl) ?_
  simp -implicitDefEqProofs (disch := omega) only [L71, push_cast, ↓reduceIte, Nat.reduceEqDiff, reduceCtorEq, Nat.reduceAdd, Nat.reduceSub, Nat.reduceMul, Nat.reduceLeDiff, Nat.reduceLT, Nat.reduceMod, Nat.reduceDiv, Int.reduceToNat, Int.reduceLT, Int.reduceLE, Int.reduceEq, Int.reduceAdd, Int.reduceSub, Int.reduceNeg, Int.reduceMul, Bool.and_self]
  refine rk_loopS (fun (j : Nat) e' H' => e' 0 = str s ∧ e' 1 = int j ∧ H = H' ∧ j ≤ s.length ∧ skipF s j = skipF s i) (fun j => s.length - j) i ⟨rfl, rfl, rfl, hi, rfl⟩ ?_
  rintro j e' H' ⟨h0, h1, rfl, hj, hr⟩
  repeat' (first | (refine ⟨by omega, ?_⟩) | (refine callF_pure (blankR _ _) ?_) | (refine callQF_pure (blankR _ _) rfl ?_) | simp -implicitDefEqProofs (disch := omega) only [h0, h1, push_cast, ↓reduceIte, Nat.reduceEqDiff, reduceCtorEq, Nat.reduceAdd, Nat.reduceSub, Nat.reduceMul, Nat.reduceLeDiff, Nat.reduceLT, Nat.reduceMod, Nat.reduceDiv, Int.reduceToNat, Int.reduceLT, Int.reduceLE, Int.reduceEq, Int.reduceAdd, Int.reduceSub, Int.reduceNeg, Int.reduceMul, Bool.and_self] | split)
  all_goals first
    | exact .mk (j + 1) ⟨h0, rfl, rfl, by omega, by rw [skipF_white (by omega) (by assumption)]; exact hr⟩ (by omega)
    | exact (isW_35 (by assumption) (by assumption)).elim
    | (rw [← hr, skipF_stop fun _ => ⟨Bool.eq_false_iff.2 (by assumption), by omega⟩]; done)
    | (rw [← hr, skipF_stop fun _ => by omega]; done)
    | skip
  refine rk_loopS (fun (k : Nat) e' H' => e' 0 = str s ∧ e' 1 = int k ∧ H = H' ∧ j ≤ k ∧ k ≤ s.length ∧ runF isC s k = runF isC s j) (fun k => s.length - k) j ⟨h0, h1, rfl, Nat.le_refl _, hj, rfl⟩ ?_
  rintro k e' H' ⟨g0, g1, rfl, hk, hk2, hr2⟩
  repeat' (first | (refine ⟨by omega, ?_⟩) | simp -implicitDefEqProofs (disch := omega) only [g0, g1, push_cast, ↓reduceIte, Nat.reduceEqDiff, reduceCtorEq, Nat.reduceAdd, Nat.reduceSub, Nat.reduceMul, Nat.reduceLeDiff, Nat.reduceLT, Nat.reduceMod, Nat.reduceDiv, Int.reduceToNat, Int.reduceLT, Int.reduceLE, Int.reduceEq, Int.reduceAdd, Int.reduceSub, Int.reduceNeg, Int.reduceMul, Bool.and_self] | split)
  all_goals first
    | exact .mk (k + 1) ⟨g0, rfl, rfl, by omega, by omega, by rw [runF_step (by omega) (by simp only [isC, Bool.not_eq_true', decide_eq_false_iff_not]; omega)]; exact hr2⟩ (by omega)
    | skip
  all_goals
    have hk3 : runF isC s k = k := runF_stop fun _ => by simp only [isC, Bool.not_eq_false', decide_eq_true_eq]; omega
    have hk4 : j < runF isC s j := runF_gt (by omega) (by simp only [isC, Bool.not_eq_true', decide_eq_false_iff_not]; omega)
    exact .mk k ⟨g0, g1, rfl, hk2, by rw [← hk3, hr2, skipF_comment (by omega) (Bool.eq_false_iff.2 (by assumption)) (by omega)]; exact hr⟩ (by omega)

theorem beginsR (s : List UInt8) (i : Nat) (H : AHeap) (hl : (s.length : Int) < 9223372036854775806) (hi : i < s.length) : Comp 70 [str s, int i] H (bool (isL (s.getD i 0) || isD (s.getD i 0) || decide (0 < symF s i))) := by
  refine enter Try.func70 L70_ok (Nat.le_of_ble_eq_true rfl) ?_
  repeat' (first | (refine ⟨by omega, ?_⟩) | (refine callF_pure (letterR _ _) ?_) | (refine callF_pure (digitR _ _) ?_) | (refine callF_pure (symbolR _ _ _ hl hi) ?_) | (refine callQF_pure (letterR _ _) rfl ?_) | (refine callQF_pure (digitR _ _) rfl ?_) | (refine callQF_pure (symbolR _ _ _ hl hi) rfl ?_) | simp -implicitDefEqProofs (disch := omega) only [L70, push_cast, ↓reduceIte, Nat.reduceEqDiff, reduceCtorEq, Nat.reduceAdd, Nat.reduceSub, Nat.reduceMul, Nat.reduceLeDiff, Nat.reduceLT, Nat.reduceMod, Nat.reduceDiv, Int.reduceToNat, Int.reduceLT, Int.reduceLE, Int.reduceEq, Int.reduceAdd, Int.reduceSub, Int.reduceNeg, Int.reduceMul, Bool.and_self] | split)
  all_goals (refine bool_eq ?_; simp_all <;> omega)

/-- A byte that goes on with a wrong token. -/
def stays (s : List UInt8) (k : Nat) : Bool := !isW (s.getD k 0) && !decide ((s.getD k 0).toNat = 35) && !isL (s.getD k 0) && !isD (s.getD k 0) && decide (symF s k = 0)
def badN (s : List UInt8) : Nat → Nat → Nat
  | 0, k => k
  | n + 1, k => if stays s k = true then badN s n (k + 1) else k
def badF (s : List UInt8) (k : Nat) : Nat := badN s (s.length - k) k
theorem badF_step {s : List UInt8} {k : Nat} (h : k < s.length) (hs : stays s k = true) : badF s (k + 1) = badF s k := by
  unfold badF
  rw [show s.length - k = (s.length - (k + 1)) + 1 by omega]
  simp [badN, hs]
theorem badF_stop {s : List UInt8} {k : Nat} (h : k < s.length → stays s k = false) : badF s k = k := by
  unfold badF
  by_cases hk : k < s.length
  · rw [show s.length - k = (s.length - (k + 1)) + 1 by omega]
    simp [badN, h hk]
  · rw [show s.length - k = 0 by omega]; rfl
theorem badN_ge (s : List UInt8) : ∀ n k, k ≤ badN s n k ∧ badN s n k ≤ k + n
  | 0, k => by simp [badN]
  | n + 1, k => by
    simp only [badN]
    have := badN_ge s n (k + 1)
    split <;> omega
theorem badF_ge {s : List UInt8} {k : Nat} (h : k ≤ s.length) : k ≤ badF s k ∧ badF s k ≤ s.length := by
  have := badN_ge s (s.length - k) k
  unfold badF; omega

/-- The kind and the end of the token at a place. -/
def tokF (s : List UInt8) (i : Nat) : Nat × Nat :=
  if isL (s.getD i 0) = true then (if isK ((s.drop i).take (runF isN s i - i)) = true then 1 else 0, runF isN s i)
  else if isD (s.getD i 0) = true then (2, runF isD s i)
  else if 0 < symF s i then (3, i + symF s i)
  else (4, badF s (i + 1))
theorem symF_lt {s : List UInt8} {i : Nat} (h : i < s.length) : i + symF s i ≤ s.length := by
  unfold symF; split
  · omega
  · split <;> omega
theorem tokF_gt {s : List UInt8} {i : Nat} (h : i < s.length) : i < (tokF s i).2 ∧ (tokF s i).2 ≤ s.length := by
  unfold tokF
  split
  · rename_i h1; exact ⟨runF_gt h (by simp only [isN, h1, Bool.true_or]), runF_le (by omega)⟩
  · split
    · exact ⟨runF_gt h ‹_›, runF_le (by omega)⟩
    · have := symF_lt h
      split
      · simp only; omega
      · have := badF_ge (show i + 1 ≤ s.length by omega); simp only; omega
abbrev tokV (p : Nat × Nat) : AV := .tup [int p.1, int p.2]

theorem tokF_L {s : List UInt8} {i : Nat} (h : isL (s.getD i 0) = true) : tokF s i = (if isK ((s.drop i).take (runF isN s i - i)) = true then 1 else 0, runF isN s i) := if_pos h
theorem tokF_D {s : List UInt8} {i : Nat} (h : ¬ isL (s.getD i 0) = true) (h2 : isD (s.getD i 0) = true) : tokF s i = (2, runF isD s i) := (if_neg h).trans (if_pos h2)
theorem tokF_S {s : List UInt8} {i : Nat} (h : ¬ isL (s.getD i 0) = true) (h2 : ¬ isD (s.getD i 0) = true) (h3 : 0 < symF s i) : tokF s i = (3, i + symF s i) := (if_neg h).trans ((if_neg h2).trans (if_pos h3))
theorem tokF_W {s : List UInt8} {i : Nat} (h : ¬ isL (s.getD i 0) = true) (h2 : ¬ isD (s.getD i 0) = true) (h3 : ¬ 0 < symF s i) : tokF s i = (4, badF s (i + 1)) := (if_neg h).trans ((if_neg h2).trans (if_neg h3))
theorem stays_iff {s : List UInt8} {k : Nat} : stays s k = true ↔ isW (s.getD k 0) = false ∧ ¬ (s.getD k 0).toNat = 35 ∧ isL (s.getD k 0) = false ∧ isD (s.getD k 0) = false ∧ symF s k = 0 := by
  simp only [stays, Bool.and_eq_true, Bool.not_eq_true', decide_eq_false_iff_not, decide_eq_true_eq, and_assoc]

theorem isN_iff {c : UInt8} : isN c = true ↔ isL c = true ∨ isD c = true ∨ c.toNat = 95 := by simp [isN, or_assoc]

theorem token (s : List UInt8) (i : Nat) (H : AHeap) (hl : (s.length : Int) < 9223372036854775806) (hi : i < s.length) : Comp 66 [str s, int i] H (tokV (tokF s i)) := by
  refine enter Try.func66 L66_ok (Nat.le_of_ble_eq_true rfl) ?_
  have hr : i ≤ runF isN s i ∧ runF isN s i ≤ s.length := ⟨runF_ge, runF_le (by omega)⟩
  have hs := symF_lt hi
  repeat' (first | (refine ⟨by omega, ?_⟩) | (refine callF_pure (letter _ _) ?_) | (refine callF_pure (digit _ _) ?_) | (refine callF_pure (run s _ isN 95 _ (by omega) (by omega) fun c => tokenC c _) ?_) | (refine callF_pure (run s _ isD 37 _ (by omega) (by omega) fun c => digit c _) ?_) | (refine callF_pure (keyword _ _) ?_) | (refine callF_pure (symbol _ _ _ hl hi) ?_) | (refine callQF_pure (letter _ _) rfl ?_) | (refine callQF_pure (digit _ _) rfl ?_) | (refine callQF_pure (run s _ isN 95 _ (by omega) (by omega) fun c => tokenC c _) rfl ?_) | (refine callQF_pure (run s _ isD 37 _ (by omega) (by omega) fun c => digit c _) rfl ?_) | (refine callQF_pure (keyword _ _) rfl ?_) | (refine callQF_pure (symbol _ _ _ hl hi) rfl ?_) | simp -implicitDefEqProofs (disch := omega) only [L66, push_cast, ↓reduceIte, Nat.reduceEqDiff, reduceCtorEq, Nat.reduceAdd, Nat.reduceSub, Nat.reduceMul, Nat.reduceLeDiff, Nat.reduceLT, Nat.reduceMod, Nat.reduceDiv, Int.reduceToNat, Int.reduceLT, Int.reduceLE, Int.reduceEq, Int.reduceAdd, Int.reduceSub, Int.reduceNeg, Int.reduceMul, Bool.and_self] | split)
  all_goals first
    | (rw [tokF_L (by assumption), if_pos (by assumption)]; rfl)
    | (rw [tokF_L (by assumption), if_neg (by assumption)]; rfl)
    | (rw [tokF_D (by assumption) (by assumption)]; rfl)
    | (rw [tokF_S (by assumption) (by assumption) (by omega)]; rfl)
    | skip
  rw [tokF_W (by assumption) (by assumption) (by omega)]
  refine rk_loopS (fun (k : Nat) e' H' => e' 0 = str s ∧ e' 8 = int k ∧ H = H' ∧ k ≤ s.length ∧ badF s k = badF s (i + 1)) (fun k => s.length - k) (i + 1) ?_ ?_
  · exact ⟨rfl, rfl, rfl, hi, rfl⟩
  rintro k e' H' ⟨h0, h1, rfl, hk, hr⟩
  repeat' (first | (refine ⟨by omega, ?_⟩) | (refine callF_pure (letter _ _) ?_) | (refine callF_pure (digit _ _) ?_) | (refine callF_pure (white _ _) ?_) | (refine callF_pure (symbol _ _ _ hl (by omega)) ?_) | (refine callQF_pure (letter _ _) rfl ?_) | (refine callQF_pure (digit _ _) rfl ?_) | (refine callQF_pure (white _ _) rfl ?_) | (refine callQF_pure (symbol _ _ _ hl (by omega)) rfl ?_) | simp -implicitDefEqProofs (disch := omega) only [h0, h1, push_cast, ↓reduceIte, Nat.reduceEqDiff, reduceCtorEq, Nat.reduceAdd, Nat.reduceSub, Nat.reduceMul, Nat.reduceLeDiff, Nat.reduceLT, Nat.reduceMod, Nat.reduceDiv, Int.reduceToNat, Int.reduceLT, Int.reduceLE, Int.reduceEq, Int.reduceAdd, Int.reduceSub, Int.reduceNeg, Int.reduceMul, Bool.and_self] | split)
  all_goals first
    | exact .mk (k + 1) ⟨h0, rfl, rfl, by omega, by rw [badF_step (by omega) (stays_iff.2 ⟨(by first | assumption | exact Bool.eq_false_iff.2 (by assumption)), by omega, (by first | assumption | exact Bool.eq_false_iff.2 (by assumption)), (by first | assumption | exact Bool.eq_false_iff.2 (by assumption)), by omega⟩)]; exact hr⟩ (by omega)
    | (rw [← hr, badF_stop fun _ => Bool.eq_false_iff.2 fun hh => by rw [stays_iff] at hh; obtain ⟨g1, g2, g3, g4, g5⟩ := hh; first | omega | (simp_all; done)]; rfl)

theorem tokenR (s : List UInt8) (i : Nat) (H : AHeap) (hl : (s.length : Int) < 9223372036854775806) (hi : i < s.length) (hw : isL (s.getD i 0) = true ∨ (isW (s.getD i 0) = false ∧ ¬ (s.getD i 0).toNat = 35)) : Comp 44 [str s, int i] H (tokV (tokF s i)) := by
  refine enter Try.func44 L44_ok (Nat.le_of_ble_eq_true rfl) ?_
  have hr : i ≤ runF isN s i ∧ runF isN s i ≤ s.length := ⟨runF_ge, runF_le (by omega)⟩
  have hs := symF_lt hi
  repeat' (first | (refine ⟨by omega, ?_⟩) | (refine callF_pure (letterR _ _) ?_) | (refine callF_pure (digitR _ _) ?_) | (refine callF_pure (symbolR _ _ _ hl hi) ?_) | (refine callQF_pure (letterR _ _) rfl ?_) | (refine callQF_pure (digitR _ _) rfl ?_) | (refine callQF_pure (symbolR _ _ _ hl hi) rfl ?_) | simp -implicitDefEqProofs (disch := omega) only [L44, push_cast, ↓reduceIte, Nat.reduceEqDiff, reduceCtorEq, Nat.reduceAdd, Nat.reduceSub, Nat.reduceMul, Nat.reduceLeDiff, Nat.reduceLT, Nat.reduceMod, Nat.reduceDiv, Int.reduceToNat, Int.reduceLT, Int.reduceLE, Int.reduceEq, Int.reduceAdd, Int.reduceSub, Int.reduceNeg, Int.reduceMul, Bool.and_self] | split)
  all_goals first
    | (rw [tokF_S (by assumption) (by assumption) (by omega)]; rfl)
    | skip
  · refine rk_loopS (fun (k : Nat) e' H' => e' 0 = str s ∧ e' 1 = int i ∧ e' 6 = int k ∧ H = H' ∧ i ≤ k ∧ k ≤ s.length ∧ runF isN s k = runF isN s i) (fun k => s.length - k) i ⟨rfl, rfl, rfl, rfl, by omega, by omega, rfl⟩ ?_
    rintro k e' H' ⟨h0, h1, h2, rfl, hk0, hk, hr2⟩
    repeat' (first | (refine ⟨by omega, ?_⟩) | (refine callF_pure (letterR _ _) ?_) | (refine callF_pure (digitR _ _) ?_) | (refine callF_pure (keywordR _ _) ?_) | (refine callQF_pure (letterR _ _) rfl ?_) | (refine callQF_pure (digitR _ _) rfl ?_) | (refine callQF_pure (keywordR _ _) rfl ?_) | simp -implicitDefEqProofs (disch := omega) only [h0, h1, h2, push_cast, ↓reduceIte, Nat.reduceEqDiff, reduceCtorEq, Nat.reduceAdd, Nat.reduceSub, Nat.reduceMul, Nat.reduceLeDiff, Nat.reduceLT, Nat.reduceMod, Nat.reduceDiv, Int.reduceToNat, Int.reduceLT, Int.reduceLE, Int.reduceEq, Int.reduceAdd, Int.reduceSub, Int.reduceNeg, Int.reduceMul, Bool.and_self] | split)
    all_goals first
      | exact .mk (k + 1) ⟨h0, h1, rfl, rfl, by omega, by omega, by rw [runF_step (p := isN) (l := s) (i := k) (by omega) (isN_iff.2 (by first | exact .inl (by assumption) | exact .inr (.inl (by assumption)) | exact .inr (.inr (by omega))))]; exact hr2⟩ (by omega)
      | skip
    all_goals
      have hk3 : runF isN s k = k := runF_stop fun _ => Bool.eq_false_iff.2 fun hh => by rw [isN_iff] at hh; first | omega | (rcases hh with hh | hh | hh <;> first | exact absurd hh (by assumption) | omega)
      rw [hr2] at hk3
      rw [tokF_L (by assumption), hk3]
      first
        | (rw [if_pos (by assumption)]; rfl)
        | (rw [if_neg (by assumption)]; rfl)
  · refine rk_loopS (fun (k : Nat) e' H' => e' 0 = str s ∧ e' 1 = int i ∧ e' 6 = int k ∧ H = H' ∧ i ≤ k ∧ k ≤ s.length ∧ runF isD s k = runF isD s i) (fun k => s.length - k) i ⟨rfl, rfl, rfl, rfl, by omega, by omega, rfl⟩ ?_
    rintro k e' H' ⟨h0, h1, h2, rfl, hk0, hk, hr2⟩
    repeat' (first | (refine ⟨by omega, ?_⟩) | (refine callF_pure (digitR _ _) ?_) | (refine callQF_pure (digitR _ _) rfl ?_) | simp -implicitDefEqProofs (disch := omega) only [h0, h1, h2, push_cast, ↓reduceIte, Nat.reduceEqDiff, reduceCtorEq, Nat.reduceAdd, Nat.reduceSub, Nat.reduceMul, Nat.reduceLeDiff, Nat.reduceLT, Nat.reduceMod, Nat.reduceDiv, Int.reduceToNat, Int.reduceLT, Int.reduceLE, Int.reduceEq, Int.reduceAdd, Int.reduceSub, Int.reduceNeg, Int.reduceMul, Bool.and_self] | split)
    all_goals first
      | exact .mk (k + 1) ⟨h0, h1, rfl, rfl, by omega, by omega, by rw [runF_step (p := isD) (l := s) (i := k) (by omega) (by assumption)]; exact hr2⟩ (by omega)
      | skip
    all_goals
      have hk3 : runF isD s k = k := runF_stop fun _ => Bool.eq_false_iff.2 (by first | assumption | omega)
      rw [hr2] at hk3
      rw [tokF_D (by assumption) (by assumption), hk3]; rfl
  · have hw' : isW (s.getD i 0) = false ∧ ¬ (s.getD i 0).toNat = 35 := hw.resolve_left (by assumption)
    have hb : badF s (i + 1) = badF s i := badF_step hi (stays_iff.2 ⟨hw'.1, hw'.2, Bool.eq_false_iff.2 (by assumption), Bool.eq_false_iff.2 (by assumption), by omega⟩)
    rw [tokF_W (by assumption) (by assumption) (by omega), hb]
    refine rk_loopS (fun (k : Nat) e' H' => e' 0 = str s ∧ e' 6 = int k ∧ H = H' ∧ k ≤ s.length ∧ badF s k = badF s i) (fun k => s.length - k) i ⟨rfl, rfl, rfl, by omega, rfl⟩ ?_
    rintro k e' H' ⟨h0, h1, rfl, hk, hr⟩
    repeat' (first | (refine ⟨by omega, ?_⟩) | (refine callF_pure (blankR _ _) ?_) | (refine callF_pure (beginsR _ _ _ hl (by omega)) ?_) | (refine callQF_pure (blankR _ _) rfl ?_) | (refine callQF_pure (beginsR _ _ _ hl (by omega)) rfl ?_) | simp -implicitDefEqProofs (disch := omega) only [h0, h1, push_cast, ↓reduceIte, Nat.reduceEqDiff, reduceCtorEq, Nat.reduceAdd, Nat.reduceSub, Nat.reduceMul, Nat.reduceLeDiff, Nat.reduceLT, Nat.reduceMod, Nat.reduceDiv, Int.reduceToNat, Int.reduceLT, Int.reduceLE, Int.reduceEq, Int.reduceAdd, Int.reduceSub, Int.reduceNeg, Int.reduceMul, Bool.and_self] | split)
    all_goals first
      | exact .mk (k + 1) ⟨h0, rfl, rfl, by omega, by rw [badF_step (by omega) (stays_iff.2 (by simp_all; omega))]; exact hr⟩ (by omega)
      | (rw [← hr, badF_stop fun _ => Bool.eq_false_iff.2 fun hh => by rw [stays_iff] at hh; obtain ⟨g1, g2, g3, g4, g5⟩ := hh; first | omega | (simp_all; done)]; rfl)
end Go.Proofs.Ytdibceakkjmpgaa
