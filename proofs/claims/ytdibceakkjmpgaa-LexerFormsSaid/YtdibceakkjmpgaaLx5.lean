/- The lexer's functions, and those of its reference: what each computes. Part 5: all tokens, words. -/
import Derived.Test.YtdibceakkjmpgaaLx4
namespace Go.Proofs.Ytdibceakkjmpgaa
open Go Go.Ax
set_option maxRecDepth 100000
set_option linter.unusedSimpArgs false
set_option linter.unusedVariables false

structure Tok where
  kind : Nat
  fr : Nat
  at_ : Nat
  en : Nat
def tokR (t : Tok) : List AV := [int t.kind, int t.fr, int t.at_, int t.en]
def scanN (s : List UInt8) : Nat → Nat → List Tok
  | 0, _ => []
  | n + 1, f => if skipF s f = s.length then [⟨5, f, skipF s f, skipF s f⟩] else ⟨(tokF s (skipF s f)).1, f, skipF s f, (tokF s (skipF s f)).2⟩ :: scanN s n (tokF s (skipF s f)).2
def scanF (s : List UInt8) : List Tok := scanN s (s.length + 1) 0

theorem skipL_out : ∀ (b : Bool) (l : List UInt8), skipL b l < l.length → isW (l.getD (skipL b l) 0) = false ∧ ¬ (l.getD (skipL b l) 0).toNat = 35
  | _, [], h => by simp at h
  | true, c :: l, h => by
    simp only [skipL] at h ⊢
    split at h <;> rename_i hc
    · rw [if_pos hc, List.getD_cons_succ]; exact skipL_out true l (by simp at h; omega)
    · rw [if_neg hc, List.getD_cons_succ]; exact skipL_out false l (by simp at h; omega)
  | false, c :: l, h => by
    simp only [skipL] at h ⊢
    split at h <;> rename_i hc
    · rw [if_pos hc, List.getD_cons_succ]; exact skipL_out false l (by simp at h; omega)
    · rw [if_neg hc]
      split at h <;> rename_i hd
      · rw [if_pos hd, List.getD_cons_succ]; exact skipL_out true l (by simp at h; omega)
      · rw [if_neg hd, List.getD_cons_zero]; exact ⟨Bool.eq_false_iff.2 hc, hd⟩
theorem getD_drop0 (l : List UInt8) (i j : Nat) : (l.drop i).getD j 0 = l.getD (i + j) 0 := by simp [List.getD_eq_getElem?_getD]
theorem skipF_out {s : List UInt8} {i : Nat} (h : skipF s i < s.length) : isW (s.getD (skipF s i) 0) = false ∧ ¬ (s.getD (skipF s i) 0).toNat = 35 := by
  have := skipL_out false (s.drop i) (by simp [skipF] at h ⊢; omega)
  rw [getD_drop0] at this
  exact this

theorem scanN_end {s : List UInt8} {n f : Nat} (h : skipF s f = s.length) : scanN s (n + 1) f = [⟨5, f, skipF s f, skipF s f⟩] := if_pos h
theorem scanN_more {s : List UInt8} {n f : Nat} (h : ¬ skipF s f = s.length) : scanN s (n + 1) f = ⟨(tokF s (skipF s f)).1, f, skipF s f, (tokF s (skipF s f)).2⟩ :: scanN s n (tokF s (skipF s f)).2 := if_neg h
theorem take_done (done : List Tok) (x : List AV) : ((done.map tokR) ++ [x]).take (done.length + 1) = done.map tokR ++ [x] := List.take_of_length_le (by simp)

theorem scan (s : List UInt8) (H : AHeap) (hl : s.length ≤ 4096) : Comp 33 [str s] H (.tup [.sl 4 ((scanF s).map tokR), int 0]) := by
  refine ACall.drop (R := fun x => x = .tup [.sl 4 ((scanF s).map tokR), int 0]) ?_
  refine enter Try.func33 L33_ok (Nat.le_of_ble_eq_true rfl) ?_
  repeat' (first | (refine ⟨by omega, ?_⟩) | simp -implicitDefEqProofs (disch := omega) only [L33, push_cast, ↓reduceIte, Nat.reduceEqDiff, reduceCtorEq, Nat.reduceAdd, Nat.reduceSub, Nat.reduceMul, Nat.reduceLeDiff, Nat.reduceLT, Nat.reduceMod, Nat.reduceDiv, Int.reduceToNat, Int.reduceLT, Int.reduceLE, Int.reduceEq, Int.reduceAdd, Int.reduceSub, Int.reduceNeg, Int.reduceMul, Bool.and_self] | split)
  · omega
  refine rk_loopS (fun (p : Nat × Nat × Nat × List Tok) e' H' => e' 0 = str s ∧ e' 5 = int p.2.1 ∧ e' 4 = .os H.length p.2.2.1 0 p.2.2.2.length ∧ H' = H ++ [.arr p.2.2.1 4 (p.2.2.2.map tokR)] ∧ p.2.1 ≤ s.length ∧ p.2.2.2.length ≤ p.2.1 ∧ s.length < p.1 + p.2.1 ∧ p.2.2.2 ++ scanN s p.1 p.2.1 = scanF s) (fun p => s.length + 1 - p.2.1) (s.length + 1, 0, 0, []) ⟨rfl, rfl, rfl, rfl, Nat.zero_le _, Nat.zero_le _, by simp, rfl⟩ ?_
  rintro ⟨n, f, ver, done⟩ e' H' ⟨h0, h5, h4, rfl, hf, hd, hn, hr⟩
  simp only at h0 h5 h4 hf hd hn hr
  have hk := skipF_le hf
  cases n with
  | zero => omega
  | succ n =>
  repeat' (first | (refine ⟨by omega, ?_⟩) | (refine callF_pure (skip _ _ _ (by omega) hf) ?_) | (refine callF_pure (token _ _ _ (by omega) (by omega)) ?_) | (refine callQF_pure (skip _ _ _ (by omega) hf) rfl ?_) | (refine callQF_pure (token _ _ _ (by omega) (by omega)) rfl ?_) | simp -implicitDefEqProofs (disch := omega) only [h0, h5, h4, take_done, push_cast, ↓reduceIte, Nat.reduceEqDiff, reduceCtorEq, Nat.reduceAdd, Nat.reduceSub, Nat.reduceMul, Nat.reduceLeDiff, Nat.reduceLT, Nat.reduceMod, Nat.reduceDiv, Int.reduceToNat, Int.reduceLT, Int.reduceLE, Int.reduceEq, Int.reduceAdd, Int.reduceSub, Int.reduceNeg, Int.reduceMul, Bool.and_self] | split)
  · rename_i h1
    refine ⟨?_, _, rfl⟩
    rw [← hr, scanN_end (by omega), List.map_append]; rfl
  · rename_i h1
    have ht := tokF_gt (s := s) (i := skipF s f) (by omega)
    exact .mk (n, (tokF s (skipF s f)).2, ver + 1, done ++ [⟨(tokF s (skipF s f)).1, f, skipF s f, (tokF s (skipF s f)).2⟩]) ⟨h0, rfl, by simp [up], by simp [tokR], ht.2, by simp; omega, by simp; omega, by rw [← hr, scanN_more (by omega)]; simp⟩ (by simp only; omega)

theorem scanR (s : List UInt8) (H : AHeap) (hl : s.length ≤ 4096) : Comp 45 [str s] H (.tup [.sl 4 ((scanF s).map tokR), int 0]) := by
  refine ACall.drop (R := fun x => x = .tup [.sl 4 ((scanF s).map tokR), int 0]) ?_
  refine enter Try.func45 L45_ok (Nat.le_of_ble_eq_true rfl) ?_
  repeat' (first | (refine ⟨by omega, ?_⟩) | simp -implicitDefEqProofs (disch := omega) only [L45, push_cast, ↓reduceIte, Nat.reduceEqDiff, reduceCtorEq, Nat.reduceAdd, Nat.reduceSub, Nat.reduceMul, Nat.reduceLeDiff, Nat.reduceLT, Nat.reduceMod, Nat.reduceDiv, Int.reduceToNat, Int.reduceLT, Int.reduceLE, Int.reduceEq, Int.reduceAdd, Int.reduceSub, Int.reduceNeg, Int.reduceMul, Bool.and_self] | split)
  · omega
  refine rk_loopS (fun (p : Nat × Nat × Nat × List Tok) e' H' => e' 0 = str s ∧ e' 5 = int p.2.1 ∧ e' 4 = .os H.length p.2.2.1 0 p.2.2.2.length ∧ H' = H ++ [.arr p.2.2.1 4 (p.2.2.2.map tokR)] ∧ p.2.1 ≤ s.length ∧ p.2.2.2.length ≤ p.2.1 ∧ s.length < p.1 + p.2.1 ∧ p.2.2.2 ++ scanN s p.1 p.2.1 = scanF s) (fun p => s.length + 1 - p.2.1) (s.length + 1, 0, 0, []) ⟨rfl, rfl, rfl, rfl, Nat.zero_le _, Nat.zero_le _, by simp, rfl⟩ ?_
  rintro ⟨n, f, ver, done⟩ e' H' ⟨h0, h5, h4, rfl, hf, hd, hn, hr⟩
  simp only at h0 h5 h4 hf hd hn hr
  have hk := skipF_le hf
  cases n with
  | zero => omega
  | succ n =>
  repeat' (first | (refine ⟨by omega, ?_⟩) | (refine callF_pure (skipR _ _ _ (by omega) hf) ?_) | (refine callF_pure (tokenR _ _ _ (by omega) (by omega) (.inr (skipF_out (by omega)))) ?_) | (refine callQF_pure (skipR _ _ _ (by omega) hf) rfl ?_) | (refine callQF_pure (tokenR _ _ _ (by omega) (by omega) (.inr (skipF_out (by omega)))) rfl ?_) | simp -implicitDefEqProofs (disch := omega) only [h0, h5, h4, take_done, push_cast, ↓reduceIte, Nat.reduceEqDiff, reduceCtorEq, Nat.reduceAdd, Nat.reduceSub, Nat.reduceMul, Nat.reduceLeDiff, Nat.reduceLT, Nat.reduceMod, Nat.reduceDiv, Int.reduceToNat, Int.reduceLT, Int.reduceLE, Int.reduceEq, Int.reduceAdd, Int.reduceSub, Int.reduceNeg, Int.reduceMul, Bool.and_self] | split)
  · rename_i h1
    refine ⟨?_, _, rfl⟩
    rw [← hr, scanN_end (by omega), List.map_append]; rfl
  · rename_i h1
    have ht := tokF_gt (s := s) (i := skipF s f) (by omega)
    exact .mk (n, (tokF s (skipF s f)).2, ver + 1, done ++ [⟨(tokF s (skipF s f)).1, f, skipF s f, (tokF s (skipF s f)).2⟩]) ⟨h0, rfl, by simp [up], by simp [tokR], ht.2, by simp; omega, by simp; omega, by rw [← hr, scanN_more (by omega)]; simp⟩ (by simp only; omega)

/-- Tokens that lie in a text, one behind the other. -/
def inText (s : List UInt8) : Nat → List Tok → Prop
  | _, [] => True
  | f, t :: l => t.fr = f ∧ f ≤ t.at_ ∧ t.at_ ≤ t.en ∧ t.en ≤ s.length ∧ (t.at_ = t.en → l = []) ∧ inText s t.en l
theorem scanN_in (s : List UInt8) : ∀ n f, f ≤ s.length → inText s f (scanN s n f)
  | 0, _, _ => trivial
  | n + 1, f, hf => by
    have hk := skipF_le hf
    by_cases h : skipF s f = s.length
    · rw [scanN_end h]; exact ⟨rfl, hk.1, Nat.le_refl _, hk.2, fun _ => rfl, trivial⟩
    · rw [scanN_more h]
      have ht := tokF_gt (s := s) (i := skipF s f) (by omega)
      exact ⟨rfl, hk.1, by simp only; omega, ht.2, fun h => by simp only at h; omega, scanN_in s n _ ht.2⟩
theorem inText_le {s : List UInt8} : ∀ {l : List Tok} {f : Nat}, inText s f l → ∀ t ∈ l, t.fr ≤ t.at_ ∧ t.at_ ≤ t.en ∧ t.en ≤ s.length
  | [], _, _, t, ht => by simp at ht
  | x :: l, f, h, t, ht => by
    obtain ⟨h1, h2, h3, h4, _, h5⟩ := h
    rcases List.mem_cons.1 ht with rfl | ht
    · exact ⟨by omega, h3, h4⟩
    · exact inText_le h5 t ht
theorem inText_length {s : List UInt8} : ∀ {l : List Tok} {f : Nat}, inText s f l → f ≤ s.length → l.length ≤ s.length + 1 - f
  | [], _, _, _ => by simp
  | x :: l, f, h, hf => by
    obtain ⟨h1, h2, h3, h4, h5, h6⟩ := h
    by_cases he : x.at_ = x.en
    · rw [h5 he]; simp; omega
    · have := inText_length h6 h4
      simp only [List.length_cons]; omega
theorem scanF_length (s : List UInt8) : (scanF s).length ≤ s.length + 1 := by
  have := inText_length (scanN_in s (s.length + 1) 0 (Nat.zero_le _)) (Nat.zero_le _)
  unfold scanF; omega
theorem scanF_le (s : List UInt8) : ∀ t ∈ scanF s, t.fr ≤ t.at_ ∧ t.at_ ≤ t.en ∧ t.en ≤ s.length := inText_le (scanN_in s _ 0 (Nat.zero_le _))

theorem toks_getD {l : List Tok} {j : Nat} (h : j < l.length) : (l.map tokR).getD (0 + j) [] = tokR (l.getD j ⟨0, 0, 0, 0⟩) := by
  simp [List.getD_eq_getElem?_getD, h]
theorem toks_getD' {l : List Tok} {j : Nat} (h : j < l.length) : (l.map tokR).getD j [] = tokR (l.getD j ⟨0, 0, 0, 0⟩) := by
  simp [List.getD_eq_getElem?_getD, h]
theorem getD_mem {α : Type} {l : List α} {j : Nat} (h : j < l.length) (d : α) : l.getD j d ∈ l := by
  simp [List.getD_eq_getElem?_getD, h]

theorem fit (s : List UInt8) (l : List Tok) (H : AHeap) (hs : (s.length : Int) < 9223372036854775807) (hl : l.length ≤ 4097) (hin : ∀ t ∈ l, t.fr ≤ t.at_ ∧ t.at_ ≤ t.en ∧ t.en ≤ s.length) : Comp 67 [str s, .sl 4 (l.map tokR)] H (bool true) := by
  refine ACall.drop (R := fun x => x = bool true) ?_
  refine enter Try.func67 L67_ok (Nat.le_of_ble_eq_true rfl) ?_
  repeat' (first | (refine ⟨by omega, ?_⟩) | simp -implicitDefEqProofs (disch := omega) only [L67, push_cast, ↓reduceIte, Nat.reduceEqDiff, reduceCtorEq, Nat.reduceAdd, Nat.reduceSub, Nat.reduceMul, Nat.reduceLeDiff, Nat.reduceLT, Nat.reduceMod, Nat.reduceDiv, Int.reduceToNat, Int.reduceLT, Int.reduceLE, Int.reduceEq, Int.reduceAdd, Int.reduceSub, Int.reduceNeg, Int.reduceMul, Bool.and_self] | split)
  refine rk_loopS (fun (p : Nat × List HO) e' H' => e' 0 = str s ∧ e' 1 = .sl 4 (l.map tokR) ∧ e' 7 = .sl 4 (l.map tokR) ∧ e' 8 = int l.length ∧ e' 9 = int p.1 ∧ H' = H ++ p.2 ∧ p.1 ≤ l.length) (fun p => l.length - p.1) (0, []) ⟨rfl, rfl, rfl, rfl, rfl, by simp, Nat.zero_le _⟩ ?_
  rintro ⟨j, rest⟩ e' H' ⟨h0, h1, h7, h8, h9, rfl, hj⟩
  simp only at h0 h1 h7 h8 h9 hj
  by_cases hlt : j < l.length
  · have ht := hin _ (getD_mem hlt ⟨0, 0, 0, 0⟩)
    repeat' (first | (refine ⟨by omega, ?_⟩) | simp -implicitDefEqProofs (disch := omega) only [h0, h1, h7, h8, h9, toks_getD', tokR, push_cast, ↓reduceIte, Nat.reduceEqDiff, reduceCtorEq, Nat.reduceAdd, Nat.reduceSub, Nat.reduceMul, Nat.reduceLeDiff, Nat.reduceLT, Nat.reduceMod, Nat.reduceDiv, Int.reduceToNat, Int.reduceLT, Int.reduceLE, Int.reduceEq, Int.reduceAdd, Int.reduceSub, Int.reduceNeg, Int.reduceMul, Bool.and_self] | split)
    all_goals first
      | omega
      | exact .mk (j + 1, rest ++ [_]) ⟨h0, h1, h7, h8, rfl, rfl, by simp only; omega⟩ (by simp only; omega)
  · repeat' (first | (refine ⟨by omega, ?_⟩) | simp -implicitDefEqProofs (disch := omega) only [h0, h1, h7, h8, h9, toks_getD', tokR, push_cast, ↓reduceIte, Nat.reduceEqDiff, reduceCtorEq, Nat.reduceAdd, Nat.reduceSub, Nat.reduceMul, Nat.reduceLeDiff, Nat.reduceLT, Nat.reduceMod, Nat.reduceDiv, Int.reduceToNat, Int.reduceLT, Int.reduceLE, Int.reduceEq, Int.reduceAdd, Int.reduceSub, Int.reduceNeg, Int.reduceMul, Bool.and_self] | split)
    · omega
    · refine ⟨?_, rest, rfl⟩
      rw [decide_eq_true (by omega)]

def wordsF (s : List UInt8) (l : List Tok) : List (List UInt8) := l.map fun t => (s.drop t.at_).take (t.en - t.at_)
theorem words_take (l : List Tok) (s : List UInt8) (j : Nat) (h : j < l.length) : strs (wordsF s (l.take j)) ++ [[str ((s.drop (l.getD j ⟨0, 0, 0, 0⟩).at_).take ((l.getD j ⟨0, 0, 0, 0⟩).en - (l.getD j ⟨0, 0, 0, 0⟩).at_))]] = strs (wordsF s (l.take (j + 1))) := by
  rw [List.take_succ_eq_append_getElem h]
  simp only [strs, wordsF, List.map_append, List.map_cons, List.map_nil, List.getD_eq_getElem?_getD, List.getElem?_eq_getElem h, Option.getD_some]
theorem words_len (l : List Tok) (s : List UInt8) (j : Nat) (h : j ≤ l.length) : (strs (wordsF s (l.take j))).length = j := by
  simp [strs, wordsF]; omega
theorem take_all {α : Type} (l : List α) {n : Nat} (h : l.length = n) : l.take n = l := List.take_of_length_le (by omega)

theorem words (s : List UInt8) (l : List Tok) (H : AHeap) (hs : (s.length : Int) < 9223372036854775807) (hl : l.length ≤ 4097) (hin : ∀ t ∈ l, t.fr ≤ t.at_ ∧ t.at_ ≤ t.en ∧ t.en ≤ s.length) : Comp 35 [str s, .sl 4 (l.map tokR)] H (.sl 1 (strs (wordsF s l))) := by
  refine ACall.drop (R := fun x => x = .sl 1 (strs (wordsF s l))) ?_
  refine enter Try.func35 L35_ok (Nat.le_of_ble_eq_true rfl) ?_
  repeat' (first | (refine ⟨by omega, ?_⟩) | (refine callF_pure (fit _ _ _ hs hl hin) ?_) | (refine callQF_pure (fit _ _ _ hs hl hin) rfl ?_) | simp -implicitDefEqProofs (disch := omega) only [L35, push_cast, ↓reduceIte, Nat.reduceEqDiff, reduceCtorEq, Nat.reduceAdd, Nat.reduceSub, Nat.reduceMul, Nat.reduceLeDiff, Nat.reduceLT, Nat.reduceMod, Nat.reduceDiv, Int.reduceToNat, Int.reduceLT, Int.reduceLE, Int.reduceEq, Int.reduceAdd, Int.reduceSub, Int.reduceNeg, Int.reduceMul, Bool.and_self] | split)
  refine rk_loopS (fun (p : Nat × Nat × List HO) e' H' => e' 0 = str s ∧ e' 5 = .os H.length p.2.1 0 p.1 ∧ e' 12 = .sl 4 (l.map tokR) ∧ e' 13 = int l.length ∧ e' 14 = int p.1 ∧ H' = H ++ .arr p.2.1 1 (strs (wordsF s (l.take p.1))) :: p.2.2 ∧ p.1 ≤ l.length) (fun p => l.length - p.1) (0, 0, []) ⟨rfl, rfl, rfl, rfl, rfl, by simp [strs, wordsF], Nat.zero_le _⟩ ?_
  rintro ⟨j, ver, rest⟩ e' H' ⟨h0, h5, h12, h13, h14, rfl, hj⟩
  simp only at h0 h5 h12 h13 h14 hj
  have hwl := words_len l s j hj
  by_cases hlt : j < l.length
  · have ht := hin _ (getD_mem hlt ⟨0, 0, 0, 0⟩)
    repeat' (first | (refine ⟨by omega, ?_⟩) | simp -implicitDefEqProofs (disch := omega) only [h0, h5, h12, h13, h14, toks_getD', tokR, hwl, take_all _ hwl, words_take, push_cast, ↓reduceIte, Nat.reduceEqDiff, reduceCtorEq, Nat.reduceAdd, Nat.reduceSub, Nat.reduceMul, Nat.reduceLeDiff, Nat.reduceLT, Nat.reduceMod, Nat.reduceDiv, Int.reduceToNat, Int.reduceLT, Int.reduceLE, Int.reduceEq, Int.reduceAdd, Int.reduceSub, Int.reduceNeg, Int.reduceMul, Bool.and_self] | split)
    · exact .mk (j + 1, ver + 1, rest ++ [_]) ⟨h0, rfl, h12, h13, rfl, rfl, hlt⟩ (by simp only; omega)
    · omega
  · repeat' (first | (refine ⟨by omega, ?_⟩) | simp -implicitDefEqProofs (disch := omega) only [h0, h5, h12, h13, h14, toks_getD', tokR, hwl, take_all _ hwl, words_take, push_cast, ↓reduceIte, Nat.reduceEqDiff, reduceCtorEq, Nat.reduceAdd, Nat.reduceSub, Nat.reduceMul, Nat.reduceLeDiff, Nat.reduceLT, Nat.reduceMod, Nat.reduceDiv, Int.reduceToNat, Int.reduceLT, Int.reduceLE, Int.reduceEq, Int.reduceAdd, Int.reduceSub, Int.reduceNeg, Int.reduceMul, Bool.and_self] | split)
    · omega
    · exact ⟨by rw [take_all l (by omega)], _, rfl⟩
end Go.Proofs.Ytdibceakkjmpgaa
