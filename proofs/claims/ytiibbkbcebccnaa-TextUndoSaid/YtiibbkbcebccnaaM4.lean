/- Parts, merged by a program (wip/tools/merge.py): Tb5 Tb6 Tb7 Tb8 Tb9 Tb10 Tb11 Tb12 Tb13 Tb14. -/
import Derived.Test.YtiibbkbcebccnaaM3
/- Texts: Apply. -/
namespace Go.Proofs.Ytiibbkbcebccnaa
open Go Go.Ax Go.RowKit
set_option maxRecDepth 100000
set_option linter.unusedSimpArgs false
set_option linter.unusedVariables false

theorem BSt.app {n0 r : Nat} {l : List UInt8} {G : AHeap} (h : BSt n0 r l G) (ext : AHeap) : BSt n0 r l (G ++ ext) := by
  have hk : ∀ {i : Nat} {x : HO}, G[i]? = some x → (G ++ ext)[i]? = some x := fun {i x} hi => by rw [List.getElem?_append_left (List.getElem?_eq_some_iff.1 hi).1]; exact hi
  obtain ⟨h0, ⟨a, b⟩ | ⟨a, b⟩ | ⟨k, v, a, b, c, d⟩⟩ := h
  · exact ⟨h0, .inl ⟨hk a, b⟩⟩
  · exact ⟨h0, .inr (.inl ⟨hk a, b⟩)⟩
  · exact ⟨h0, .inr (.inr ⟨k, v, a, b, hk c, hk d⟩)⟩
theorem BSt.set {n0 r i : Nat} {l : List UInt8} {G : AHeap} (h : BSt n0 r l G) (hne : i ≠ r) {cs : List AV} (hi : G[i]? = some (.box cs)) (cs' : List AV) : BSt n0 r l (G.set i (.box cs')) := by
  have hk : ∀ {j : Nat} {x : HO}, G[j]? = some x → i ≠ j → (G.set i (.box cs'))[j]? = some x := fun {j x} hj hn => by rw [List.getElem?_set_ne hn]; exact hj
  obtain ⟨h0, ⟨a, b⟩ | ⟨a, b⟩ | ⟨k, v, a, b, c, d⟩⟩ := h
  · exact ⟨h0, .inl ⟨hk a hne, b⟩⟩
  · exact ⟨h0, .inr (.inl ⟨hk a hne, b⟩)⟩
  · exact ⟨h0, .inr (.inr ⟨k, v, a, b, hk c hne, hk d (fun e => by subst e; rw [hi] at d; cases d)⟩)⟩

/-- What Apply's loop holds: the text, the builder, the cursor, and all older objects. -/
def ASt (n : Nat) (s out : List UInt8) (at' : Int) (H G : AHeap) : Prop := n + 2 < G.length ∧ (∀ i, i < n → G[i]? = H[i]?) ∧ G[n]? = some (.box [str s]) ∧ G[n + 2]? = some (.box [int at']) ∧ BSt n (n + 1) out G
theorem ASt.app {n : Nat} {s out : List UInt8} {a : Int} {H G : AHeap} (h : ASt n s out a H G) (ext : AHeap) : ASt n s out a H (G ++ ext) := by
  obtain ⟨h1, h2, h3, h4, h5⟩ := h
  have hk : ∀ {i : Nat}, i < G.length → (G ++ ext)[i]? = G[i]? := fun {i} hi => List.getElem?_append_left hi
  exact ⟨by simp; omega, fun i hi => (hk (by omega)).trans (h2 i hi), (hk (by omega)).trans h3, (hk h1).trans h4, h5.app ext⟩
theorem ASt.set {n : Nat} {s out : List UInt8} {a : Int} {H G : AHeap} (h : ASt n s out a H G) (b : Int) : ASt n s out b H (G.set (n + 2) (.box [int b])) := by
  obtain ⟨h1, h2, h3, h4, h5⟩ := h
  exact ⟨by simpa using h1, fun i hi => by rw [List.getElem?_set_ne (by omega)]; exact h2 i hi, by rw [List.getElem?_set_ne (by omega)]; exact h3, by rw [List.getElem?_set_self h1], h5.set (by omega) h4 _⟩
theorem ASt.kp {n : Nat} {s out out' : List UInt8} {a : Int} {H G G' : AHeap} (h : ASt n s out a H G) (hb : BSt n (n + 1) out' G') (hk : Kp n (n + 1) G G') : ASt n s out' a H G' := by
  obtain ⟨h1, h2, h3, h4, h5⟩ := h
  obtain ⟨k1, k2, k3⟩ := hk
  exact ⟨by omega, fun i hi => (k2 i hi).trans (h2 i hi), k3 n _ (by omega) h3, k3 _ _ (by omega) h4, hb⟩

theorem upToC (n : Nat) (s out : List UInt8) (at' : Int) (t : Int) (H G : AHeap) (h : ASt n s out at' H G) (h0 : 0 ≤ at') (h1 : at' ≤ t) (h2 : t ≤ s.length) (hs : s.length ≤ 100000) (ho : out.length ≤ 10000000) :
    ACall Try.prog 32 [int t, .ptr (n + 1) 0 0, .ptr n 0 0, .ptr (n + 2) 0 0] G fun x G' => x = .tup [] ∧ ASt n s (out ++ (s.take t.toNat).drop at'.toNat) t H G' ∧ ∀ i cs, i ≠ n + 1 → i ≠ n + 2 → G[i]? = some (.box cs) → G'[i]? = some (.box cs) := by
  obtain ⟨j, rfl⟩ : ∃ j : Nat, at' = j := ⟨at'.toNat, by omega⟩
  obtain ⟨k, rfl⟩ : ∃ k : Nat, t = k := ⟨t.toNat, by omega⟩
  have g0 := h.2.2.1
  have g2 := h.2.2.2.1
  refine enter Try.func32 L32_ok (Nat.le_of_ble_eq_true rfl) ?_
  repeat' (first | (refine And.intro (by omega) ?_) | simp -implicitDefEqProofs (disch := omega) only [L32, g0, g2, dT_lt, dF_lt, dT_le, dF_le, dT_eq, dF_eq, push_cast, ↓reduceIte, Nat.reduceEqDiff, reduceCtorEq, Nat.reduceAdd, Nat.reduceSub, Nat.reduceMul, Nat.reduceLeDiff, Nat.reduceLT, Nat.reduceMod, Nat.reduceDiv, Int.reduceToNat, Int.reduceLT, Int.reduceLE, Int.reduceEq, Int.reduceAdd, Int.reduceSub, Int.reduceNeg, Int.reduceMul, Bool.and_self] | split)
  refine callF_mono (writeC n (n + 1) out _ G h.2.2.2.2 (by have := h.1; omega) (by rw [List.length_take, List.length_drop]; omega)) ?_
  rintro x G' ⟨rfl, hb, hk⟩
  have h' := h.kp hb hk
  have g2' := h'.2.2.2.1
  repeat' (first | (refine And.intro (by omega) ?_) | simp -implicitDefEqProofs (disch := omega) only [g2', splice, dT_lt, dF_lt, dT_le, dF_le, dT_eq, dF_eq, push_cast, ↓reduceIte, Nat.reduceEqDiff, reduceCtorEq, Nat.reduceAdd, Nat.reduceSub, Nat.reduceMul, Nat.reduceLeDiff, Nat.reduceLT, Nat.reduceMod, Nat.reduceDiv, Int.reduceToNat, Int.reduceLT, Int.reduceLE, Int.reduceEq, Int.reduceAdd, Int.reduceSub, Int.reduceNeg, Int.reduceMul, Bool.and_self] | split)
  refine ⟨by simp [resVs], rfl, ?_, fun i cs hi1 hi2 hc => ?_⟩
  · rw [List.drop_take]
    exact h'.set k
  · rw [List.getElem?_set_ne (fun e => hi2 e.symm)]
    exact hk.2.2 i cs hi1 hc
#print axioms upToC

/-- The text from a cursor on, after replacements. -/
def appG (s : List UInt8) : Nat → List Re → List UInt8
  | at', [] => s.drop at'
  | at', x :: l => (s.take x.a.toNat).drop at' ++ (x.x ++ appG s x.e.toNat l)
theorem appG_step {s : List UInt8} {a : Nat} {l : List Re} {j : Nat} (h : j < l.length) : appG s a (l.drop j) = (s.take (l.getD j default).a.toNat).drop a ++ ((l.getD j default).x ++ appG s (l.getD j default).e.toNat (l.drop (j + 1))) := by
  rw [drop_cons h]; rfl
/-- Apply's answer. -/
def appF (s : List UInt8) (l : List Re) : List UInt8 := if fitsF s.length l = 0 then appG s 0 l else []
theorem fitsG_in {n : Int} : ∀ {l : List Re} {last : Int}, fitsG n last l = 0 → ∀ x ∈ l, 0 ≤ x.a ∧ x.a ≤ x.e ∧ x.e ≤ n
  | [], _, _, x, hx => by simp at hx
  | y :: l, last, h, x, hx => by
    simp only [fitsG] at h
    split at h
    · omega
    · split at h
      · omega
      · rcases List.mem_cons.1 hx with rfl | hx
        · omega
        · exact fitsG_in h x hx
theorem fitsG_last {n last : Int} {l : List Re} {j : Nat} (hj : j < l.length) (h : fitsG n last (l.drop j) = 0) : last ≤ (l.getD j default).a ∧ fitsG n (l.getD j default).e (l.drop (j + 1)) = 0 := by
  rw [fitsG_step hj] at h
  split at h
  · omega
  · split at h
    · omega
    · exact ⟨by omega, h⟩

theorem heap_ext {H G : AHeap} (hl : H.length ≤ G.length) (h : ∀ i, i < H.length → G[i]? = H[i]?) : ∃ rest, G = H ++ rest := by
  refine ⟨G.drop H.length, ?_⟩
  apply List.ext_getElem?
  intro i
  by_cases hi : i < H.length
  · rw [List.getElem?_append_left hi]; exact h i hi
  · rw [List.getElem?_append_right (by omega), List.getElem?_drop]
    congr 1
    omega
theorem appT (s : List UInt8) (l : List Re) (hs : s.length ≤ 100000) (hl : Fewr l) (H : AHeap) : Comp' 11 [str s, .sl 3 (l.map reR)] H (.tup [str (appF s l), int (fitsF s.length l)]) := by
  refine ACall.drop (R := fun x => x = .tup [str (appF s l), int (fitsF s.length l)]) ?_
  refine enter Try.func11 L11_ok (Nat.le_of_ble_eq_true rfl) ?_
  have hf := fun H => fitsT s l hs hl H
  obtain ⟨hl1, hl2⟩ := hl
  by_cases c0 : fitsF s.length l = 0
  · have hF : appF s l = appG s 0 l := by unfold appF; rw [if_pos c0]
    rw [hF]
    rw [c0] at hf ⊢
    have z0 : fitsG s.length 0 l = 0 := by
      unfold fitsF at c0
      split at c0
      · omega
      · omega
    have hin := fitsG_in z0
    repeat' (first | (refine And.intro (by omega) ?_) | (refine callF_pure (hf _) ?_) | (refine callQF_pure (hf _) (by first | rfl | simp -implicitDefEqProofs (disch := omega) only [L11, splice, dT_lt, dF_lt, dT_le, dF_le, dT_eq, dF_eq, push_cast, ↓reduceIte, Nat.reduceEqDiff, reduceCtorEq, Nat.reduceAdd, Nat.reduceSub, Nat.reduceMul, Nat.reduceLeDiff, Nat.reduceLT, Nat.reduceMod, Nat.reduceDiv, Int.reduceToNat, Int.reduceLT, Int.reduceLE, Int.reduceEq, Int.reduceAdd, Int.reduceSub, Int.reduceNeg, Int.reduceMul, Bool.and_self]) ?_) | simp -implicitDefEqProofs (disch := omega) only [L11, splice, dT_lt, dF_lt, dT_le, dF_le, dT_eq, dF_eq, push_cast, ↓reduceIte, Nat.reduceEqDiff, reduceCtorEq, Nat.reduceAdd, Nat.reduceSub, Nat.reduceMul, Nat.reduceLeDiff, Nat.reduceLT, Nat.reduceMod, Nat.reduceDiv, Int.reduceToNat, Int.reduceLT, Int.reduceLE, Int.reduceEq, Int.reduceAdd, Int.reduceSub, Int.reduceNeg, Int.reduceMul, Bool.and_self] | split)
    refine rk_loopS (fun (st : Nat × Nat × List UInt8) e' G => e' 2 = .ptr H.length 0 0 ∧ e' 7 = .ptr (H.length + 1) 0 0 ∧ e' 8 = .ptr (H.length + 2) 0 0 ∧ e' 9 = .fn (.func 32) [] [.ptr (H.length + 1) 0 0, .ptr H.length 0 0, .ptr (H.length + 2) 0 0] ∧ e' 19 = .sl 3 (l.map reR) ∧ e' 20 = int l.length ∧ e' 21 = int st.1 ∧ ASt H.length s st.2.2 st.2.1 H G ∧ st.1 ≤ l.length ∧ st.2.1 ≤ s.length ∧ fitsG s.length st.2.1 (l.drop st.1) = 0 ∧ st.2.2 ++ appG s st.2.1 (l.drop st.1) = appG s 0 l ∧ st.2.2.length ≤ 200000 * st.1) (fun st => l.length - st.1) (0, 0, []) ?_ ?_
    · refine ⟨rfl, rfl, rfl, rfl, rfl, rfl, rfl, ⟨by simp, fun i hi => ?_, ?_, ?_, by omega, .inl ⟨?_, rfl⟩⟩, Nat.zero_le _, Nat.zero_le _, z0, rfl, by simp⟩
      · exact List.getElem?_append_left hi
      · rw [List.getElem?_append_right (Nat.le_refl _)]; simp
      · rw [get_add]; rfl
      · rw [get_add]; rfl
    rintro ⟨j, at', out⟩ e' G ⟨h2, h7, h8, h9, h19, h20, h21, hA, hj, ha, hg, happ, ho⟩
    simp only at h21 hA hj ha hg happ ho
    have hm : ∀ x : HO, (G ++ [x])[G.length]? = some x := fun x => by simp
    by_cases hlt : j < l.length
    · have hx := hl2 _ (getD_mem' hlt)
      obtain ⟨a1, a2, a3⟩ := hin _ (getD_mem' hlt)
      obtain ⟨a4, hg'⟩ := fitsG_last hlt hg
      rw [appG_step hlt] at happ
      repeat' (first | (refine And.intro (by omega) ?_) | simp -implicitDefEqProofs (disch := omega) only [h2, h7, h8, h9, h19, h20, h21, rows_getD, re_len, re_take, re_drop1, re_drop2, re_drop3, re_c1s, re_cl, re_cells, re_agg, splice, List.append_nil, hm, dT_lt, dF_lt, dT_le, dF_le, dT_eq, dF_eq, push_cast, ↓reduceIte, Nat.reduceEqDiff, reduceCtorEq, Nat.reduceAdd, Nat.reduceSub, Nat.reduceMul, Nat.reduceLeDiff, Nat.reduceLT, Nat.reduceMod, Nat.reduceDiv, Int.reduceToNat, Int.reduceLT, Int.reduceLE, Int.reduceEq, Int.reduceAdd, Int.reduceSub, Int.reduceNeg, Int.reduceMul, Bool.and_self] | split)
      obtain ⟨t, ht⟩ : ∃ t : Nat, (l.getD j default).e = t := ⟨(l.getD j default).e.toNat, by omega⟩
      refine callF_mono (upToC H.length s out at' _ H _ (hA.app _) (by omega) a4 (by omega) hs (by omega)) ?_
      rintro x G1 ⟨rfl, hA1, hk1⟩
      rw [Int.toNat_natCast] at hA1
      have hGl := hA.1
      have m1 := hk1 G.length _ (by omega) (by omega) (hm (.box (reR (l.getD j default))))
      repeat' (first | (refine And.intro (by omega) ?_) | simp -implicitDefEqProofs (disch := omega) only [h2, h7, h8, h9, h19, h20, h21, m1, re_len, re_take, re_drop1, re_drop2, re_drop3, re_c1s, re_cl, re_cells, re_agg, splice, List.append_nil, hm, dT_lt, dF_lt, dT_le, dF_le, dT_eq, dF_eq, push_cast, ↓reduceIte, Nat.reduceEqDiff, reduceCtorEq, Nat.reduceAdd, Nat.reduceSub, Nat.reduceMul, Nat.reduceLeDiff, Nat.reduceLT, Nat.reduceMod, Nat.reduceDiv, Int.reduceToNat, Int.reduceLT, Int.reduceLE, Int.reduceEq, Int.reduceAdd, Int.reduceSub, Int.reduceNeg, Int.reduceMul, Bool.and_self] | split)
      have hlen : (out ++ (s.take (l.getD j default).a.toNat).drop at').length ≤ 200000 * j + 100000 := by
        rw [List.length_append, List.length_drop, List.length_take]; omega
      refine callF_mono (writeC H.length (H.length + 1) _ (l.getD j default).x G1 hA1.2.2.2.2 (by have := hA1.1; omega) (by omega)) ?_
      rintro x G2 ⟨rfl, hb2, hk2⟩
      have m2 := hk2.2.2 G.length _ (by omega) m1
      have hA2 := hA1.kp hb2 hk2
      have g2 := hA2.2.2.2.1
      repeat' (first | (refine And.intro (by omega) ?_) | simp -implicitDefEqProofs (disch := omega) only [h2, h7, h8, h9, h19, h20, h21, m2, g2, re_len, re_take, re_drop1, re_drop2, re_drop3, re_c1s, re_cl, re_cells, re_agg, splice, List.append_nil, hm, dT_lt, dF_lt, dT_le, dF_le, dT_eq, dF_eq, push_cast, ↓reduceIte, Nat.reduceEqDiff, reduceCtorEq, Nat.reduceAdd, Nat.reduceSub, Nat.reduceMul, Nat.reduceLeDiff, Nat.reduceLT, Nat.reduceMod, Nat.reduceDiv, Int.reduceToNat, Int.reduceLT, Int.reduceLE, Int.reduceEq, Int.reduceAdd, Int.reduceSub, Int.reduceNeg, Int.reduceMul, Bool.and_self] | split)
      have hA3 := hA2.set t
      rw [ht] at hg' happ ⊢
      refine .mk (j + 1, t, _) ⟨h2, h7, h8, h9, h19, h20, rfl, hA3, hlt, by simp only; omega, hg', ?_, ?_⟩ (by simp only; omega)
      · rw [← happ]; simp
      · simp only
        rw [List.length_append]
        omega
    · have g0 := hA.2.2.1
      have e : j = l.length := by omega
      subst e
      rw [List.drop_length] at happ
      repeat' (first | (refine And.intro (by omega) ?_) | simp -implicitDefEqProofs (disch := omega) only [h2, h7, h8, h9, h19, h20, h21, g0, dT_lt, dF_lt, dT_le, dF_le, dT_eq, dF_eq, push_cast, ↓reduceIte, Nat.reduceEqDiff, reduceCtorEq, Nat.reduceAdd, Nat.reduceSub, Nat.reduceMul, Nat.reduceLeDiff, Nat.reduceLT, Nat.reduceMod, Nat.reduceDiv, Int.reduceToNat, Int.reduceLT, Int.reduceLE, Int.reduceEq, Int.reduceAdd, Int.reduceSub, Int.reduceNeg, Int.reduceMul, Bool.and_self] | split)
      refine callF_mono (upToC H.length s out at' s.length H G hA (by omega) (by omega) (by omega) hs (by omega)) ?_
      rintro x G1 ⟨rfl, hA1, hk1⟩
      have he : (out ++ (s.take (s.length : Int).toNat).drop (at' : Int).toNat) = appG s 0 l := by
        rw [← happ]; simp [appG]
      rw [he] at hA1
      repeat' (first | (refine And.intro (by omega) ?_) | simp -implicitDefEqProofs (disch := omega) only [h7, dT_lt, dF_lt, dT_le, dF_le, dT_eq, dF_eq, push_cast, ↓reduceIte, Nat.reduceEqDiff, reduceCtorEq, Nat.reduceAdd, Nat.reduceSub, Nat.reduceMul, Nat.reduceLeDiff, Nat.reduceLT, Nat.reduceMod, Nat.reduceDiv, Int.reduceToNat, Int.reduceLT, Int.reduceLE, Int.reduceEq, Int.reduceAdd, Int.reduceSub, Int.reduceNeg, Int.reduceMul, Bool.and_self] | split)
      have hal : (appG s 0 l).length ≤ 10000000 := by
        rw [← happ, List.length_append]
        simp only [appG, List.length_drop]
        omega
      refine callF_mono (stringC H.length (H.length + 1) _ G1 hA1.2.2.2.2 (by omega)) ?_
      rintro x G2 ⟨rfl, hk2⟩
      have hA2 : H.length + 2 < G2.length ∧ ∀ i, i < H.length → G2[i]? = H[i]? := ⟨by have := hk2.1; have := hA1.1; omega, fun i hi => (hk2.2.1 i hi).trans (hA1.2.1 i hi)⟩
      repeat' (first | (refine And.intro (by omega) ?_) | simp -implicitDefEqProofs (disch := omega) only [dT_lt, dF_lt, dT_le, dF_le, dT_eq, dF_eq, push_cast, ↓reduceIte, Nat.reduceEqDiff, reduceCtorEq, Nat.reduceAdd, Nat.reduceSub, Nat.reduceMul, Nat.reduceLeDiff, Nat.reduceLT, Nat.reduceMod, Nat.reduceDiv, Int.reduceToNat, Int.reduceLT, Int.reduceLE, Int.reduceEq, Int.reduceAdd, Int.reduceSub, Int.reduceNeg, Int.reduceMul, Bool.and_self] | split)
      exact heap_ext (by omega) hA2.2
  · have hF : appF s l = [] := by unfold appF; rw [if_neg c0]
    rw [hF]
    repeat' (first | (refine And.intro (by omega) ?_) | (refine callF_pure (hf _) ?_) | (refine callQF_pure (hf _) (by first | rfl | simp -implicitDefEqProofs (disch := omega) only [L11, dT_lt, dF_lt, dT_le, dF_le, dT_eq, dF_eq, push_cast, ↓reduceIte, Nat.reduceEqDiff, reduceCtorEq, Nat.reduceAdd, Nat.reduceSub, Nat.reduceMul, Nat.reduceLeDiff, Nat.reduceLT, Nat.reduceMod, Nat.reduceDiv, Int.reduceToNat, Int.reduceLT, Int.reduceLE, Int.reduceEq, Int.reduceAdd, Int.reduceSub, Int.reduceNeg, Int.reduceMul, Bool.and_self]) ?_) | simp -implicitDefEqProofs (disch := omega) only [L11, dT_lt, dF_lt, dT_le, dF_le, dT_eq, dF_eq, push_cast, ↓reduceIte, Nat.reduceEqDiff, reduceCtorEq, Nat.reduceAdd, Nat.reduceSub, Nat.reduceMul, Nat.reduceLeDiff, Nat.reduceLT, Nat.reduceMod, Nat.reduceDiv, Int.reduceToNat, Int.reduceLT, Int.reduceLE, Int.reduceEq, Int.reduceAdd, Int.reduceSub, Int.reduceNeg, Int.reduceMul, Bool.and_self] | split)
    exact ⟨_, rfl⟩
#print axioms appT
end Go.Proofs.Ytiibbkbcebccnaa

/- Texts: Difference. -/
namespace Go.Proofs.Ytiibbkbcebccnaa
open Go Go.Ax Go.RowKit
set_option maxRecDepth 100000
set_option linter.unusedSimpArgs false
set_option linter.unusedVariables false

/-- How many bytes two texts begin with alike. -/
def preF : List UInt8 → List UInt8 → Nat
  | a :: l, b :: m => if a = b then preF l m + 1 else 0
  | _, _ => 0
theorem preF_le : ∀ a b, preF a b ≤ a.length ∧ preF a b ≤ b.length
  | [], _ => by simp [preF]
  | _ :: _, [] => by simp [preF]
  | a :: l, b :: m => by
    have := preF_le l m
    simp only [preF, List.length_cons]
    split <;> omega
theorem preF_take : ∀ a b : List UInt8, a.take (preF a b) = b.take (preF a b)
  | [], _ => by simp [preF]
  | _ :: _, [] => by simp [preF]
  | a :: l, b :: m => by
    simp only [preF]
    split
    · rename_i h
      simp [h, preF_take l m]
    · simp
theorem getD_at {l : List UInt8} {j : Nat} (h : j < l.length) : l.getD j 0 = l[j] := by simp [List.getD_eq_getElem?_getD, h]
theorem preF_step {a b : List UInt8} {j : Nat} (ha : j < a.length) (hb : j < b.length) : preF (a.drop j) (b.drop j) = if a.getD j 0 = b.getD j 0 then preF (a.drop (j + 1)) (b.drop (j + 1)) + 1 else 0 := by
  rw [List.drop_eq_getElem_cons ha, List.drop_eq_getElem_cons hb, getD_at ha, getD_at hb]
  rfl
theorem preF_end {a b : List UInt8} {j : Nat} (h : ¬ (j < a.length ∧ j < b.length)) : preF (a.drop j) (b.drop j) = 0 := by
  by_cases ha : j < a.length
  · rw [List.drop_of_length_le (l := b) (by omega)]
    cases a.drop j <;> rfl
  · rw [List.drop_of_length_le (l := a) (by omega)]
    rfl
/-- How many bytes of the rests end alike. -/
def sufF (a b : List UInt8) : Nat := preF (a.drop (preF a b)).reverse (b.drop (preF a b)).reverse
def difF (a b : List UInt8) : Re := ⟨preF a b, (a.length : Int) - sufF a b, (b.take (b.length - sufF a b)).drop (preF a b)⟩
theorem sufF_le (a b : List UInt8) : preF a b + sufF a b ≤ a.length ∧ preF a b + sufF a b ≤ b.length := by
  have h := preF_le a b
  have := preF_le (a.drop (preF a b)).reverse (b.drop (preF a b)).reverse
  simp only [List.length_reverse, List.length_drop] at this
  unfold sufF
  omega
theorem rev_getD {a : List UInt8} {p j : Nat} (h : j < a.length - p) : (a.drop p).reverse.getD j 0 = a.getD (a.length - 1 - j) 0 := by
  have h1 : j < (a.drop p).reverse.length := by simpa using h
  rw [getD_at h1, List.getElem_reverse, List.getElem_drop, getD_at (by omega)]
  congr 1
  simp only [List.length_drop]
  omega
theorem dif_apply (a b : List UInt8) : appG a 0 [difF a b] = b := by
  have h := sufF_le a b
  have hp := preF_take a b
  have hs : a.drop (a.length - sufF a b) = b.drop (b.length - sufF a b) := by
    have := preF_take (a.drop (preF a b)).reverse (b.drop (preF a b)).reverse
    change List.take (sufF a b) _ = List.take (sufF a b) _ at this
    rw [List.take_reverse, List.take_reverse] at this
    have := List.reverse_inj.1 this
    rw [List.drop_drop, List.drop_drop, List.length_drop, List.length_drop] at this
    rw [show preF a b + (a.length - preF a b - sufF a b) = a.length - sufF a b by omega, show preF a b + (b.length - preF a b - sufF a b) = b.length - sufF a b by omega] at this
    exact this
  simp only [appG, difF, List.drop_zero, Int.toNat_natCast]
  rw [show ((a.length : Int) - (sufF a b : Int)).toNat = a.length - sufF a b by omega, hs, hp]
  have e1 : b.take (preF a b) = (b.take (b.length - sufF a b)).take (preF a b) := by rw [List.take_take]; congr 1; omega
  rw [e1, ← List.append_assoc, List.take_append_drop, List.take_append_drop]
theorem dif_fits (a b : List UInt8) (hb : b.length ≤ 300) : fitsF a.length [difF a b] = 0 := by
  have h := sufF_le a b
  have h1 : fitsG a.length 0 [difF a b] = 0 := by
    unfold fitsG
    rw [if_neg (by simp only [difF]; omega), if_neg (by simp only [difF]; omega)]
    rfl
  unfold fitsF
  rw [h1]
  have h2 : (difF a b).x.length ≤ 300 := by simp only [difF, List.length_drop, List.length_take]; omega
  have h3 : (a.length : Int) + growF [difF a b] ≤ 300 := by
    simp only [growF, difF, List.length_drop, List.length_take]
    omega
  rw [if_neg (by simp), if_neg (by omega)]

theorem difT (a b : List UInt8) (ha : a.length ≤ 100000) (hb : b.length ≤ 100000) (H : AHeap) : Comp' 10 [str a, str b] H (.agg (reR (difF a b))) := by
  refine ACall.drop (R := fun x => x = .agg (reR (difF a b))) ?_
  refine enter Try.func10 L10_ok (Nat.le_of_ble_eq_true rfl) ?_
  have hpl := sufF_le a b
  have hfin : reR (difF a b) = [int (preF a b), int ((a.length : Int) - sufF a b), str ((b.take (b.length - sufF a b)).drop (preF a b))] := rfl
  have hsuf : sufF a b = preF (a.drop (preF a b)).reverse (b.drop (preF a b)).reverse := rfl
  have hag : (H ++ [HO.box [int 0, int 0, str []]])[H.length]? = some (.box [int 0, int 0, str []]) := by simp
  rw [hfin]
  clear hfin
  refine rk_cut (fun e G => e 0 = str a ∧ e 1 = str b ∧ e 4 = .ptr H.length 0 0 ∧ G = H ++ [.box [int 0, int 0, str []]]) ?_ ?_
  · repeat' (first | (refine And.intro (by omega) ?_) | simp -implicitDefEqProofs (disch := omega) only [dT_lt, dF_lt, dT_le, dF_le, dT_eq, dF_eq, push_cast, ↓reduceIte, Nat.reduceEqDiff, reduceCtorEq, Nat.reduceAdd, Nat.reduceSub, Nat.reduceMul, Nat.reduceLeDiff, Nat.reduceLT, Nat.reduceMod, Nat.reduceDiv, Int.reduceToNat, Int.reduceLT, Int.reduceLE, Int.reduceEq, Int.reduceAdd, Int.reduceSub, Int.reduceNeg, Int.reduceMul, Bool.and_self] | split)
  rintro e G ⟨h0, h1, h4, rfl⟩
  refine rk_cut (fun e G => e 0 = str a ∧ e 1 = str b ∧ e 4 = .ptr H.length 0 0 ∧ e 5 = int 0 ∧ G = H ++ [.box [int 0, int 0, str []]]) ?_ ?_
  · repeat' (first | (refine And.intro (by omega) ?_) | simp -implicitDefEqProofs (disch := omega) only [dT_lt, dF_lt, dT_le, dF_le, dT_eq, dF_eq, push_cast, ↓reduceIte, Nat.reduceEqDiff, reduceCtorEq, Nat.reduceAdd, Nat.reduceSub, Nat.reduceMul, Nat.reduceLeDiff, Nat.reduceLT, Nat.reduceMod, Nat.reduceDiv, Int.reduceToNat, Int.reduceLT, Int.reduceLE, Int.reduceEq, Int.reduceAdd, Int.reduceSub, Int.reduceNeg, Int.reduceMul, Bool.and_self] | split)
    first | assumption | exact intc rfl (by omega)
  rintro e G ⟨h0, h1, h4, h5, rfl⟩
  refine rk_cut (fun e G => e 0 = str a ∧ e 1 = str b ∧ e 4 = .ptr H.length 0 0 ∧ e 5 = int (preF a b) ∧ G = H ++ [.box [int 0, int 0, str []]]) ?_ ?_
  · repeat' (first | (refine And.intro (by omega) ?_) | simp -implicitDefEqProofs (disch := omega) only [dT_lt, dF_lt, dT_le, dF_le, dT_eq, dF_eq, push_cast, ↓reduceIte, Nat.reduceEqDiff, reduceCtorEq, Nat.reduceAdd, Nat.reduceSub, Nat.reduceMul, Nat.reduceLeDiff, Nat.reduceLT, Nat.reduceMod, Nat.reduceDiv, Int.reduceToNat, Int.reduceLT, Int.reduceLE, Int.reduceEq, Int.reduceAdd, Int.reduceSub, Int.reduceNeg, Int.reduceMul, Bool.and_self] | split)
    refine rk_loopS (fun (j : Nat) e' G => e' 0 = str a ∧ e' 1 = str b ∧ e' 4 = .ptr H.length 0 0 ∧ e' 5 = int j ∧ G = H ++ [.box [int 0, int 0, str []]] ∧ j ≤ a.length ∧ j ≤ b.length ∧ preF (a.drop j) (b.drop j) + j = preF a b) (fun j => a.length - j) 0 ?_ ?_
    · exact ⟨h0, h1, h4, h5, rfl, Nat.zero_le _, Nat.zero_le _, rfl⟩
    rintro j e' G ⟨h0, h1, h4, h5, rfl, hja, hjb, hp⟩
    by_cases c1 : j < a.length
    · by_cases c2 : j < b.length
      · rw [preF_step c1 c2] at hp
        by_cases c3 : a.getD j 0 = b.getD j 0
        · have c3n := u8_eq.1 c3
          rw [if_pos c3] at hp
          repeat' (first | (refine And.intro (by omega) ?_) | simp -implicitDefEqProofs (disch := omega) only [h0, h1, h4, h5, dT_lt, dF_lt, dT_le, dF_le, dT_eq, dF_eq, push_cast, ↓reduceIte, Nat.reduceEqDiff, reduceCtorEq, Nat.reduceAdd, Nat.reduceSub, Nat.reduceMul, Nat.reduceLeDiff, Nat.reduceLT, Nat.reduceMod, Nat.reduceDiv, Int.reduceToNat, Int.reduceLT, Int.reduceLE, Int.reduceEq, Int.reduceAdd, Int.reduceSub, Int.reduceNeg, Int.reduceMul, Bool.and_self] | split)
          exact .mk (j + 1) ⟨h0, h1, h4, rfl, rfl, c1, c2, by omega⟩ (by omega)
        · have c3n : ¬ (a.getD j 0).toNat = (b.getD j 0).toNat := fun h => c3 (u8_eq.2 h)
          rw [if_neg c3] at hp
          repeat' (first | (refine And.intro (by omega) ?_) | simp -implicitDefEqProofs (disch := omega) only [h0, h1, h4, h5, dT_lt, dF_lt, dT_le, dF_le, dT_eq, dF_eq, push_cast, ↓reduceIte, Nat.reduceEqDiff, reduceCtorEq, Nat.reduceAdd, Nat.reduceSub, Nat.reduceMul, Nat.reduceLeDiff, Nat.reduceLT, Nat.reduceMod, Nat.reduceDiv, Int.reduceToNat, Int.reduceLT, Int.reduceLE, Int.reduceEq, Int.reduceAdd, Int.reduceSub, Int.reduceNeg, Int.reduceMul, Bool.and_self] | split)
          first | assumption | exact intc rfl (by omega)
      · rw [preF_end (by omega)] at hp
        repeat' (first | (refine And.intro (by omega) ?_) | simp -implicitDefEqProofs (disch := omega) only [h0, h1, h4, h5, dT_lt, dF_lt, dT_le, dF_le, dT_eq, dF_eq, push_cast, ↓reduceIte, Nat.reduceEqDiff, reduceCtorEq, Nat.reduceAdd, Nat.reduceSub, Nat.reduceMul, Nat.reduceLeDiff, Nat.reduceLT, Nat.reduceMod, Nat.reduceDiv, Int.reduceToNat, Int.reduceLT, Int.reduceLE, Int.reduceEq, Int.reduceAdd, Int.reduceSub, Int.reduceNeg, Int.reduceMul, Bool.and_self] | split)
        first | assumption | exact intc rfl (by omega)
    · rw [preF_end (by omega)] at hp
      repeat' (first | (refine And.intro (by omega) ?_) | simp -implicitDefEqProofs (disch := omega) only [h0, h1, h4, h5, dT_lt, dF_lt, dT_le, dF_le, dT_eq, dF_eq, push_cast, ↓reduceIte, Nat.reduceEqDiff, reduceCtorEq, Nat.reduceAdd, Nat.reduceSub, Nat.reduceMul, Nat.reduceLeDiff, Nat.reduceLT, Nat.reduceMod, Nat.reduceDiv, Int.reduceToNat, Int.reduceLT, Int.reduceLE, Int.reduceEq, Int.reduceAdd, Int.reduceSub, Int.reduceNeg, Int.reduceMul, Bool.and_self] | split)
      first | assumption | exact intc rfl (by omega)
  clear h0 h1 h4 h5 e
  rintro e G ⟨h0, h1, h4, h5, rfl⟩
  generalize preF a b = j at *
  refine rk_cut (fun e G => e 0 = str a ∧ e 1 = str b ∧ e 4 = .ptr H.length 0 0 ∧ e 5 = int j ∧ e 6 = int 0 ∧ G = H ++ [.box [int 0, int 0, str []]]) ?_ ?_
  · repeat' (first | (refine And.intro (by omega) ?_) | simp -implicitDefEqProofs (disch := omega) only [dT_lt, dF_lt, dT_le, dF_le, dT_eq, dF_eq, push_cast, ↓reduceIte, Nat.reduceEqDiff, reduceCtorEq, Nat.reduceAdd, Nat.reduceSub, Nat.reduceMul, Nat.reduceLeDiff, Nat.reduceLT, Nat.reduceMod, Nat.reduceDiv, Int.reduceToNat, Int.reduceLT, Int.reduceLE, Int.reduceEq, Int.reduceAdd, Int.reduceSub, Int.reduceNeg, Int.reduceMul, Bool.and_self] | split)
    first | assumption | exact intc rfl (by omega)
  clear h0 h1 h4 h5 e
  rintro e G ⟨h0, h1, h4, h5, h6, rfl⟩
  refine rk_cut (fun e G => e 0 = str a ∧ e 1 = str b ∧ e 4 = .ptr H.length 0 0 ∧ e 5 = int j ∧ e 6 = int (sufF a b) ∧ G = H ++ [.box [int 0, int 0, str []]]) ?_ ?_
  · repeat' (first | (refine And.intro (by omega) ?_) | simp -implicitDefEqProofs (disch := omega) only [dT_lt, dF_lt, dT_le, dF_le, dT_eq, dF_eq, push_cast, ↓reduceIte, Nat.reduceEqDiff, reduceCtorEq, Nat.reduceAdd, Nat.reduceSub, Nat.reduceMul, Nat.reduceLeDiff, Nat.reduceLT, Nat.reduceMod, Nat.reduceDiv, Int.reduceToNat, Int.reduceLT, Int.reduceLE, Int.reduceEq, Int.reduceAdd, Int.reduceSub, Int.reduceNeg, Int.reduceMul, Bool.and_self] | split)
    refine rk_loopS (fun (k : Nat) e' G => e' 0 = str a ∧ e' 1 = str b ∧ e' 4 = .ptr H.length 0 0 ∧ e' 5 = int j ∧ e' 6 = int k ∧ G = H ++ [.box [int 0, int 0, str []]] ∧ k + j ≤ a.length ∧ k + j ≤ b.length ∧ preF ((a.drop j).reverse.drop k) ((b.drop j).reverse.drop k) + k = sufF a b) (fun k => a.length - k) 0 ?_ ?_
    · exact ⟨h0, h1, h4, h5, h6, rfl, by omega, by omega, hsuf.symm⟩
    rintro k e' G ⟨h0, h1, h4, h5, h6, rfl, hka, hkb, hp⟩
    have la : (a.drop j).reverse.length = a.length - j := by simp
    have lb : (b.drop j).reverse.length = b.length - j := by simp
    by_cases d1 : k < a.length - j
    · by_cases d2 : k < b.length - j
      · rw [preF_step (by omega) (by omega), rev_getD d1, rev_getD d2] at hp
        have ea : ((a.length : Int) - 1 - k).toNat = a.length - 1 - k := by omega
        have eb : ((b.length : Int) - 1 - k).toNat = b.length - 1 - k := by omega
        by_cases d3 : a.getD (a.length - 1 - k) 0 = b.getD (b.length - 1 - k) 0
        · have d3n := u8_eq.1 d3
          rw [if_pos d3] at hp
          repeat' (first | (with_reducible refine And.intro ?_ ?_; focus omega) | simp -implicitDefEqProofs (disch := omega) only [h0, h1, h4, h5, h6, ea, eb, dT_lt, dF_lt, dT_le, dF_le, dT_eq, dF_eq, push_cast, ↓reduceIte, Nat.reduceEqDiff, reduceCtorEq, Nat.reduceAdd, Nat.reduceSub, Nat.reduceMul, Nat.reduceLeDiff, Nat.reduceLT, Nat.reduceMod, Nat.reduceDiv, Int.reduceToNat, Int.reduceLT, Int.reduceLE, Int.reduceEq, Int.reduceAdd, Int.reduceSub, Int.reduceNeg, Int.reduceMul, Bool.and_self] | split)
          exact .mk (k + 1) ⟨h0, h1, h4, h5, rfl, rfl, by omega, by omega, by omega⟩ (by omega)
        · have d3n : ¬ (a.getD (a.length - 1 - k) 0).toNat = (b.getD (b.length - 1 - k) 0).toNat := fun h => d3 (u8_eq.2 h)
          rw [if_neg d3, Nat.zero_add] at hp
          repeat' (first | (with_reducible refine And.intro ?_ ?_; focus omega) | simp -implicitDefEqProofs (disch := omega) only [h0, h1, h4, h5, h6, ea, eb, dT_lt, dF_lt, dT_le, dF_le, dT_eq, dF_eq, push_cast, ↓reduceIte, Nat.reduceEqDiff, reduceCtorEq, Nat.reduceAdd, Nat.reduceSub, Nat.reduceMul, Nat.reduceLeDiff, Nat.reduceLT, Nat.reduceMod, Nat.reduceDiv, Int.reduceToNat, Int.reduceLT, Int.reduceLE, Int.reduceEq, Int.reduceAdd, Int.reduceSub, Int.reduceNeg, Int.reduceMul, Bool.and_self] | split)
          first | assumption | exact intc rfl (by omega)
      · rw [preF_end (by omega), Nat.zero_add] at hp
        repeat' (first | (with_reducible refine And.intro ?_ ?_; focus omega) | simp -implicitDefEqProofs (disch := omega) only [h0, h1, h4, h5, h6, dT_lt, dF_lt, dT_le, dF_le, dT_eq, dF_eq, push_cast, ↓reduceIte, Nat.reduceEqDiff, reduceCtorEq, Nat.reduceAdd, Nat.reduceSub, Nat.reduceMul, Nat.reduceLeDiff, Nat.reduceLT, Nat.reduceMod, Nat.reduceDiv, Int.reduceToNat, Int.reduceLT, Int.reduceLE, Int.reduceEq, Int.reduceAdd, Int.reduceSub, Int.reduceNeg, Int.reduceMul, Bool.and_self] | split)
        first | assumption | exact intc rfl (by omega)
    · rw [preF_end (by omega), Nat.zero_add] at hp
      repeat' (first | (with_reducible refine And.intro ?_ ?_; focus omega) | simp -implicitDefEqProofs (disch := omega) only [h0, h1, h4, h5, h6, dT_lt, dF_lt, dT_le, dF_le, dT_eq, dF_eq, push_cast, ↓reduceIte, Nat.reduceEqDiff, reduceCtorEq, Nat.reduceAdd, Nat.reduceSub, Nat.reduceMul, Nat.reduceLeDiff, Nat.reduceLT, Nat.reduceMod, Nat.reduceDiv, Int.reduceToNat, Int.reduceLT, Int.reduceLE, Int.reduceEq, Int.reduceAdd, Int.reduceSub, Int.reduceNeg, Int.reduceMul, Bool.and_self] | split)
      first | assumption | exact intc rfl (by omega)
  clear h0 h1 h4 h5 h6 e
  rintro e G ⟨h0, h1, h4, h5, h6, rfl⟩
  have hgg : ∀ x : HO, (H ++ [x])[H.length]? = some x := fun x => by simp
  have eb : ((b.length : Int) - (sufF a b : Int)).toNat = b.length - sufF a b := by omega
  repeat' (first | (refine And.intro (by omega) ?_) | simp -implicitDefEqProofs (disch := omega) only [h0, h1, h4, h5, h6, L10, hag, splice, hgg, eb, dT_lt, dF_lt, dT_le, dF_le, dT_eq, dF_eq, push_cast, ↓reduceIte, Nat.reduceEqDiff, reduceCtorEq, Nat.reduceAdd, Nat.reduceSub, Nat.reduceMul, Nat.reduceLeDiff, Nat.reduceLT, Nat.reduceMod, Nat.reduceDiv, Int.reduceToNat, Int.reduceLT, Int.reduceLE, Int.reduceEq, Int.reduceAdd, Int.reduceSub, Int.reduceNeg, Int.reduceMul, Bool.and_self] | split)
  rw [List.drop_take]
  exact ⟨rfl, _, rfl⟩
#print axioms difT
theorem difR (a b : List UInt8) (ha : a.length ≤ 100000) (hb : b.length ≤ 100000) (H : AHeap) : Comp' 12 [str a, str b] H (.agg (reR (difF a b))) := by
  refine ACall.drop (R := fun x => x = .agg (reR (difF a b))) ?_
  refine enter Try.func12 L12_ok (Nat.le_of_ble_eq_true rfl) ?_
  have hpl := sufF_le a b
  have hfin : reR (difF a b) = [int (preF a b), int ((a.length : Int) - sufF a b), str ((b.take (b.length - sufF a b)).drop (preF a b))] := rfl
  have hsuf : sufF a b = preF (a.drop (preF a b)).reverse (b.drop (preF a b)).reverse := rfl
  have hag : (H ++ [HO.box [int 0, int 0, str []]])[H.length]? = some (.box [int 0, int 0, str []]) := by simp
  rw [hfin]
  clear hfin
  refine rk_cut (fun e G => e 0 = str a ∧ e 1 = str b ∧ e 4 = .ptr H.length 0 0 ∧ G = H ++ [.box [int 0, int 0, str []]]) ?_ ?_
  · repeat' (first | (refine And.intro (by omega) ?_) | simp -implicitDefEqProofs (disch := omega) only [dT_lt, dF_lt, dT_le, dF_le, dT_eq, dF_eq, push_cast, ↓reduceIte, Nat.reduceEqDiff, reduceCtorEq, Nat.reduceAdd, Nat.reduceSub, Nat.reduceMul, Nat.reduceLeDiff, Nat.reduceLT, Nat.reduceMod, Nat.reduceDiv, Int.reduceToNat, Int.reduceLT, Int.reduceLE, Int.reduceEq, Int.reduceAdd, Int.reduceSub, Int.reduceNeg, Int.reduceMul, Bool.and_self] | split)
  rintro e G ⟨h0, h1, h4, rfl⟩
  refine rk_cut (fun e G => e 0 = str a ∧ e 1 = str b ∧ e 4 = .ptr H.length 0 0 ∧ e 5 = int 0 ∧ G = H ++ [.box [int 0, int 0, str []]]) ?_ ?_
  · repeat' (first | (refine And.intro (by omega) ?_) | simp -implicitDefEqProofs (disch := omega) only [dT_lt, dF_lt, dT_le, dF_le, dT_eq, dF_eq, push_cast, ↓reduceIte, Nat.reduceEqDiff, reduceCtorEq, Nat.reduceAdd, Nat.reduceSub, Nat.reduceMul, Nat.reduceLeDiff, Nat.reduceLT, Nat.reduceMod, Nat.reduceDiv, Int.reduceToNat, Int.reduceLT, Int.reduceLE, Int.reduceEq, Int.reduceAdd, Int.reduceSub, Int.reduceNeg, Int.reduceMul, Bool.and_self] | split)
    first | assumption | exact intc rfl (by omega)
  rintro e G ⟨h0, h1, h4, h5, rfl⟩
  refine rk_cut (fun e G => e 0 = str a ∧ e 1 = str b ∧ e 4 = .ptr H.length 0 0 ∧ e 5 = int (preF a b) ∧ G = H ++ [.box [int 0, int 0, str []]]) ?_ ?_
  · repeat' (first | (refine And.intro (by omega) ?_) | simp -implicitDefEqProofs (disch := omega) only [dT_lt, dF_lt, dT_le, dF_le, dT_eq, dF_eq, push_cast, ↓reduceIte, Nat.reduceEqDiff, reduceCtorEq, Nat.reduceAdd, Nat.reduceSub, Nat.reduceMul, Nat.reduceLeDiff, Nat.reduceLT, Nat.reduceMod, Nat.reduceDiv, Int.reduceToNat, Int.reduceLT, Int.reduceLE, Int.reduceEq, Int.reduceAdd, Int.reduceSub, Int.reduceNeg, Int.reduceMul, Bool.and_self] | split)
    refine rk_loopS (fun (j : Nat) e' G => e' 0 = str a ∧ e' 1 = str b ∧ e' 4 = .ptr H.length 0 0 ∧ e' 5 = int j ∧ G = H ++ [.box [int 0, int 0, str []]] ∧ j ≤ a.length ∧ j ≤ b.length ∧ preF (a.drop j) (b.drop j) + j = preF a b) (fun j => a.length - j) 0 ?_ ?_
    · exact ⟨h0, h1, h4, h5, rfl, Nat.zero_le _, Nat.zero_le _, rfl⟩
    rintro j e' G ⟨h0, h1, h4, h5, rfl, hja, hjb, hp⟩
    by_cases c1 : j < a.length
    · by_cases c2 : j < b.length
      · rw [preF_step c1 c2] at hp
        by_cases c3 : a.getD j 0 = b.getD j 0
        · have c3n := u8_eq.1 c3
          rw [if_pos c3] at hp
          repeat' (first | (refine And.intro (by omega) ?_) | simp -implicitDefEqProofs (disch := omega) only [h0, h1, h4, h5, dT_lt, dF_lt, dT_le, dF_le, dT_eq, dF_eq, push_cast, ↓reduceIte, Nat.reduceEqDiff, reduceCtorEq, Nat.reduceAdd, Nat.reduceSub, Nat.reduceMul, Nat.reduceLeDiff, Nat.reduceLT, Nat.reduceMod, Nat.reduceDiv, Int.reduceToNat, Int.reduceLT, Int.reduceLE, Int.reduceEq, Int.reduceAdd, Int.reduceSub, Int.reduceNeg, Int.reduceMul, Bool.and_self] | split)
          exact .mk (j + 1) ⟨h0, h1, h4, rfl, rfl, c1, c2, by omega⟩ (by omega)
        · have c3n : ¬ (a.getD j 0).toNat = (b.getD j 0).toNat := fun h => c3 (u8_eq.2 h)
          rw [if_neg c3] at hp
          repeat' (first | (refine And.intro (by omega) ?_) | simp -implicitDefEqProofs (disch := omega) only [h0, h1, h4, h5, dT_lt, dF_lt, dT_le, dF_le, dT_eq, dF_eq, push_cast, ↓reduceIte, Nat.reduceEqDiff, reduceCtorEq, Nat.reduceAdd, Nat.reduceSub, Nat.reduceMul, Nat.reduceLeDiff, Nat.reduceLT, Nat.reduceMod, Nat.reduceDiv, Int.reduceToNat, Int.reduceLT, Int.reduceLE, Int.reduceEq, Int.reduceAdd, Int.reduceSub, Int.reduceNeg, Int.reduceMul, Bool.and_self] | split)
          first | assumption | exact intc rfl (by omega)
      · rw [preF_end (by omega)] at hp
        repeat' (first | (refine And.intro (by omega) ?_) | simp -implicitDefEqProofs (disch := omega) only [h0, h1, h4, h5, dT_lt, dF_lt, dT_le, dF_le, dT_eq, dF_eq, push_cast, ↓reduceIte, Nat.reduceEqDiff, reduceCtorEq, Nat.reduceAdd, Nat.reduceSub, Nat.reduceMul, Nat.reduceLeDiff, Nat.reduceLT, Nat.reduceMod, Nat.reduceDiv, Int.reduceToNat, Int.reduceLT, Int.reduceLE, Int.reduceEq, Int.reduceAdd, Int.reduceSub, Int.reduceNeg, Int.reduceMul, Bool.and_self] | split)
        first | assumption | exact intc rfl (by omega)
    · rw [preF_end (by omega)] at hp
      repeat' (first | (refine And.intro (by omega) ?_) | simp -implicitDefEqProofs (disch := omega) only [h0, h1, h4, h5, dT_lt, dF_lt, dT_le, dF_le, dT_eq, dF_eq, push_cast, ↓reduceIte, Nat.reduceEqDiff, reduceCtorEq, Nat.reduceAdd, Nat.reduceSub, Nat.reduceMul, Nat.reduceLeDiff, Nat.reduceLT, Nat.reduceMod, Nat.reduceDiv, Int.reduceToNat, Int.reduceLT, Int.reduceLE, Int.reduceEq, Int.reduceAdd, Int.reduceSub, Int.reduceNeg, Int.reduceMul, Bool.and_self] | split)
      first | assumption | exact intc rfl (by omega)
  clear h0 h1 h4 h5 e
  rintro e G ⟨h0, h1, h4, h5, rfl⟩
  generalize preF a b = j at *
  refine rk_cut (fun e G => e 0 = str a ∧ e 1 = str b ∧ e 4 = .ptr H.length 0 0 ∧ e 5 = int j ∧ e 6 = int 0 ∧ G = H ++ [.box [int 0, int 0, str []]]) ?_ ?_
  · repeat' (first | (refine And.intro (by omega) ?_) | simp -implicitDefEqProofs (disch := omega) only [dT_lt, dF_lt, dT_le, dF_le, dT_eq, dF_eq, push_cast, ↓reduceIte, Nat.reduceEqDiff, reduceCtorEq, Nat.reduceAdd, Nat.reduceSub, Nat.reduceMul, Nat.reduceLeDiff, Nat.reduceLT, Nat.reduceMod, Nat.reduceDiv, Int.reduceToNat, Int.reduceLT, Int.reduceLE, Int.reduceEq, Int.reduceAdd, Int.reduceSub, Int.reduceNeg, Int.reduceMul, Bool.and_self] | split)
    first | assumption | exact intc rfl (by omega)
  clear h0 h1 h4 h5 e
  rintro e G ⟨h0, h1, h4, h5, h6, rfl⟩
  refine rk_cut (fun e G => e 0 = str a ∧ e 1 = str b ∧ e 4 = .ptr H.length 0 0 ∧ e 5 = int j ∧ e 6 = int (sufF a b) ∧ G = H ++ [.box [int 0, int 0, str []]]) ?_ ?_
  · repeat' (first | (refine And.intro (by omega) ?_) | simp -implicitDefEqProofs (disch := omega) only [dT_lt, dF_lt, dT_le, dF_le, dT_eq, dF_eq, push_cast, ↓reduceIte, Nat.reduceEqDiff, reduceCtorEq, Nat.reduceAdd, Nat.reduceSub, Nat.reduceMul, Nat.reduceLeDiff, Nat.reduceLT, Nat.reduceMod, Nat.reduceDiv, Int.reduceToNat, Int.reduceLT, Int.reduceLE, Int.reduceEq, Int.reduceAdd, Int.reduceSub, Int.reduceNeg, Int.reduceMul, Bool.and_self] | split)
    refine rk_loopS (fun (k : Nat) e' G => e' 0 = str a ∧ e' 1 = str b ∧ e' 4 = .ptr H.length 0 0 ∧ e' 5 = int j ∧ e' 6 = int k ∧ G = H ++ [.box [int 0, int 0, str []]] ∧ k + j ≤ a.length ∧ k + j ≤ b.length ∧ preF ((a.drop j).reverse.drop k) ((b.drop j).reverse.drop k) + k = sufF a b) (fun k => a.length - k) 0 ?_ ?_
    · exact ⟨h0, h1, h4, h5, h6, rfl, by omega, by omega, hsuf.symm⟩
    rintro k e' G ⟨h0, h1, h4, h5, h6, rfl, hka, hkb, hp⟩
    have la : (a.drop j).reverse.length = a.length - j := by simp
    have lb : (b.drop j).reverse.length = b.length - j := by simp
    by_cases d1 : k < a.length - j
    · by_cases d2 : k < b.length - j
      · rw [preF_step (by omega) (by omega), rev_getD d1, rev_getD d2] at hp
        have ea : ((a.length : Int) - 1 - k).toNat = a.length - 1 - k := by omega
        have eb : ((b.length : Int) - 1 - k).toNat = b.length - 1 - k := by omega
        by_cases d3 : a.getD (a.length - 1 - k) 0 = b.getD (b.length - 1 - k) 0
        · have d3n := u8_eq.1 d3
          rw [if_pos d3] at hp
          repeat' (first | (with_reducible refine And.intro ?_ ?_; focus omega) | simp -implicitDefEqProofs (disch := omega) only [h0, h1, h4, h5, h6, ea, eb, dT_lt, dF_lt, dT_le, dF_le, dT_eq, dF_eq, push_cast, ↓reduceIte, Nat.reduceEqDiff, reduceCtorEq, Nat.reduceAdd, Nat.reduceSub, Nat.reduceMul, Nat.reduceLeDiff, Nat.reduceLT, Nat.reduceMod, Nat.reduceDiv, Int.reduceToNat, Int.reduceLT, Int.reduceLE, Int.reduceEq, Int.reduceAdd, Int.reduceSub, Int.reduceNeg, Int.reduceMul, Bool.and_self] | split)
          exact .mk (k + 1) ⟨h0, h1, h4, h5, rfl, rfl, by omega, by omega, by omega⟩ (by omega)
        · have d3n : ¬ (a.getD (a.length - 1 - k) 0).toNat = (b.getD (b.length - 1 - k) 0).toNat := fun h => d3 (u8_eq.2 h)
          rw [if_neg d3, Nat.zero_add] at hp
          repeat' (first | (with_reducible refine And.intro ?_ ?_; focus omega) | simp -implicitDefEqProofs (disch := omega) only [h0, h1, h4, h5, h6, ea, eb, dT_lt, dF_lt, dT_le, dF_le, dT_eq, dF_eq, push_cast, ↓reduceIte, Nat.reduceEqDiff, reduceCtorEq, Nat.reduceAdd, Nat.reduceSub, Nat.reduceMul, Nat.reduceLeDiff, Nat.reduceLT, Nat.reduceMod, Nat.reduceDiv, Int.reduceToNat, Int.reduceLT, Int.reduceLE, Int.reduceEq, Int.reduceAdd, Int.reduceSub, Int.reduceNeg, Int.reduceMul, Bool.and_self] | split)
          first | assumption | exact intc rfl (by omega)
      · rw [preF_end (by omega), Nat.zero_add] at hp
        repeat' (first | (with_reducible refine And.intro ?_ ?_; focus omega) | simp -implicitDefEqProofs (disch := omega) only [h0, h1, h4, h5, h6, dT_lt, dF_lt, dT_le, dF_le, dT_eq, dF_eq, push_cast, ↓reduceIte, Nat.reduceEqDiff, reduceCtorEq, Nat.reduceAdd, Nat.reduceSub, Nat.reduceMul, Nat.reduceLeDiff, Nat.reduceLT, Nat.reduceMod, Nat.reduceDiv, Int.reduceToNat, Int.reduceLT, Int.reduceLE, Int.reduceEq, Int.reduceAdd, Int.reduceSub, Int.reduceNeg, Int.reduceMul, Bool.and_self] | split)
        first | assumption | exact intc rfl (by omega)
    · rw [preF_end (by omega), Nat.zero_add] at hp
      repeat' (first | (with_reducible refine And.intro ?_ ?_; focus omega) | simp -implicitDefEqProofs (disch := omega) only [h0, h1, h4, h5, h6, dT_lt, dF_lt, dT_le, dF_le, dT_eq, dF_eq, push_cast, ↓reduceIte, Nat.reduceEqDiff, reduceCtorEq, Nat.reduceAdd, Nat.reduceSub, Nat.reduceMul, Nat.reduceLeDiff, Nat.reduceLT, Nat.reduceMod, Nat.reduceDiv, Int.reduceToNat, Int.reduceLT, Int.reduceLE, Int.reduceEq, Int.reduceAdd, Int.reduceSub, Int.reduceNeg, Int.reduceMul, Bool.and_self] | split)
      first | assumption | exact intc rfl (by omega)
  clear h0 h1 h4 h5 h6 e
  rintro e G ⟨h0, h1, h4, h5, h6, rfl⟩
  have hgg : ∀ x : HO, (H ++ [x])[H.length]? = some x := fun x => by simp
  have eb : ((b.length : Int) - (sufF a b : Int)).toNat = b.length - sufF a b := by omega
  repeat' (first | (refine And.intro (by omega) ?_) | simp -implicitDefEqProofs (disch := omega) only [h0, h1, h4, h5, h6, L12, hag, splice, hgg, eb, dT_lt, dF_lt, dT_le, dF_le, dT_eq, dF_eq, push_cast, ↓reduceIte, Nat.reduceEqDiff, reduceCtorEq, Nat.reduceAdd, Nat.reduceSub, Nat.reduceMul, Nat.reduceLeDiff, Nat.reduceLT, Nat.reduceMod, Nat.reduceDiv, Int.reduceToNat, Int.reduceLT, Int.reduceLE, Int.reduceEq, Int.reduceAdd, Int.reduceSub, Int.reduceNeg, Int.reduceMul, Bool.and_self] | split)
  rw [List.drop_take]
  exact ⟨rfl, _, rfl⟩
#print axioms difR

theorem fewr1 (a b : List UInt8) (hb : b.length ≤ 300) : Fewr [difF a b] := by
  refine ⟨by simp, fun x hx => ?_⟩
  rw [List.mem_singleton] at hx
  subst hx
  simp only [difF, List.length_drop, List.length_take]
  omega
end Go.Proofs.Ytiibbkbcebccnaa

/- Texts: the examples; the law TextTurns. -/
namespace Go.Proofs.Ytiibbkbcebccnaa
open Go Go.Ax Go.RowKit
set_option maxRecDepth 100000
set_option linter.unusedSimpArgs false
set_option linter.unusedVariables false

theorem awakeC (H : AHeap) : Comp' 9 [] H (bool true) := by
  refine enter Try.func9 L9_ok (Nat.le_of_ble_eq_true rfl) ?_
  have c1 := fun H => posT [97, 98, 10, 99, 100] 4 (by decide) H
  rw [show posF [97, 98, 10, 99, 100] 4 = (2, 2) by decide +kernel] at c1
  have fw : Fewr [⟨1, 2, [120, 121]⟩, ⟨3, 3, [122]⟩] := ⟨by decide, by simp⟩
  have c2 := fun H => appT [97, 98, 10, 99, 100] [⟨1, 2, [120, 121]⟩, ⟨3, 3, [122]⟩] (by decide) fw H
  rw [show appF [97, 98, 10, 99, 100] [⟨1, 2, [120, 121]⟩, ⟨3, 3, [122]⟩] = [97, 120, 121, 10, 122, 99, 100] by decide +kernel, show fitsF (([97, 98, 10, 99, 100] : List UInt8).length : Nat) [⟨1, 2, [120, 121]⟩, ⟨3, 3, [122]⟩] = 0 by decide +kernel] at c2
  have c3 := fun H => linesT [97, 98, 10, 99, 100] (by decide) H
  rw [show linG [97, 98, 10, 99, 100] ([97, 98, 10, 99, 100] : List UInt8).length = [0, 3] by decide +kernel] at c3
  have c4 := fun H => intsC [0, 3] [0, 3] (by decide) H
  have c5 := fun H => movT [⟨1, 2, [120, 121]⟩, ⟨3, 3, [122]⟩] 3 fw H
  rw [show movF [⟨1, 2, [120, 121]⟩, ⟨3, 3, [122]⟩] 3 = 5 by decide +kernel] at c5
  have c6 := fun H => difT [97, 98, 99] [97, 88, 99] (by decide) (by decide) H
  rw [show difF [97, 98, 99] [97, 88, 99] = ⟨1, 2, [88]⟩ by rfl] at c6
  simp only [List.map, reR, iR] at c1 c2 c3 c4 c5 c6
  repeat' (first | (refine And.intro (by omega) ?_) | (refine callF_pure (c1 _) ?_) | (refine callF_pure (c2 _) ?_) | (refine callF_pure (c3 _) ?_) | (refine callF_pure (c4 _) ?_) | (refine callF_pure (c5 _) ?_) | (refine callF_pure (c6 _) ?_) | (refine callQF_pure (c1 _) (by first | rfl | simp -implicitDefEqProofs (disch := omega) only [L9, dT_lt, dF_lt, dT_le, dF_le, dT_eq, dF_eq, push_cast, ↓reduceIte, Nat.reduceEqDiff, reduceCtorEq, Nat.reduceAdd, Nat.reduceSub, Nat.reduceMul, Nat.reduceLeDiff, Nat.reduceLT, Nat.reduceMod, Nat.reduceDiv, Int.reduceToNat, Int.reduceLT, Int.reduceLE, Int.reduceEq, Int.reduceAdd, Int.reduceSub, Int.reduceNeg, Int.reduceMul, Bool.and_self]) ?_) | (refine callQF_pure (c2 _) (by first | rfl | simp -implicitDefEqProofs (disch := omega) only [L9, dT_lt, dF_lt, dT_le, dF_le, dT_eq, dF_eq, push_cast, ↓reduceIte, Nat.reduceEqDiff, reduceCtorEq, Nat.reduceAdd, Nat.reduceSub, Nat.reduceMul, Nat.reduceLeDiff, Nat.reduceLT, Nat.reduceMod, Nat.reduceDiv, Int.reduceToNat, Int.reduceLT, Int.reduceLE, Int.reduceEq, Int.reduceAdd, Int.reduceSub, Int.reduceNeg, Int.reduceMul, Bool.and_self]) ?_) | (refine callQF_pure (c3 _) (by first | rfl | simp -implicitDefEqProofs (disch := omega) only [L9, dT_lt, dF_lt, dT_le, dF_le, dT_eq, dF_eq, push_cast, ↓reduceIte, Nat.reduceEqDiff, reduceCtorEq, Nat.reduceAdd, Nat.reduceSub, Nat.reduceMul, Nat.reduceLeDiff, Nat.reduceLT, Nat.reduceMod, Nat.reduceDiv, Int.reduceToNat, Int.reduceLT, Int.reduceLE, Int.reduceEq, Int.reduceAdd, Int.reduceSub, Int.reduceNeg, Int.reduceMul, Bool.and_self]) ?_) | (refine callQF_pure (c4 _) (by first | rfl | simp -implicitDefEqProofs (disch := omega) only [L9, dT_lt, dF_lt, dT_le, dF_le, dT_eq, dF_eq, push_cast, ↓reduceIte, Nat.reduceEqDiff, reduceCtorEq, Nat.reduceAdd, Nat.reduceSub, Nat.reduceMul, Nat.reduceLeDiff, Nat.reduceLT, Nat.reduceMod, Nat.reduceDiv, Int.reduceToNat, Int.reduceLT, Int.reduceLE, Int.reduceEq, Int.reduceAdd, Int.reduceSub, Int.reduceNeg, Int.reduceMul, Bool.and_self]) ?_) | (refine callQF_pure (c5 _) (by first | rfl | simp -implicitDefEqProofs (disch := omega) only [L9, dT_lt, dF_lt, dT_le, dF_le, dT_eq, dF_eq, push_cast, ↓reduceIte, Nat.reduceEqDiff, reduceCtorEq, Nat.reduceAdd, Nat.reduceSub, Nat.reduceMul, Nat.reduceLeDiff, Nat.reduceLT, Nat.reduceMod, Nat.reduceDiv, Int.reduceToNat, Int.reduceLT, Int.reduceLE, Int.reduceEq, Int.reduceAdd, Int.reduceSub, Int.reduceNeg, Int.reduceMul, Bool.and_self]) ?_) | (refine callQF_pure (c6 _) (by first | rfl | simp -implicitDefEqProofs (disch := omega) only [L9, dT_lt, dF_lt, dT_le, dF_le, dT_eq, dF_eq, push_cast, ↓reduceIte, Nat.reduceEqDiff, reduceCtorEq, Nat.reduceAdd, Nat.reduceSub, Nat.reduceMul, Nat.reduceLeDiff, Nat.reduceLT, Nat.reduceMod, Nat.reduceDiv, Int.reduceToNat, Int.reduceLT, Int.reduceLE, Int.reduceEq, Int.reduceAdd, Int.reduceSub, Int.reduceNeg, Int.reduceMul, Bool.and_self]) ?_) | simp -implicitDefEqProofs (disch := omega) only [L9, dT_lt, dF_lt, dT_le, dF_le, dT_eq, dF_eq, push_cast, ↓reduceIte, Nat.reduceEqDiff, reduceCtorEq, Nat.reduceAdd, Nat.reduceSub, Nat.reduceMul, Nat.reduceLeDiff, Nat.reduceLT, Nat.reduceMod, Nat.reduceDiv, Int.reduceToNat, Int.reduceLT, Int.reduceLE, Int.reduceEq, Int.reduceAdd, Int.reduceSub, Int.reduceNeg, Int.reduceMul, Bool.and_self] | split)
  rfl
#print axioms awakeC

theorem textTurns (a b : List UInt8) (H : AHeap) : Comp' 3 [str a, str b] H (bool true) := by
  refine ACall.drop (R := fun x => x = bool true) ?_
  refine enter Try.func3 L3_ok (Nat.le_of_ble_eq_true rfl) ?_
  by_cases ha : a.length ≤ 300
  · by_cases hb : b.length ≤ 300
    · have c1 := fun H => difT a b (by omega) (by omega) H
      have c2 := fun H => difR a b (by omega) (by omega) H
      have c3 := fun H => appT a [difF a b] (by omega) (fewr1 a b hb) H
      have hA : appF a [difF a b] = b := by unfold appF; rw [if_pos (dif_fits a b hb), dif_apply]
      rw [dif_fits a b hb, hA] at c3
      generalize difF a b = d at *
      obtain ⟨x, y, z⟩ := d
      simp only [List.map, reR] at c1 c2 c3
      have hgg : ∀ x : HO, (H ++ [x])[H.length]? = some x := fun x => by simp
      repeat' (first | (refine And.intro (by omega) ?_) | (refine callF_pure (c1 _) ?_) | (refine callF_pure (c2 _) ?_) | (refine callF_pure (c3 _) ?_) | (refine callF_pure (awakeC _) ?_) | (refine callQF_pure (c1 _) (by first | rfl | simp -implicitDefEqProofs (disch := omega) only [L3, splice, hgg, dT_lt, dF_lt, dT_le, dF_le, dT_eq, dF_eq, push_cast, ↓reduceIte, Nat.reduceEqDiff, reduceCtorEq, Nat.reduceAdd, Nat.reduceSub, Nat.reduceMul, Nat.reduceLeDiff, Nat.reduceLT, Nat.reduceMod, Nat.reduceDiv, Int.reduceToNat, Int.reduceLT, Int.reduceLE, Int.reduceEq, Int.reduceAdd, Int.reduceSub, Int.reduceNeg, Int.reduceMul, Bool.and_self]) ?_) | (refine callQF_pure (c2 _) (by first | rfl | simp -implicitDefEqProofs (disch := omega) only [L3, splice, hgg, dT_lt, dF_lt, dT_le, dF_le, dT_eq, dF_eq, push_cast, ↓reduceIte, Nat.reduceEqDiff, reduceCtorEq, Nat.reduceAdd, Nat.reduceSub, Nat.reduceMul, Nat.reduceLeDiff, Nat.reduceLT, Nat.reduceMod, Nat.reduceDiv, Int.reduceToNat, Int.reduceLT, Int.reduceLE, Int.reduceEq, Int.reduceAdd, Int.reduceSub, Int.reduceNeg, Int.reduceMul, Bool.and_self]) ?_) | (refine callQF_pure (c3 _) (by first | rfl | simp -implicitDefEqProofs (disch := omega) only [L3, splice, hgg, dT_lt, dF_lt, dT_le, dF_le, dT_eq, dF_eq, push_cast, ↓reduceIte, Nat.reduceEqDiff, reduceCtorEq, Nat.reduceAdd, Nat.reduceSub, Nat.reduceMul, Nat.reduceLeDiff, Nat.reduceLT, Nat.reduceMod, Nat.reduceDiv, Int.reduceToNat, Int.reduceLT, Int.reduceLE, Int.reduceEq, Int.reduceAdd, Int.reduceSub, Int.reduceNeg, Int.reduceMul, Bool.and_self]) ?_) | (refine callQF_pure (awakeC _) (by first | rfl | simp -implicitDefEqProofs (disch := omega) only [L3, splice, hgg, dT_lt, dF_lt, dT_le, dF_le, dT_eq, dF_eq, push_cast, ↓reduceIte, Nat.reduceEqDiff, reduceCtorEq, Nat.reduceAdd, Nat.reduceSub, Nat.reduceMul, Nat.reduceLeDiff, Nat.reduceLT, Nat.reduceMod, Nat.reduceDiv, Int.reduceToNat, Int.reduceLT, Int.reduceLE, Int.reduceEq, Int.reduceAdd, Int.reduceSub, Int.reduceNeg, Int.reduceMul, Bool.and_self]) ?_) | simp -implicitDefEqProofs (disch := omega) only [L3, splice, hgg, dT_lt, dF_lt, dT_le, dF_le, dT_eq, dF_eq, push_cast, ↓reduceIte, Nat.reduceEqDiff, reduceCtorEq, Nat.reduceAdd, Nat.reduceSub, Nat.reduceMul, Nat.reduceLeDiff, Nat.reduceLT, Nat.reduceMod, Nat.reduceDiv, Int.reduceToNat, Int.reduceLT, Int.reduceLE, Int.reduceEq, Int.reduceAdd, Int.reduceSub, Int.reduceNeg, Int.reduceMul, Bool.and_self] | split)
      all_goals first | exact ⟨_, rfl⟩ | (rename_i h; exact absurd (by simp [kEq]) h)
    · repeat' (first | (refine And.intro (by omega) ?_) | (refine callF_pure (awakeC _) ?_) | (refine callQF_pure (awakeC _) (by first | rfl | simp -implicitDefEqProofs (disch := omega) only [L3, dT_lt, dF_lt, dT_le, dF_le, dT_eq, dF_eq, push_cast, ↓reduceIte, Nat.reduceEqDiff, reduceCtorEq, Nat.reduceAdd, Nat.reduceSub, Nat.reduceMul, Nat.reduceLeDiff, Nat.reduceLT, Nat.reduceMod, Nat.reduceDiv, Int.reduceToNat, Int.reduceLT, Int.reduceLE, Int.reduceEq, Int.reduceAdd, Int.reduceSub, Int.reduceNeg, Int.reduceMul, Bool.and_self]) ?_) | simp -implicitDefEqProofs (disch := omega) only [L3, dT_lt, dF_lt, dT_le, dF_le, dT_eq, dF_eq, push_cast, ↓reduceIte, Nat.reduceEqDiff, reduceCtorEq, Nat.reduceAdd, Nat.reduceSub, Nat.reduceMul, Nat.reduceLeDiff, Nat.reduceLT, Nat.reduceMod, Nat.reduceDiv, Int.reduceToNat, Int.reduceLT, Int.reduceLE, Int.reduceEq, Int.reduceAdd, Int.reduceSub, Int.reduceNeg, Int.reduceMul, Bool.and_self] | split)
      exact ⟨[], by simp⟩
  · repeat' (first | (refine And.intro (by omega) ?_) | (refine callF_pure (awakeC _) ?_) | (refine callQF_pure (awakeC _) (by first | rfl | simp -implicitDefEqProofs (disch := omega) only [L3, dT_lt, dF_lt, dT_le, dF_le, dT_eq, dF_eq, push_cast, ↓reduceIte, Nat.reduceEqDiff, reduceCtorEq, Nat.reduceAdd, Nat.reduceSub, Nat.reduceMul, Nat.reduceLeDiff, Nat.reduceLT, Nat.reduceMod, Nat.reduceDiv, Int.reduceToNat, Int.reduceLT, Int.reduceLE, Int.reduceEq, Int.reduceAdd, Int.reduceSub, Int.reduceNeg, Int.reduceMul, Bool.and_self]) ?_) | simp -implicitDefEqProofs (disch := omega) only [L3, dT_lt, dF_lt, dT_le, dF_le, dT_eq, dF_eq, push_cast, ↓reduceIte, Nat.reduceEqDiff, reduceCtorEq, Nat.reduceAdd, Nat.reduceSub, Nat.reduceMul, Nat.reduceLeDiff, Nat.reduceLT, Nat.reduceMod, Nat.reduceDiv, Int.reduceToNat, Int.reduceLT, Int.reduceLE, Int.reduceEq, Int.reduceAdd, Int.reduceSub, Int.reduceNeg, Int.reduceMul, Bool.and_self] | split)
    exact ⟨[], by simp⟩
#print axioms textTurns
end Go.Proofs.Ytiibbkbcebccnaa

/- Texts: Few; where offsets move, in plain Lean. -/
namespace Go.Proofs.Ytiibbkbcebccnaa
open Go Go.Ax Go.RowKit
set_option maxRecDepth 100000
set_option linter.unusedSimpArgs false
set_option linter.unusedVariables false

def shortF (l : List Re) : Bool := l.all fun x => decide (x.x.length ≤ 60)
def fewF (l : List Re) : Bool := shortF l && decide (l.length ≤ 10)
theorem shortF_snoc {l : List Re} {j : Nat} (h : j < l.length) : shortF (l.take (j + 1)) = (shortF (l.take j) && decide ((l.getD j default).x.length ≤ 60)) := by
  rw [take_snoc h]; simp [shortF]
theorem shortF_false {l : List Re} {j : Nat} (h : j < l.length) (hx : ¬ (l.getD j default).x.length ≤ 60) : shortF l = false := by
  simp only [shortF, List.all_eq_false, decide_eq_true_eq]
  exact ⟨_, getD_mem' h, hx⟩
theorem fewF_Fewr {l : List Re} (h : fewF l = true) : Fewr l ∧ ∀ x ∈ l, x.x.length ≤ 60 := by
  simp only [fewF, shortF, Bool.and_eq_true, decide_eq_true_eq, List.all_eq_true] at h
  exact ⟨⟨h.2, fun x hx => by have := h.1 x hx; omega⟩, h.1⟩
theorem fewC (l : List Re) (hl : l.length ≤ 9223372036854775807) (H : AHeap) : Comp' 13 [.sl 3 (l.map reR)] H (bool (fewF l)) := by
  refine enter Try.func13 L13_ok (Nat.le_of_ble_eq_true rfl) ?_
  repeat' (first | (refine And.intro (by omega) ?_) | simp -implicitDefEqProofs (disch := omega) only [L13, dT_lt, dF_lt, dT_le, dF_le, dT_eq, dF_eq, push_cast, ↓reduceIte, Nat.reduceEqDiff, reduceCtorEq, Nat.reduceAdd, Nat.reduceSub, Nat.reduceMul, Nat.reduceLeDiff, Nat.reduceLT, Nat.reduceMod, Nat.reduceDiv, Int.reduceToNat, Int.reduceLT, Int.reduceLE, Int.reduceEq, Int.reduceAdd, Int.reduceSub, Int.reduceNeg, Int.reduceMul, Bool.and_self] | split)
  refine rk_loopS (fun (j : Nat) e' H' => e' 0 = .sl 3 (l.map reR) ∧ e' 3 = int j ∧ H = H' ∧ j ≤ l.length ∧ shortF (l.take j) = true) (fun j => l.length - j) 0 ?_ ?_
  · exact ⟨rfl, rfl, rfl, Nat.zero_le _, rfl⟩
  rintro j e' H' ⟨h0, h3, rfl, hj, hs⟩
  by_cases hlt : j < l.length
  · by_cases hx : (l.getD j default).x.length ≤ 60
    · repeat' (first | (refine And.intro (by omega) ?_) | simp -implicitDefEqProofs (disch := omega) only [h0, h3, rows_getD, re_len, re_take, re_drop1, re_drop2, re_drop3, re_c1s, re_cl, re_cells, re_agg, dT_lt, dF_lt, dT_le, dF_le, dT_eq, dF_eq, push_cast, ↓reduceIte, Nat.reduceEqDiff, reduceCtorEq, Nat.reduceAdd, Nat.reduceSub, Nat.reduceMul, Nat.reduceLeDiff, Nat.reduceLT, Nat.reduceMod, Nat.reduceDiv, Int.reduceToNat, Int.reduceLT, Int.reduceLE, Int.reduceEq, Int.reduceAdd, Int.reduceSub, Int.reduceNeg, Int.reduceMul, Bool.and_self] | split)
      exact .mk (j + 1) ⟨h0, rfl, rfl, hlt, by rw [shortF_snoc hlt, hs, decide_eq_true hx]; rfl⟩ (by omega)
    · have hF : fewF l = false := by unfold fewF; rw [shortF_false hlt hx]; rfl
      rw [hF]
      repeat' (first | (refine And.intro (by omega) ?_) | simp -implicitDefEqProofs (disch := omega) only [h0, h3, rows_getD, re_len, re_take, re_drop1, re_drop2, re_drop3, re_c1s, re_cl, re_cells, re_agg, dT_lt, dF_lt, dT_le, dF_le, dT_eq, dF_eq, push_cast, ↓reduceIte, Nat.reduceEqDiff, reduceCtorEq, Nat.reduceAdd, Nat.reduceSub, Nat.reduceMul, Nat.reduceLeDiff, Nat.reduceLT, Nat.reduceMod, Nat.reduceDiv, Int.reduceToNat, Int.reduceLT, Int.reduceLE, Int.reduceEq, Int.reduceAdd, Int.reduceSub, Int.reduceNeg, Int.reduceMul, Bool.and_self] | split)
      omega
  · rw [List.take_of_length_le (by omega)] at hs
    by_cases h10 : l.length ≤ 10
    · have hF : fewF l = true := by unfold fewF; rw [hs]; simp [h10]
      rw [hF]
      repeat' (first | (refine And.intro (by omega) ?_) | simp -implicitDefEqProofs (disch := omega) only [h0, h3, dT_lt, dF_lt, dT_le, dF_le, dT_eq, dF_eq, push_cast, ↓reduceIte, Nat.reduceEqDiff, reduceCtorEq, Nat.reduceAdd, Nat.reduceSub, Nat.reduceMul, Nat.reduceLeDiff, Nat.reduceLT, Nat.reduceMod, Nat.reduceDiv, Int.reduceToNat, Int.reduceLT, Int.reduceLE, Int.reduceEq, Int.reduceAdd, Int.reduceSub, Int.reduceNeg, Int.reduceMul, Bool.and_self] | split)
    · have hF : fewF l = false := by unfold fewF; rw [hs]; simp [h10]
      rw [hF]
      repeat' (first | (refine And.intro (by omega) ?_) | simp -implicitDefEqProofs (disch := omega) only [h0, h3, dT_lt, dF_lt, dT_le, dF_le, dT_eq, dF_eq, push_cast, ↓reduceIte, Nat.reduceEqDiff, reduceCtorEq, Nat.reduceAdd, Nat.reduceSub, Nat.reduceMul, Nat.reduceLeDiff, Nat.reduceLT, Nat.reduceMod, Nat.reduceDiv, Int.reduceToNat, Int.reduceLT, Int.reduceLE, Int.reduceEq, Int.reduceAdd, Int.reduceSub, Int.reduceNeg, Int.reduceMul, Bool.and_self] | split)
#print axioms fewC

/-- An offset lies in a span. -/
def insF (i : Int) (l : List Re) : Bool := l.any fun x => decide (x.a ≤ i) && decide (i < x.e)
theorem insF_cons {i : Int} {x : Re} {l : List Re} : insF i (x :: l) = ((decide (x.a ≤ i) && decide (i < x.e)) || insF i l) := rfl
theorem insF_snoc {i : Int} {l : List Re} {j : Nat} (h : j < l.length) : insF i (l.take (j + 1)) = (insF i (l.take j) || (decide ((l.getD j default).a ≤ i) && decide (i < (l.getD j default).e))) := by
  rw [take_snoc h]; simp [insF]
/-- In order, from c on, within n. -/
def Ord (n : Int) : Int → List Re → Prop
  | _, [] => True
  | c, x :: l => c ≤ x.a ∧ x.a ≤ x.e ∧ x.e ≤ n ∧ Ord n x.e l
theorem ord_of_fits {n : Int} : ∀ {l : List Re} {c : Int}, fitsG n c l = 0 → Ord n c l
  | [], _, _ => trivial
  | x :: l, c, h => by
    simp only [fitsG] at h
    split at h
    · omega
    · split at h
      · omega
      · exact ⟨by omega, by omega, by omega, ord_of_fits h⟩
theorem ord_mono {n : Int} {l : List Re} {c d : Int} (h : Ord n c l) (hd : d ≤ c) : Ord n d l := by
  cases l with
  | nil => trivial
  | cons x l => exact ⟨by have := h.1; omega, h.2⟩
theorem ord_ok {n : Int} (hn : n ≤ 16384) : ∀ {l : List Re} {c : Int}, Ord n c l → movOk c l = true
  | [], _, _ => rfl
  | x :: l, c, h => by
    obtain ⟨h1, h2, h3, h4⟩ := h
    simp only [movOk, Bool.and_eq_true, decide_eq_true_eq]
    exact ⟨h1, h2, by omega, ord_ok hn h4⟩
theorem movG_before {n i : Int} : ∀ {l : List Re} {c sh : Int}, Ord n c l → i < c → movG i sh l = i + sh
  | [], _, _, _, _ => rfl
  | x :: l, c, sh, h, hi => by
    obtain ⟨h1, h2, h3, h4⟩ := h
    simp only [movG]
    rw [if_neg (by omega), if_neg (by omega)]
    exact movG_before h4 (by omega)
theorem movG_in {s : List UInt8} {i : Nat} (hi : i < s.length) : ∀ {l : List Re} {c : Nat} {sh : Int}, Ord s.length c l → c ≤ i → insF i l = false → ∃ k : Nat, movG i sh l = sh + c + k ∧ k < (appG s c l).length ∧ (appG s c l).getD k 0 = s.getD i 0
  | [], c, sh, _, hc, _ => ⟨i - c, by simp only [movG]; omega, by simp only [appG, List.length_drop]; omega, by
      simp only [appG, List.getD_eq_getElem?_getD, List.getElem?_drop]
      rw [show c + (i - c) = i by omega]⟩
  | x :: l, c, sh, h, hc, hin => by
    obtain ⟨h1, h2, h3, h4⟩ := h
    rw [insF_cons, Bool.or_eq_false_iff] at hin
    obtain ⟨hx, hin⟩ := hin
    obtain ⟨a, ha⟩ : ∃ a : Nat, x.a = a := ⟨x.a.toNat, by omega⟩
    obtain ⟨e, he⟩ : ∃ e : Nat, x.e = e := ⟨x.e.toNat, by omega⟩
    simp only [movG, appG, ha, he, Int.toNat_natCast] at *
    have hl1 : ((s.take a).drop c).length = a - c := by rw [List.length_drop, List.length_take]; omega
    by_cases hlt : i < a
    · rw [if_neg (by omega), if_neg (by omega), movG_before h4 (by omega)]
      refine ⟨i - c, by omega, by rw [List.length_append]; omega, ?_⟩
      rw [List.getD_eq_getElem?_getD, List.getElem?_append_left (by omega), List.getElem?_drop, List.getElem?_take, show c + (i - c) = i by omega, if_pos hlt, List.getD_eq_getElem?_getD]
    · have hie : e ≤ i := by
        simp only [Bool.and_eq_false_iff, decide_eq_false_iff_not] at hx
        omega
      rw [if_neg (by omega), if_pos (by omega)]
      obtain ⟨k, k1, k2, k3⟩ := movG_in (sh := sh + ((x.x.length : Int) - ((e : Int) - a))) hi h4 hie hin
      refine ⟨(a - c) + (x.x.length + k), by rw [k1]; omega, by simp only [List.length_append]; omega, ?_⟩
      rw [List.getD_eq_getElem?_getD, List.getElem?_append_right (by omega), hl1, Nat.add_sub_cancel_left, List.getElem?_append_right (by omega), Nat.add_sub_cancel_left, ← List.getD_eq_getElem?_getD]
      exact k3
theorem movG_end {s : List UInt8} : ∀ {l : List Re} {c : Nat} {sh : Int}, Ord s.length c l → c ≤ s.length → movG s.length sh l = sh + c + (appG s c l).length
  | [], c, sh, _, hc => by simp only [movG, appG, List.length_drop]; omega
  | x :: l, c, sh, h, hc => by
    obtain ⟨h1, h2, h3, h4⟩ := h
    obtain ⟨a, ha⟩ : ∃ a : Nat, x.a = a := ⟨x.a.toNat, by omega⟩
    obtain ⟨e, he⟩ : ∃ e : Nat, x.e = e := ⟨x.e.toNat, by omega⟩
    simp only [movG, appG, ha, he, Int.toNat_natCast] at *
    rw [if_neg (by omega), if_pos (by omega), movG_end h4 (by omega)]
    simp only [List.length_append, List.length_drop, List.length_take]
    omega
theorem movG_lt {s : List UInt8} {i k : Nat} (hk : k < s.length) (hik : i < k) : ∀ {l : List Re} {c : Nat} {sh : Int}, Ord s.length c l → insF i l = false → insF k l = false → movG i sh l < movG k sh l
  | [], c, sh, _, _, _ => by simp only [movG]; omega
  | x :: l, c, sh, h, h1, h2 => by
    obtain ⟨g1, g2, g3, g4⟩ := h
    rw [insF_cons, Bool.or_eq_false_iff] at h1 h2
    obtain ⟨hx, h1⟩ := h1
    obtain ⟨hy, h2⟩ := h2
    simp only [Bool.and_eq_false_iff, decide_eq_false_iff_not] at hx hy
    obtain ⟨a, ha⟩ : ∃ a : Nat, x.a = a := ⟨x.a.toNat, by omega⟩
    obtain ⟨e, he⟩ : ∃ e : Nat, x.e = e := ⟨x.e.toNat, by omega⟩
    simp only [movG, ha, he] at *
    by_cases c1 : i < a
    · rw [if_neg (by omega), if_neg (by omega), movG_before g4 (by omega)]
      by_cases c2 : k < a
      · rw [if_neg (by omega), if_neg (by omega), movG_before g4 (by omega)]
        omega
      · rw [if_neg (by omega), if_pos (by omega)]
        obtain ⟨m, m1, _, _⟩ := movG_in (sh := sh + ((x.x.length : Int) - ((e : Int) - a))) hk g4 (by omega) h2
        rw [m1]
        omega
    · rw [if_neg (by omega), if_pos (by omega), if_neg (by omega), if_pos (by omega)]
      exact movG_lt hk hik g4 h1 h2
end Go.Proofs.Ytiibbkbcebccnaa

/- Texts: the law TextMoves. -/
namespace Go.Proofs.Ytiibbkbcebccnaa
open Go Go.Ax Go.RowKit
set_option maxRecDepth 100000
set_option linter.unusedSimpArgs false
set_option linter.unusedVariables false

theorem textMoves (s : List UInt8) (l : List Re) (hll : l.length ≤ 9223372036854775807) (H : AHeap) : Comp' 4 [str s, .sl 3 (l.map reR)] H (bool true) := by
  refine ACall.drop (R := fun x => x = bool true) ?_
  refine enter Try.func4 L4_ok (Nat.le_of_ble_eq_true rfl) ?_
  have c0 := fun H => fewC l hll H
  by_cases ha : s.length ≤ 300
  · by_cases hb : fewF l = true
    · rw [hb] at c0
      obtain ⟨hfw, hsh⟩ := fewF_Fewr hb
      have c1 := fun H => appT s l (by omega) hfw H
      by_cases hf : fitsF s.length l = 0
      · have z0 : fitsG s.length 0 l = 0 := by
          unfold fitsF at hf
          split at hf <;> omega
        have hO := ord_of_fits z0
        have hok := ord_ok (by omega) hO
        have hA : appF s l = appG s 0 l := by unfold appF; rw [if_pos hf]
        have hm : ∀ t : Int, 0 ≤ t → t ≤ 300 → movF l t = movG t 0 l := fun t h0 h1 => by unfold movF; rw [if_neg (by omega), if_pos hok]
        have hend := movG_end (sh := 0) hO (Nat.zero_le _)
        rw [hf, hA] at c1
        have c2 := fun t H => movT l t hfw H
        have hin : ∀ i : Nat, i < s.length → insF i l = false → ∃ k : Nat, movF l i = k ∧ k < (appG s 0 l).length ∧ (appG s 0 l).getD k 0 = s.getD i 0 := fun i hi h => by
          obtain ⟨k, k1, k2, k3⟩ := movG_in (sh := 0) hi hO (Nat.zero_le _) h
          exact ⟨k, by rw [hm i (by omega) (by omega), k1]; simp, k2, k3⟩
        have hinc : ∀ i k : Nat, i < k → k < s.length → insF i l = false → insF k l = false → movF l i < movF l k := fun i k h h1 h2 h3 => by
          rw [hm i (by omega) (by omega), hm k (by omega) (by omega)]
          exact movG_lt h1 h hO h2 h3
        have hE : movF l s.length = ((appG s 0 l).length : Nat) := by rw [hm _ (by omega) (by omega), hend]; simp
        obtain ⟨hl1, hl2⟩ := hfw
        generalize appG s 0 l = t at *
        repeat' (first | (refine And.intro (by omega) ?_) | (refine callF_pure (c0 _) ?_) | (refine callF_pure (c1 _) ?_) | (refine callQF_pure (c0 _) (by first | rfl | simp -implicitDefEqProofs (disch := omega) only [L4, dT_lt, dF_lt, dT_le, dF_le, dT_eq, dF_eq, push_cast, ↓reduceIte, Nat.reduceEqDiff, reduceCtorEq, Nat.reduceAdd, Nat.reduceSub, Nat.reduceMul, Nat.reduceLeDiff, Nat.reduceLT, Nat.reduceMod, Nat.reduceDiv, Int.reduceToNat, Int.reduceLT, Int.reduceLE, Int.reduceEq, Int.reduceAdd, Int.reduceSub, Int.reduceNeg, Int.reduceMul, Bool.and_self]) ?_) | (refine callQF_pure (c1 _) (by first | rfl | simp -implicitDefEqProofs (disch := omega) only [L4, dT_lt, dF_lt, dT_le, dF_le, dT_eq, dF_eq, push_cast, ↓reduceIte, Nat.reduceEqDiff, reduceCtorEq, Nat.reduceAdd, Nat.reduceSub, Nat.reduceMul, Nat.reduceLeDiff, Nat.reduceLT, Nat.reduceMod, Nat.reduceDiv, Int.reduceToNat, Int.reduceLT, Int.reduceLE, Int.reduceEq, Int.reduceAdd, Int.reduceSub, Int.reduceNeg, Int.reduceMul, Bool.and_self]) ?_) | simp -implicitDefEqProofs (disch := omega) only [L4, dT_lt, dF_lt, dT_le, dF_le, dT_eq, dF_eq, push_cast, ↓reduceIte, Nat.reduceEqDiff, reduceCtorEq, Nat.reduceAdd, Nat.reduceSub, Nat.reduceMul, Nat.reduceLeDiff, Nat.reduceLT, Nat.reduceMod, Nat.reduceDiv, Int.reduceToNat, Int.reduceLT, Int.reduceLE, Int.reduceEq, Int.reduceAdd, Int.reduceSub, Int.reduceNeg, Int.reduceMul, Bool.and_self] | split)
        refine rk_loopS (fun (st : Nat × Int × AHeap) e' H' => e' 0 = str s ∧ e' 1 = .sl 3 (l.map reR) ∧ e' 5 = str t ∧ e' 7 = int st.2.1 ∧ e' 32 = int s.length ∧ e' 33 = int st.1 ∧ H' = H ++ st.2.2 ∧ st.1 ≤ s.length ∧ -1 ≤ st.2.1 ∧ st.2.1 < t.length ∧ ∀ i : Nat, st.1 ≤ i → i < s.length → insF i l = false → st.2.1 < movF l i) (fun st => s.length - st.1) (0, -1, []) ?_ ?_
        · refine ⟨rfl, rfl, rfl, rfl, rfl, rfl, by simp, Nat.zero_le _, by simp, by simp only; omega, fun i _ hi hn => ?_⟩
          obtain ⟨k, k1, _⟩ := hin i hi hn
          rw [k1]
          simp only
          omega
        rintro ⟨i, last, ext⟩ e' H' ⟨h0, h1, h5, h7, h32, h33, rfl, hi, hl0, hlt0, hnx⟩
        simp only at h7 h33 hi hl0 hlt0 hnx
        by_cases hlt : i < s.length
        · repeat' (first | (refine And.intro (by omega) ?_) | simp -implicitDefEqProofs (disch := omega) only [h0, h1, h5, h7, h32, h33, dT_lt, dF_lt, dT_le, dF_le, dT_eq, dF_eq, push_cast, ↓reduceIte, Nat.reduceEqDiff, reduceCtorEq, Nat.reduceAdd, Nat.reduceSub, Nat.reduceMul, Nat.reduceLeDiff, Nat.reduceLT, Nat.reduceMod, Nat.reduceDiv, Int.reduceToNat, Int.reduceLT, Int.reduceLE, Int.reduceEq, Int.reduceAdd, Int.reduceSub, Int.reduceNeg, Int.reduceMul, Bool.and_self] | split)
          refine rk_loopS (fun (st : Nat × AHeap) e' H' => e' 0 = str s ∧ e' 1 = .sl 3 (l.map reR) ∧ e' 5 = str t ∧ e' 7 = int last ∧ e' 32 = int s.length ∧ e' 33 = int i ∧ e' 8 = int i ∧ e' 9 = bool (insF i (l.take st.1)) ∧ e' 36 = .sl 3 (l.map reR) ∧ e' 37 = int l.length ∧ e' 38 = int st.1 ∧ H' = H ++ st.2 ∧ st.1 ≤ l.length) (fun st => l.length - st.1) (0, ext) ?_ ?_
          · exact ⟨h0, h1, h5, h7, h32, h33, rfl, rfl, rfl, rfl, rfl, rfl, Nat.zero_le _⟩
          clear h0 h1 h5 h7 h32 h33 e'
          rintro ⟨j, ext⟩ e' H' ⟨h0, h1, h5, h7, h32, h33, h8, h9, h36, h37, h38, rfl, hj⟩
          simp only at h9 h38 hj
          by_cases hjl : j < l.length
          · have hgg : ∀ x : HO, (H ++ (ext ++ [x]))[H.length + ext.length]? = some x := fun x => by rw [get_add]; simp
            have hss : ∀ x y : HO, (H ++ (ext ++ [x])).set (H.length + ext.length) y = H ++ (ext ++ [y]) := fun x y => by rw [set_add]; simp
            have hsn := insF_snoc (i := i) hjl
            by_cases d0 : insF i (l.take j) = true
            · rw [d0] at h9
              repeat' (first | (refine And.intro (by omega) ?_) | simp -implicitDefEqProofs (disch := omega) only [h0, h1, h5, h7, h32, h33, h8, h9, h36, h37, h38, rows_getD, re_len, re_take, re_drop1, re_drop2, re_drop3, re_c1s, re_cl, re_cells, re_agg, splice, List.append_nil, hgg, hss, dT_lt, dF_lt, dT_le, dF_le, dT_eq, dF_eq, push_cast, ↓reduceIte, Nat.reduceEqDiff, reduceCtorEq, Nat.reduceAdd, Nat.reduceSub, Nat.reduceMul, Nat.reduceLeDiff, Nat.reduceLT, Nat.reduceMod, Nat.reduceDiv, Int.reduceToNat, Int.reduceLT, Int.reduceLE, Int.reduceEq, Int.reduceAdd, Int.reduceSub, Int.reduceNeg, Int.reduceMul, Bool.and_self] | split)
              exact .mk (j + 1, _) ⟨h0, h1, h5, h7, h32, h33, h8, by rw [hsn, d0]; rfl, h36, h37, rfl, rfl, hjl⟩ (by simp only; omega)
            · rw [Bool.not_eq_true] at d0
              rw [d0] at h9
              by_cases d1 : (l.getD j default).a ≤ i
              · by_cases d2 : (i : Int) < (l.getD j default).e
                · repeat' (first | (refine And.intro (by omega) ?_) | simp -implicitDefEqProofs (disch := omega) only [h0, h1, h5, h7, h32, h33, h8, h9, h36, h37, h38, rows_getD, re_len, re_take, re_drop1, re_drop2, re_drop3, re_c1s, re_cl, re_cells, re_agg, splice, List.append_nil, hgg, hss, dT_lt, dF_lt, dT_le, dF_le, dT_eq, dF_eq, push_cast, ↓reduceIte, Nat.reduceEqDiff, reduceCtorEq, Nat.reduceAdd, Nat.reduceSub, Nat.reduceMul, Nat.reduceLeDiff, Nat.reduceLT, Nat.reduceMod, Nat.reduceDiv, Int.reduceToNat, Int.reduceLT, Int.reduceLE, Int.reduceEq, Int.reduceAdd, Int.reduceSub, Int.reduceNeg, Int.reduceMul, Bool.and_self] | split)
                  exact .mk (j + 1, _) ⟨h0, h1, h5, h7, h32, h33, h8, by rw [hsn, d0, decide_eq_true d1, decide_eq_true d2]; rfl, h36, h37, rfl, rfl, hjl⟩ (by simp only; omega)
                · repeat' (first | (refine And.intro (by omega) ?_) | simp -implicitDefEqProofs (disch := omega) only [h0, h1, h5, h7, h32, h33, h8, h9, h36, h37, h38, rows_getD, re_len, re_take, re_drop1, re_drop2, re_drop3, re_c1s, re_cl, re_cells, re_agg, splice, List.append_nil, hgg, hss, dT_lt, dF_lt, dT_le, dF_le, dT_eq, dF_eq, push_cast, ↓reduceIte, Nat.reduceEqDiff, reduceCtorEq, Nat.reduceAdd, Nat.reduceSub, Nat.reduceMul, Nat.reduceLeDiff, Nat.reduceLT, Nat.reduceMod, Nat.reduceDiv, Int.reduceToNat, Int.reduceLT, Int.reduceLE, Int.reduceEq, Int.reduceAdd, Int.reduceSub, Int.reduceNeg, Int.reduceMul, Bool.and_self] | split)
                  exact .mk (j + 1, _) ⟨h0, h1, h5, h7, h32, h33, h8, by rw [hsn, d0, decide_eq_true d1, decide_eq_false d2]; rfl, h36, h37, rfl, rfl, hjl⟩ (by simp only; omega)
              · repeat' (first | (refine And.intro (by omega) ?_) | simp -implicitDefEqProofs (disch := omega) only [h0, h1, h5, h7, h32, h33, h8, h9, h36, h37, h38, rows_getD, re_len, re_take, re_drop1, re_drop2, re_drop3, re_c1s, re_cl, re_cells, re_agg, splice, List.append_nil, hgg, hss, dT_lt, dF_lt, dT_le, dF_le, dT_eq, dF_eq, push_cast, ↓reduceIte, Nat.reduceEqDiff, reduceCtorEq, Nat.reduceAdd, Nat.reduceSub, Nat.reduceMul, Nat.reduceLeDiff, Nat.reduceLT, Nat.reduceMod, Nat.reduceDiv, Int.reduceToNat, Int.reduceLT, Int.reduceLE, Int.reduceEq, Int.reduceAdd, Int.reduceSub, Int.reduceNeg, Int.reduceMul, Bool.and_self] | split)
                exact .mk (j + 1, _) ⟨h0, h1, h5, h7, h32, h33, h8, by rw [hsn, d0, decide_eq_false d1]; rfl, h36, h37, rfl, rfl, hjl⟩ (by simp only; omega)
          · have e : j = l.length := by omega
            subst e
            rw [List.take_length] at h9
            by_cases d0 : insF i l = true
            · rw [d0] at h9
              repeat' (first | (refine And.intro (by omega) ?_) | simp -implicitDefEqProofs (disch := omega) only [h0, h1, h5, h7, h32, h33, h8, h9, h36, h37, h38, dT_lt, dF_lt, dT_le, dF_le, dT_eq, dF_eq, push_cast, ↓reduceIte, Nat.reduceEqDiff, reduceCtorEq, Nat.reduceAdd, Nat.reduceSub, Nat.reduceMul, Nat.reduceLeDiff, Nat.reduceLT, Nat.reduceMod, Nat.reduceDiv, Int.reduceToNat, Int.reduceLT, Int.reduceLE, Int.reduceEq, Int.reduceAdd, Int.reduceSub, Int.reduceNeg, Int.reduceMul, Bool.and_self] | split)
              exact .mk (i + 1, last, ext) ⟨h0, h1, h5, h7, h32, rfl, rfl, hlt, hl0, hlt0, fun k hk => hnx k (by simp only at hk; omega)⟩ (by simp only; omega)
            · rw [Bool.not_eq_true] at d0
              rw [d0] at h9
              obtain ⟨k, k1, k2, k3⟩ := hin i hlt d0
              have c3 := fun H => c2 i H
              rw [k1] at c3
              have k4 := hnx i (Nat.le_refl _) hlt d0
              rw [k1] at k4
              repeat' (first | (refine And.intro (by omega) ?_) | (refine callF_pure (c3 _) ?_) | (refine callQF_pure (c3 _) (by first | rfl | simp -implicitDefEqProofs (disch := omega) only [h0, h1, h5, h7, h32, h33, h8, h9, h36, h37, h38, k3, dT_lt, dF_lt, dT_le, dF_le, dT_eq, dF_eq, push_cast, ↓reduceIte, Nat.reduceEqDiff, reduceCtorEq, Nat.reduceAdd, Nat.reduceSub, Nat.reduceMul, Nat.reduceLeDiff, Nat.reduceLT, Nat.reduceMod, Nat.reduceDiv, Int.reduceToNat, Int.reduceLT, Int.reduceLE, Int.reduceEq, Int.reduceAdd, Int.reduceSub, Int.reduceNeg, Int.reduceMul, Bool.and_self]) ?_) | simp -implicitDefEqProofs (disch := omega) only [h0, h1, h5, h7, h32, h33, h8, h9, h36, h37, h38, k3, dT_lt, dF_lt, dT_le, dF_le, dT_eq, dF_eq, push_cast, ↓reduceIte, Nat.reduceEqDiff, reduceCtorEq, Nat.reduceAdd, Nat.reduceSub, Nat.reduceMul, Nat.reduceLeDiff, Nat.reduceLT, Nat.reduceMod, Nat.reduceDiv, Int.reduceToNat, Int.reduceLT, Int.reduceLE, Int.reduceEq, Int.reduceAdd, Int.reduceSub, Int.reduceNeg, Int.reduceMul, Bool.and_self] | split)
              exact .mk (i + 1, (k : Int), ext) ⟨h0, h1, h5, rfl, h32, rfl, rfl, hlt, by simp only; omega, by simp only; omega, fun m hm1 hm2 hm3 => by simp only at hm1; rw [← k1]; exact hinc i m (by omega) hm2 d0 hm3⟩ (by simp only; omega)
        · have c3 := fun H => c2 s.length H
          rw [hE] at c3
          repeat' (first | (refine And.intro (by omega) ?_) | (refine callF_pure (c3 _) ?_) | (refine callF_pure (awakeC _) ?_) | (refine callQF_pure (c3 _) (by first | rfl | simp -implicitDefEqProofs (disch := omega) only [h0, h1, h5, h7, h32, h33, dT_lt, dF_lt, dT_le, dF_le, dT_eq, dF_eq, push_cast, ↓reduceIte, Nat.reduceEqDiff, reduceCtorEq, Nat.reduceAdd, Nat.reduceSub, Nat.reduceMul, Nat.reduceLeDiff, Nat.reduceLT, Nat.reduceMod, Nat.reduceDiv, Int.reduceToNat, Int.reduceLT, Int.reduceLE, Int.reduceEq, Int.reduceAdd, Int.reduceSub, Int.reduceNeg, Int.reduceMul, Bool.and_self]) ?_) | (refine callQF_pure (awakeC _) (by first | rfl | simp -implicitDefEqProofs (disch := omega) only [h0, h1, h5, h7, h32, h33, dT_lt, dF_lt, dT_le, dF_le, dT_eq, dF_eq, push_cast, ↓reduceIte, Nat.reduceEqDiff, reduceCtorEq, Nat.reduceAdd, Nat.reduceSub, Nat.reduceMul, Nat.reduceLeDiff, Nat.reduceLT, Nat.reduceMod, Nat.reduceDiv, Int.reduceToNat, Int.reduceLT, Int.reduceLE, Int.reduceEq, Int.reduceAdd, Int.reduceSub, Int.reduceNeg, Int.reduceMul, Bool.and_self]) ?_) | simp -implicitDefEqProofs (disch := omega) only [h0, h1, h5, h7, h32, h33, dT_lt, dF_lt, dT_le, dF_le, dT_eq, dF_eq, push_cast, ↓reduceIte, Nat.reduceEqDiff, reduceCtorEq, Nat.reduceAdd, Nat.reduceSub, Nat.reduceMul, Nat.reduceLeDiff, Nat.reduceLT, Nat.reduceMod, Nat.reduceDiv, Int.reduceToNat, Int.reduceLT, Int.reduceLE, Int.reduceEq, Int.reduceAdd, Int.reduceSub, Int.reduceNeg, Int.reduceMul, Bool.and_self] | split)
          exact ⟨_, rfl⟩
      · repeat' (first | (refine And.intro (by omega) ?_) | (refine callF_pure (c0 _) ?_) | (refine callF_pure (c1 _) ?_) | (refine callF_pure (awakeC _) ?_) | (refine callQF_pure (c0 _) (by first | rfl | simp -implicitDefEqProofs (disch := omega) only [L4, dT_lt, dF_lt, dT_le, dF_le, dT_eq, dF_eq, push_cast, ↓reduceIte, Nat.reduceEqDiff, reduceCtorEq, Nat.reduceAdd, Nat.reduceSub, Nat.reduceMul, Nat.reduceLeDiff, Nat.reduceLT, Nat.reduceMod, Nat.reduceDiv, Int.reduceToNat, Int.reduceLT, Int.reduceLE, Int.reduceEq, Int.reduceAdd, Int.reduceSub, Int.reduceNeg, Int.reduceMul, Bool.and_self]) ?_) | (refine callQF_pure (c1 _) (by first | rfl | simp -implicitDefEqProofs (disch := omega) only [L4, dT_lt, dF_lt, dT_le, dF_le, dT_eq, dF_eq, push_cast, ↓reduceIte, Nat.reduceEqDiff, reduceCtorEq, Nat.reduceAdd, Nat.reduceSub, Nat.reduceMul, Nat.reduceLeDiff, Nat.reduceLT, Nat.reduceMod, Nat.reduceDiv, Int.reduceToNat, Int.reduceLT, Int.reduceLE, Int.reduceEq, Int.reduceAdd, Int.reduceSub, Int.reduceNeg, Int.reduceMul, Bool.and_self]) ?_) | (refine callQF_pure (awakeC _) (by first | rfl | simp -implicitDefEqProofs (disch := omega) only [L4, dT_lt, dF_lt, dT_le, dF_le, dT_eq, dF_eq, push_cast, ↓reduceIte, Nat.reduceEqDiff, reduceCtorEq, Nat.reduceAdd, Nat.reduceSub, Nat.reduceMul, Nat.reduceLeDiff, Nat.reduceLT, Nat.reduceMod, Nat.reduceDiv, Int.reduceToNat, Int.reduceLT, Int.reduceLE, Int.reduceEq, Int.reduceAdd, Int.reduceSub, Int.reduceNeg, Int.reduceMul, Bool.and_self]) ?_) | simp -implicitDefEqProofs (disch := omega) only [L4, dT_lt, dF_lt, dT_le, dF_le, dT_eq, dF_eq, push_cast, ↓reduceIte, Nat.reduceEqDiff, reduceCtorEq, Nat.reduceAdd, Nat.reduceSub, Nat.reduceMul, Nat.reduceLeDiff, Nat.reduceLT, Nat.reduceMod, Nat.reduceDiv, Int.reduceToNat, Int.reduceLT, Int.reduceLE, Int.reduceEq, Int.reduceAdd, Int.reduceSub, Int.reduceNeg, Int.reduceMul, Bool.and_self] | split)
        exact ⟨[], by simp⟩
    · rw [Bool.not_eq_true] at hb
      rw [hb] at c0
      repeat' (first | (refine And.intro (by omega) ?_) | (refine callF_pure (c0 _) ?_) | (refine callF_pure (awakeC _) ?_) | (refine callQF_pure (c0 _) (by first | rfl | simp -implicitDefEqProofs (disch := omega) only [L4, dT_lt, dF_lt, dT_le, dF_le, dT_eq, dF_eq, push_cast, ↓reduceIte, Nat.reduceEqDiff, reduceCtorEq, Nat.reduceAdd, Nat.reduceSub, Nat.reduceMul, Nat.reduceLeDiff, Nat.reduceLT, Nat.reduceMod, Nat.reduceDiv, Int.reduceToNat, Int.reduceLT, Int.reduceLE, Int.reduceEq, Int.reduceAdd, Int.reduceSub, Int.reduceNeg, Int.reduceMul, Bool.and_self]) ?_) | (refine callQF_pure (awakeC _) (by first | rfl | simp -implicitDefEqProofs (disch := omega) only [L4, dT_lt, dF_lt, dT_le, dF_le, dT_eq, dF_eq, push_cast, ↓reduceIte, Nat.reduceEqDiff, reduceCtorEq, Nat.reduceAdd, Nat.reduceSub, Nat.reduceMul, Nat.reduceLeDiff, Nat.reduceLT, Nat.reduceMod, Nat.reduceDiv, Int.reduceToNat, Int.reduceLT, Int.reduceLE, Int.reduceEq, Int.reduceAdd, Int.reduceSub, Int.reduceNeg, Int.reduceMul, Bool.and_self]) ?_) | simp -implicitDefEqProofs (disch := omega) only [L4, dT_lt, dF_lt, dT_le, dF_le, dT_eq, dF_eq, push_cast, ↓reduceIte, Nat.reduceEqDiff, reduceCtorEq, Nat.reduceAdd, Nat.reduceSub, Nat.reduceMul, Nat.reduceLeDiff, Nat.reduceLT, Nat.reduceMod, Nat.reduceDiv, Int.reduceToNat, Int.reduceLT, Int.reduceLE, Int.reduceEq, Int.reduceAdd, Int.reduceSub, Int.reduceNeg, Int.reduceMul, Bool.and_self] | split)
      exact ⟨[], by simp⟩
  · repeat' (first | (refine And.intro (by omega) ?_) | (refine callF_pure (awakeC _) ?_) | (refine callQF_pure (awakeC _) (by first | rfl | simp -implicitDefEqProofs (disch := omega) only [L4, dT_lt, dF_lt, dT_le, dF_le, dT_eq, dF_eq, push_cast, ↓reduceIte, Nat.reduceEqDiff, reduceCtorEq, Nat.reduceAdd, Nat.reduceSub, Nat.reduceMul, Nat.reduceLeDiff, Nat.reduceLT, Nat.reduceMod, Nat.reduceDiv, Int.reduceToNat, Int.reduceLT, Int.reduceLE, Int.reduceEq, Int.reduceAdd, Int.reduceSub, Int.reduceNeg, Int.reduceMul, Bool.and_self]) ?_) | simp -implicitDefEqProofs (disch := omega) only [L4, dT_lt, dF_lt, dT_le, dF_le, dT_eq, dF_eq, push_cast, ↓reduceIte, Nat.reduceEqDiff, reduceCtorEq, Nat.reduceAdd, Nat.reduceSub, Nat.reduceMul, Nat.reduceLeDiff, Nat.reduceLT, Nat.reduceMod, Nat.reduceDiv, Int.reduceToNat, Int.reduceLT, Int.reduceLE, Int.reduceEq, Int.reduceAdd, Int.reduceSub, Int.reduceNeg, Int.reduceMul, Bool.and_self] | split)
    exact ⟨[], by simp⟩
#print axioms textMoves
end Go.Proofs.Ytiibbkbcebccnaa

/- Texts: replacements as arguments. -/
namespace Go.Proofs.Ytiibbkbcebccnaa
open Go Go.Ax Go.RowKit
set_option maxRecDepth 100000
set_option linter.unusedSimpArgs false
set_option linter.unusedVariables false

theorem c_int : Try.prog.cellsOf 3 = 1 := by kernel_rfl
theorem c_str : Try.prog.cellsOf 9 = 1 := by kernel_rfl
theorem c_re : Try.prog.cellsOf 24 = 3 := by kernel_rfl
theorem list3 {α : Type} {l : List α} (h : l.length = 3) : ∃ a b c, l = [a, b, c] := by
  match l, h with
  | [a, b, c], _ => exact ⟨a, b, c, rfl⟩
def Re.Ok (r : Re) : Prop := i64R r.a ∧ i64R r.e ∧ r.x.length ≤ 9223372036854775807
theorem open_re {xs : List AV} (h : Val Try.prog 24 xs) : ∃ r : Re, xs = reR r ∧ r.Ok := by
  obtain ⟨hl, hf⟩ := val_st Try.underlying24 c_re h
  obtain ⟨a, b, c, rfl⟩ := list3 hl
  obtain ⟨x, hx, hx'⟩ := val_int Try.underlying3 (val_fld hf 0 3 0 1 rfl c_int)
  obtain ⟨y, hy, hy'⟩ := val_int Try.underlying3 (val_fld hf 1 3 1 1 rfl c_int)
  obtain ⟨z, hz, hz'⟩ := val_str Try.underlying9 (val_fld hf 2 9 2 1 rfl c_str)
  simp only [List.drop_succ_cons, List.drop_zero, List.take_succ_cons, List.take_zero, List.cons.injEq, and_true] at hx hy hz
  exact ⟨⟨x, y, z⟩, by simp [reR, hx, hy, hz], hx', hy', hz'⟩
end Go.Proofs.Ytiibbkbcebccnaa

/- Texts: the reference's Fits, Apply, Move; Same; Invert. -/
namespace Go.Proofs.Ytiibbkbcebccnaa
open Go Go.Ax Go.RowKit
set_option maxRecDepth 100000
set_option linter.unusedSimpArgs false
set_option linter.unusedVariables false

theorem fitR (s : List UInt8) (l : List Re) (hl : Fewr l) (H : AHeap) : Comp' 35 [str s, .sl 3 (l.map reR)] H (int (fitsG s.length 0 l)) := by
  refine enter Try.func35 L35_ok (Nat.le_of_ble_eq_true rfl) ?_
  obtain ⟨hl1, hl2⟩ := hl
  repeat' (first | (refine And.intro (by omega) ?_) | simp -implicitDefEqProofs (disch := omega) only [L35, dT_lt, dF_lt, dT_le, dF_le, dT_eq, dF_eq, push_cast, ↓reduceIte, Nat.reduceEqDiff, reduceCtorEq, Nat.reduceAdd, Nat.reduceSub, Nat.reduceMul, Nat.reduceLeDiff, Nat.reduceLT, Nat.reduceMod, Nat.reduceDiv, Int.reduceToNat, Int.reduceLT, Int.reduceLE, Int.reduceEq, Int.reduceAdd, Int.reduceSub, Int.reduceNeg, Int.reduceMul, Bool.and_self] | split)
  refine rk_loopS (fun (st : Nat × Int) e' H' => e' 0 = str s ∧ e' 1 = .sl 3 (l.map reR) ∧ e' 5 = int st.2 ∧ e' 6 = int st.1 ∧ H = H' ∧ st.1 ≤ l.length ∧ fitsG s.length st.2 (l.drop st.1) = fitsG s.length 0 l) (fun st => l.length - st.1) (0, 0) ?_ ?_
  · exact ⟨rfl, rfl, rfl, rfl, rfl, Nat.zero_le _, rfl⟩
  rintro ⟨j, last⟩ e' H' ⟨h0, h1, h5, h6, rfl, hj, hg⟩
  simp only at h5 h6 hj hg
  by_cases hlt : j < l.length
  · have hjl : (j : Int) < l.length := by omega
    rw [fitsG_step hlt] at hg
    by_cases c1 : (l.getD j default).a < 0
    · rw [if_pos (.inl c1)] at hg
      rw [← hg]
      repeat' (first | (refine And.intro (by omega) ?_) | simp -implicitDefEqProofs (disch := omega) only [h0, h1, h5, h6, rows_getD, re_len, re_take, re_drop1, re_drop2, re_drop3, re_c1s, re_cl, re_cells, re_agg, dT_lt, dF_lt, dT_le, dF_le, dT_eq, dF_eq, push_cast, ↓reduceIte, Nat.reduceEqDiff, reduceCtorEq, Nat.reduceAdd, Nat.reduceSub, Nat.reduceMul, Nat.reduceLeDiff, Nat.reduceLT, Nat.reduceMod, Nat.reduceDiv, Int.reduceToNat, Int.reduceLT, Int.reduceLE, Int.reduceEq, Int.reduceAdd, Int.reduceSub, Int.reduceNeg, Int.reduceMul, Bool.and_self] | split)
      omega
    · by_cases c2 : (l.getD j default).e < (l.getD j default).a
      · rw [if_pos (.inr (.inl c2))] at hg
        rw [← hg]
        repeat' (first | (refine And.intro (by omega) ?_) | simp -implicitDefEqProofs (disch := omega) only [h0, h1, h5, h6, rows_getD, re_len, re_take, re_drop1, re_drop2, re_drop3, re_c1s, re_cl, re_cells, re_agg, dT_lt, dF_lt, dT_le, dF_le, dT_eq, dF_eq, push_cast, ↓reduceIte, Nat.reduceEqDiff, reduceCtorEq, Nat.reduceAdd, Nat.reduceSub, Nat.reduceMul, Nat.reduceLeDiff, Nat.reduceLT, Nat.reduceMod, Nat.reduceDiv, Int.reduceToNat, Int.reduceLT, Int.reduceLE, Int.reduceEq, Int.reduceAdd, Int.reduceSub, Int.reduceNeg, Int.reduceMul, Bool.and_self] | split)
        omega
      · by_cases c3 : (s.length : Int) < (l.getD j default).e
        · rw [if_pos (.inr (.inr c3))] at hg
          rw [← hg]
          repeat' (first | (refine And.intro (by omega) ?_) | simp -implicitDefEqProofs (disch := omega) only [h0, h1, h5, h6, rows_getD, re_len, re_take, re_drop1, re_drop2, re_drop3, re_c1s, re_cl, re_cells, re_agg, dT_lt, dF_lt, dT_le, dF_le, dT_eq, dF_eq, push_cast, ↓reduceIte, Nat.reduceEqDiff, reduceCtorEq, Nat.reduceAdd, Nat.reduceSub, Nat.reduceMul, Nat.reduceLeDiff, Nat.reduceLT, Nat.reduceMod, Nat.reduceDiv, Int.reduceToNat, Int.reduceLT, Int.reduceLE, Int.reduceEq, Int.reduceAdd, Int.reduceSub, Int.reduceNeg, Int.reduceMul, Bool.and_self] | split)
          omega
        · rw [if_neg (by omega)] at hg
          by_cases c4 : (l.getD j default).a < last
          · rw [if_pos c4] at hg
            rw [← hg]
            repeat' (first | (refine And.intro (by omega) ?_) | simp -implicitDefEqProofs (disch := omega) only [h0, h1, h5, h6, rows_getD, re_len, re_take, re_drop1, re_drop2, re_drop3, re_c1s, re_cl, re_cells, re_agg, dT_lt, dF_lt, dT_le, dF_le, dT_eq, dF_eq, push_cast, ↓reduceIte, Nat.reduceEqDiff, reduceCtorEq, Nat.reduceAdd, Nat.reduceSub, Nat.reduceMul, Nat.reduceLeDiff, Nat.reduceLT, Nat.reduceMod, Nat.reduceDiv, Int.reduceToNat, Int.reduceLT, Int.reduceLE, Int.reduceEq, Int.reduceAdd, Int.reduceSub, Int.reduceNeg, Int.reduceMul, Bool.and_self] | split)
            omega
          · rw [if_neg c4] at hg
            repeat' (first | (refine And.intro (by omega) ?_) | simp -implicitDefEqProofs (disch := omega) only [h0, h1, h5, h6, rows_getD, re_len, re_take, re_drop1, re_drop2, re_drop3, re_c1s, re_cl, re_cells, re_agg, dT_lt, dF_lt, dT_le, dF_le, dT_eq, dF_eq, push_cast, ↓reduceIte, Nat.reduceEqDiff, reduceCtorEq, Nat.reduceAdd, Nat.reduceSub, Nat.reduceMul, Nat.reduceLeDiff, Nat.reduceLT, Nat.reduceMod, Nat.reduceDiv, Int.reduceToNat, Int.reduceLT, Int.reduceLE, Int.reduceEq, Int.reduceAdd, Int.reduceSub, Int.reduceNeg, Int.reduceMul, Bool.and_self] | split)
            exact .mk (j + 1, (l.getD j default).e) ⟨h0, h1, rfl, rfl, rfl, hlt, hg⟩ (by simp only; omega)
  · rw [List.drop_of_length_le (by omega)] at hg
    rw [← hg]
    repeat' (first | (refine And.intro (by omega) ?_) | simp -implicitDefEqProofs (disch := omega) only [h0, h1, h5, h6, dT_lt, dF_lt, dT_le, dF_le, dT_eq, dF_eq, push_cast, ↓reduceIte, Nat.reduceEqDiff, reduceCtorEq, Nat.reduceAdd, Nat.reduceSub, Nat.reduceMul, Nat.reduceLeDiff, Nat.reduceLT, Nat.reduceMod, Nat.reduceDiv, Int.reduceToNat, Int.reduceLT, Int.reduceLE, Int.reduceEq, Int.reduceAdd, Int.reduceSub, Int.reduceNeg, Int.reduceMul, Bool.and_self] | split)
    all_goals first | rfl | omega
#print axioms fitR
theorem appG_len {s : List UInt8} : ∀ {l : List Re} {c : Nat}, Ord s.length c l → c ≤ s.length → ((appG s c l).length : Int) = s.length - c + growF l
  | [], c, _, hc => by simp only [appG, growF, List.length_drop]; omega
  | x :: l, c, h, hc => by
    obtain ⟨h1, h2, h3, h4⟩ := h
    obtain ⟨a, ha⟩ : ∃ a : Nat, x.a = a := ⟨x.a.toNat, by omega⟩
    obtain ⟨e, he⟩ : ∃ e : Nat, x.e = e := ⟨x.e.toNat, by omega⟩
    simp only [appG, growF, ha, he, Int.toNat_natCast] at *
    have := appG_len h4 (by omega)
    simp only [List.length_append, List.length_drop, List.length_take]
    omega
theorem ord_at {n : Int} : ∀ {l : List Re} {c : Int} {j : Nat}, Ord n c l → j < l.length → c ≤ (l.getD j default).a ∧ (l.getD j default).a ≤ (l.getD j default).e ∧ (l.getD j default).e ≤ n ∧ Ord n (l.getD j default).e (l.drop (j + 1))
  | [], _, _, _, h => by simp at h
  | x :: l, c, 0, h, _ => h
  | x :: l, c, j + 1, h, hj => by
    obtain ⟨h1, h2, h3, h4⟩ := h
    obtain ⟨g1, g2, g3, g4⟩ := ord_at (j := j) h4 (by simpa using hj)
    exact ⟨by rw [List.getD_cons_succ]; omega, g2, g3, g4⟩

theorem appR (s : List UInt8) (l : List Re) (hs : s.length ≤ 300) (hl : Fewr l) (H : AHeap) : Comp' 15 [str s, .sl 3 (l.map reR)] H (.tup [str (appF s l), int (fitsF s.length l)]) := by
  refine enter Try.func15 L15_ok (Nat.le_of_ble_eq_true rfl) ?_
  have hf := fun H => fitR s l hl H
  obtain ⟨hl1, hl2⟩ := hl
  by_cases c0 : fitsG s.length 0 l = 0
  · have hO := ord_of_fits c0
    have hlen := appG_len (c := 0) hO (Nat.zero_le _)
    rw [c0] at hf
    have hF : fitsF s.length l = if 16384 < (s.length : Int) + growF l then 8 else 0 := by unfold fitsF; rw [c0]; simp
    have hgr : ∀ c : Nat, ∀ l' : List Re, Ord s.length c l' → c ≤ s.length → l'.length ≤ 10 → (∀ x ∈ l', x.x.length ≤ 1000) → (appG s c l').length + c ≤ s.length + 1000 * l'.length := fun c l' => by
      intro h1 h2 h3 h4
      induction l' generalizing c with
      | nil => simp only [appG, List.length_drop]; omega
      | cons x l' ih =>
        obtain ⟨g1, g2, g3, g4⟩ := h1
        obtain ⟨e, he⟩ : ∃ e : Nat, x.e = e := ⟨x.e.toNat, by omega⟩
        obtain ⟨a, ha⟩ : ∃ a : Nat, x.a = a := ⟨x.a.toNat, by omega⟩
        have h5 := h4 x (by simp)
        rw [he] at g4
        have := ih e g4 (by omega) (by simp at h3; omega) (fun y hy => h4 y (by simp [hy]))
        simp only [appG, List.length_append, List.length_drop, List.length_take, List.length_cons, he, ha, Int.toNat_natCast] at *
        omega
    repeat' (first | (refine And.intro (by omega) ?_) | (refine callF_pure (hf _) ?_) | (refine callQF_pure (hf _) (by first | rfl | simp -implicitDefEqProofs (disch := omega) only [L15, dT_lt, dF_lt, dT_le, dF_le, dT_eq, dF_eq, push_cast, ↓reduceIte, Nat.reduceEqDiff, reduceCtorEq, Nat.reduceAdd, Nat.reduceSub, Nat.reduceMul, Nat.reduceLeDiff, Nat.reduceLT, Nat.reduceMod, Nat.reduceDiv, Int.reduceToNat, Int.reduceLT, Int.reduceLE, Int.reduceEq, Int.reduceAdd, Int.reduceSub, Int.reduceNeg, Int.reduceMul, Bool.and_self]) ?_) | simp -implicitDefEqProofs (disch := omega) only [L15, dT_lt, dF_lt, dT_le, dF_le, dT_eq, dF_eq, push_cast, ↓reduceIte, Nat.reduceEqDiff, reduceCtorEq, Nat.reduceAdd, Nat.reduceSub, Nat.reduceMul, Nat.reduceLeDiff, Nat.reduceLT, Nat.reduceMod, Nat.reduceDiv, Int.reduceToNat, Int.reduceLT, Int.reduceLE, Int.reduceEq, Int.reduceAdd, Int.reduceSub, Int.reduceNeg, Int.reduceMul, Bool.and_self] | split)
    refine rk_loopS (fun (st : Nat × List UInt8) e' H' => e' 0 = str s ∧ e' 1 = .sl 3 (l.map reR) ∧ e' 7 = str st.2 ∧ e' 8 = int ((st.1 : Int) - 1) ∧ H = H' ∧ st.1 ≤ l.length ∧ ∀ c : Nat, c ≤ s.length → Ord s.length c (l.drop st.1) → st.2 = s.take c ++ appG s c (l.drop st.1)) (fun st => st.1) (l.length, s) ?_ ?_
    · refine ⟨rfl, rfl, rfl, rfl, rfl, Nat.le_refl _, fun c _ _ => ?_⟩
      rw [List.drop_length]
      simp [appG]
    rintro ⟨j, out⟩ e' H' ⟨h0, h1, h7, h8, rfl, hj, hw⟩
    simp only at h7 h8 hj hw
    cases j with
    | zero =>
      have hout := hw 0 (Nat.zero_le _) hO
      rw [List.take_zero, List.nil_append, List.drop_zero] at hout
      have h8 : e' 8 = int (-1) := h8
      by_cases c1 : 16384 < (s.length : Int) + growF l
      · have hF8 : fitsF s.length l = 8 := by rw [hF, if_pos c1]
        have hA : appF s l = [] := by unfold appF; rw [hF8]; rfl
        rw [hF8, hA]
        have hol : (16384 : Int) < out.length := by rw [hout]; omega
        repeat' (first | (refine And.intro (by omega) ?_) | simp -implicitDefEqProofs (disch := omega) only [h0, h1, h7, h8, dT_lt, dF_lt, dT_le, dF_le, dT_eq, dF_eq, push_cast, ↓reduceIte, Nat.reduceEqDiff, reduceCtorEq, Nat.reduceAdd, Nat.reduceSub, Nat.reduceMul, Nat.reduceLeDiff, Nat.reduceLT, Nat.reduceMod, Nat.reduceDiv, Int.reduceToNat, Int.reduceLT, Int.reduceLE, Int.reduceEq, Int.reduceAdd, Int.reduceSub, Int.reduceNeg, Int.reduceMul, Bool.and_self] | split)
      · have hF0 : fitsF s.length l = 0 := by rw [hF, if_neg c1]
        have hA : appF s l = out := by unfold appF; rw [hF0, hout]; rfl
        rw [hF0, hA]
        have hol : (out.length : Int) ≤ 16384 := by rw [hout]; omega
        repeat' (first | (refine And.intro (by omega) ?_) | simp -implicitDefEqProofs (disch := omega) only [h0, h1, h7, h8, dT_lt, dF_lt, dT_le, dF_le, dT_eq, dF_eq, push_cast, ↓reduceIte, Nat.reduceEqDiff, reduceCtorEq, Nat.reduceAdd, Nat.reduceSub, Nat.reduceMul, Nat.reduceLeDiff, Nat.reduceLT, Nat.reduceMod, Nat.reduceDiv, Int.reduceToNat, Int.reduceLT, Int.reduceLE, Int.reduceEq, Int.reduceAdd, Int.reduceSub, Int.reduceNeg, Int.reduceMul, Bool.and_self] | split)
    | succ j =>
      have h8 : e' 8 = int j := intc h8 (by omega)
      have hlt : j < l.length := hj
      obtain ⟨a1, a2, a3, a4⟩ := ord_at hO hlt
      have hx := hl2 _ (getD_mem' hlt)
      have hst : ∀ c : Nat, appG s c (l.drop j) = (s.take (l.getD j default).a.toNat).drop c ++ ((l.getD j default).x ++ appG s (l.getD j default).e.toNat (l.drop (j + 1))) := fun c => appG_step hlt
      obtain ⟨a, ha⟩ : ∃ a : Nat, (l.getD j default).a = a := ⟨(l.getD j default).a.toNat, by omega⟩
      obtain ⟨e, he⟩ : ∃ e : Nat, (l.getD j default).e = e := ⟨(l.getD j default).e.toNat, by omega⟩
      rw [ha] at a1 a2
      rw [he] at a2 a3 a4
      simp only [ha, he, Int.toNat_natCast] at hst
      have hout := hw e (by omega) a4
      have hgl := hgr e (l.drop (j + 1)) a4 (by omega) (by rw [List.length_drop]; omega) (fun x hx => hl2 x (List.mem_of_mem_drop hx))
      have hol : out.length ≤ 20000 := by
        rw [hout, List.length_append, List.length_take]
        rw [List.length_drop] at hgl
        omega
      have hoe : e ≤ out.length := by rw [hout, List.length_append, List.length_take]; omega
      have hta : out.take a = s.take a := by
        rw [hout, List.take_append_of_le_length (by rw [List.length_take]; omega), List.take_take]
        congr 1
        omega
      have hde : out.drop e = appG s e (l.drop (j + 1)) := by
        rw [hout, List.drop_append_of_le_length (by rw [List.length_take]; omega)]
        rw [List.drop_of_length_le (by rw [List.length_take]; omega)]
        rfl
      have hjl : (j : Int) < l.length := by omega
      have hdt : (out.drop e).take (out.length - e) = appG s e (l.drop (j + 1)) := by
        rw [List.take_of_length_le (by rw [List.length_drop]; omega), hde]
      have hls : (s.take a).length ≤ 300 := by rw [List.length_take]; omega
      have hlo : (appG s e (l.drop (j + 1))).length ≤ 20000 := by rw [List.length_drop] at hgl; omega
      repeat' (first | (with_reducible refine And.intro ?_ ?_; focus omega) | simp -implicitDefEqProofs (disch := omega) only [h0, h1, h7, h8, rows_getD, re_len, re_take, re_drop1, re_drop2, re_drop3, re_c1s, re_cl, re_cells, re_agg, ha, he, Nat.sub_zero, hta, hdt, dT_lt, dF_lt, dT_le, dF_le, dT_eq, dF_eq, push_cast, ↓reduceIte, Nat.reduceEqDiff, reduceCtorEq, Nat.reduceAdd, Nat.reduceSub, Nat.reduceMul, Nat.reduceLeDiff, Nat.reduceLT, Nat.reduceMod, Nat.reduceDiv, Int.reduceToNat, Int.reduceLT, Int.reduceLE, Int.reduceEq, Int.reduceAdd, Int.reduceSub, Int.reduceNeg, Int.reduceMul, Bool.and_self] | split)
      refine .mk (j, _) ⟨h0, h1, rfl, intc rfl (by simp only), rfl, by simp only; omega, fun c hc hOc => ?_⟩ (by simp only; omega)
      simp only at hOc ⊢
      rw [hst c]
      have hca : c ≤ a := by
        rw [drop_cons hlt] at hOc
        have := hOc.1
        omega
      rw [← List.append_assoc, ← List.append_assoc, ← List.append_assoc]
      congr 2
      have e1 : s.take c = (s.take a).take c := by rw [List.take_take]; congr 1; omega
      rw [e1, List.take_append_drop]
  · have hF : fitsF s.length l = fitsG s.length 0 l := by unfold fitsF; rw [if_pos c0]
    have hA : appF s l = [] := by unfold appF; rw [hF, if_neg c0]
    rw [hF, hA]
    repeat' (first | (refine And.intro (by omega) ?_) | (refine callF_pure (hf _) ?_) | (refine callQF_pure (hf _) (by first | rfl | simp -implicitDefEqProofs (disch := omega) only [L15, dT_lt, dF_lt, dT_le, dF_le, dT_eq, dF_eq, push_cast, ↓reduceIte, Nat.reduceEqDiff, reduceCtorEq, Nat.reduceAdd, Nat.reduceSub, Nat.reduceMul, Nat.reduceLeDiff, Nat.reduceLT, Nat.reduceMod, Nat.reduceDiv, Int.reduceToNat, Int.reduceLT, Int.reduceLE, Int.reduceEq, Int.reduceAdd, Int.reduceSub, Int.reduceNeg, Int.reduceMul, Bool.and_self]) ?_) | simp -implicitDefEqProofs (disch := omega) only [L15, dT_lt, dF_lt, dT_le, dF_le, dT_eq, dF_eq, push_cast, ↓reduceIte, Nat.reduceEqDiff, reduceCtorEq, Nat.reduceAdd, Nat.reduceSub, Nat.reduceMul, Nat.reduceLeDiff, Nat.reduceLT, Nat.reduceMod, Nat.reduceDiv, Int.reduceToNat, Int.reduceLT, Int.reduceLE, Int.reduceEq, Int.reduceAdd, Int.reduceSub, Int.reduceNeg, Int.reduceMul, Bool.and_self] | split)
#print axioms appR
end Go.Proofs.Ytiibbkbcebccnaa

/- Texts: the reference's Move; Same; Invert. -/
namespace Go.Proofs.Ytiibbkbcebccnaa
open Go Go.Ax Go.RowKit
set_option maxRecDepth 100000
set_option linter.unusedSimpArgs false
set_option linter.unusedVariables false

theorem movR (l : List Re) (t : Int) (hl : Fewr l) (H : AHeap) : Comp' 19 [.sl 3 (l.map reR), int t] H (int (movF l t)) := by
  refine enter Try.func19 L19_ok (Nat.le_of_ble_eq_true rfl) ?_
  obtain ⟨hl1, hl2⟩ := hl
  by_cases c1 : t < 0
  · have hX : movF l t = -1 := by unfold movF; rw [if_pos (.inl c1)]
    rw [hX]
    repeat' (first | (refine And.intro (by omega) ?_) | simp -implicitDefEqProofs (disch := omega) only [L19, dT_lt, dF_lt, dT_le, dF_le, dT_eq, dF_eq, push_cast, ↓reduceIte, Nat.reduceEqDiff, reduceCtorEq, Nat.reduceAdd, Nat.reduceSub, Nat.reduceMul, Nat.reduceLeDiff, Nat.reduceLT, Nat.reduceMod, Nat.reduceDiv, Int.reduceToNat, Int.reduceLT, Int.reduceLE, Int.reduceEq, Int.reduceAdd, Int.reduceSub, Int.reduceNeg, Int.reduceMul, Bool.and_self] | split)
  by_cases c2 : 16384 < t
  · have hX : movF l t = -1 := by unfold movF; rw [if_pos (.inr c2)]
    rw [hX]
    repeat' (first | (refine And.intro (by omega) ?_) | simp -implicitDefEqProofs (disch := omega) only [L19, dT_lt, dF_lt, dT_le, dF_le, dT_eq, dF_eq, push_cast, ↓reduceIte, Nat.reduceEqDiff, reduceCtorEq, Nat.reduceAdd, Nat.reduceSub, Nat.reduceMul, Nat.reduceLeDiff, Nat.reduceLT, Nat.reduceMod, Nat.reduceDiv, Int.reduceToNat, Int.reduceLT, Int.reduceLE, Int.reduceEq, Int.reduceAdd, Int.reduceSub, Int.reduceNeg, Int.reduceMul, Bool.and_self] | split)
  have hM : movF l t = if movOk 0 l = true then movG t 0 l else -1 := by unfold movF; rw [if_neg (by omega)]
  repeat' (first | (refine And.intro (by omega) ?_) | simp -implicitDefEqProofs (disch := omega) only [L19, dT_lt, dF_lt, dT_le, dF_le, dT_eq, dF_eq, push_cast, ↓reduceIte, Nat.reduceEqDiff, reduceCtorEq, Nat.reduceAdd, Nat.reduceSub, Nat.reduceMul, Nat.reduceLeDiff, Nat.reduceLT, Nat.reduceMod, Nat.reduceDiv, Int.reduceToNat, Int.reduceLT, Int.reduceLE, Int.reduceEq, Int.reduceAdd, Int.reduceSub, Int.reduceNeg, Int.reduceMul, Bool.and_self] | split)
  refine rk_loopS (fun (st : Nat × Int) e' H' => e' 0 = .sl 3 (l.map reR) ∧ e' 1 = int t ∧ e' 5 = int st.2 ∧ e' 6 = int st.1 ∧ H = H' ∧ st.1 ≤ l.length ∧ movOk st.2 (l.drop st.1) = movOk 0 l) (fun st => l.length - st.1) (0, 0) ?_ ?_
  · exact ⟨rfl, rfl, rfl, rfl, rfl, Nat.zero_le _, rfl⟩
  rintro ⟨j, last⟩ e' H' ⟨h0, h1, h5, h6, rfl, hj, hg⟩
  simp only at h5 h6 hj hg
  by_cases hlt : j < l.length
  · have hjl : (j : Int) < l.length := by omega
    rw [movOk_step hlt] at hg
    by_cases c3 : (l.getD j default).a < last
    · have hF : movOk 0 l = false := by rw [← hg, decide_eq_false (by omega)]; rfl
      have hX : movF l t = -1 := by rw [hM, hF, if_neg (by simp)]
      rw [hX]
      repeat' (first | (refine And.intro (by omega) ?_) | simp -implicitDefEqProofs (disch := omega) only [h0, h1, h5, h6, rows_getD, re_len, re_take, re_drop1, re_drop2, re_drop3, re_c1s, re_cl, re_cells, re_agg, dT_lt, dF_lt, dT_le, dF_le, dT_eq, dF_eq, push_cast, ↓reduceIte, Nat.reduceEqDiff, reduceCtorEq, Nat.reduceAdd, Nat.reduceSub, Nat.reduceMul, Nat.reduceLeDiff, Nat.reduceLT, Nat.reduceMod, Nat.reduceDiv, Int.reduceToNat, Int.reduceLT, Int.reduceLE, Int.reduceEq, Int.reduceAdd, Int.reduceSub, Int.reduceNeg, Int.reduceMul, Bool.and_self] | split)
      all_goals first | rfl | omega
    · by_cases c4 : (l.getD j default).e < (l.getD j default).a
      · have hF : movOk 0 l = false := by rw [← hg, decide_eq_false (p := (l.getD j default).a ≤ _) (by omega)]; simp
        have hX : movF l t = -1 := by rw [hM, hF, if_neg (by simp)]
        rw [hX]
        repeat' (first | (refine And.intro (by omega) ?_) | simp -implicitDefEqProofs (disch := omega) only [h0, h1, h5, h6, rows_getD, re_len, re_take, re_drop1, re_drop2, re_drop3, re_c1s, re_cl, re_cells, re_agg, dT_lt, dF_lt, dT_le, dF_le, dT_eq, dF_eq, push_cast, ↓reduceIte, Nat.reduceEqDiff, reduceCtorEq, Nat.reduceAdd, Nat.reduceSub, Nat.reduceMul, Nat.reduceLeDiff, Nat.reduceLT, Nat.reduceMod, Nat.reduceDiv, Int.reduceToNat, Int.reduceLT, Int.reduceLE, Int.reduceEq, Int.reduceAdd, Int.reduceSub, Int.reduceNeg, Int.reduceMul, Bool.and_self] | split)
        all_goals first | rfl | omega
      · by_cases c5 : 16384 < (l.getD j default).e
        · have hF : movOk 0 l = false := by rw [← hg, decide_eq_false (p := (l.getD j default).e ≤ 16384) (by omega)]; simp
          have hX : movF l t = -1 := by rw [hM, hF, if_neg (by simp)]
          rw [hX]
          repeat' (first | (refine And.intro (by omega) ?_) | simp -implicitDefEqProofs (disch := omega) only [h0, h1, h5, h6, rows_getD, re_len, re_take, re_drop1, re_drop2, re_drop3, re_c1s, re_cl, re_cells, re_agg, dT_lt, dF_lt, dT_le, dF_le, dT_eq, dF_eq, push_cast, ↓reduceIte, Nat.reduceEqDiff, reduceCtorEq, Nat.reduceAdd, Nat.reduceSub, Nat.reduceMul, Nat.reduceLeDiff, Nat.reduceLT, Nat.reduceMod, Nat.reduceDiv, Int.reduceToNat, Int.reduceLT, Int.reduceLE, Int.reduceEq, Int.reduceAdd, Int.reduceSub, Int.reduceNeg, Int.reduceMul, Bool.and_self] | split)
          all_goals first | rfl | omega
        · rw [decide_eq_true (by omega), decide_eq_true (p := (l.getD j default).a ≤ _) (by omega), decide_eq_true (p := (l.getD j default).e ≤ 16384) (by omega), Bool.true_and, Bool.true_and, Bool.true_and] at hg
          repeat' (first | (refine And.intro (by omega) ?_) | simp -implicitDefEqProofs (disch := omega) only [h0, h1, h5, h6, rows_getD, re_len, re_take, re_drop1, re_drop2, re_drop3, re_c1s, re_cl, re_cells, re_agg, dT_lt, dF_lt, dT_le, dF_le, dT_eq, dF_eq, push_cast, ↓reduceIte, Nat.reduceEqDiff, reduceCtorEq, Nat.reduceAdd, Nat.reduceSub, Nat.reduceMul, Nat.reduceLeDiff, Nat.reduceLT, Nat.reduceMod, Nat.reduceDiv, Int.reduceToNat, Int.reduceLT, Int.reduceLE, Int.reduceEq, Int.reduceAdd, Int.reduceSub, Int.reduceNeg, Int.reduceMul, Bool.and_self] | split)
          exact .mk (j + 1, (l.getD j default).e) ⟨h0, h1, rfl, rfl, rfl, hlt, hg⟩ (by simp only; omega)
  · have e : j = l.length := by omega
    subst e
    rw [List.drop_length] at hg
    have hok : movOk 0 l = true := by rw [← hg]; rfl
    have hall := movOk_all (Int.le_refl 0) hok
    have hM : movF l t = movG t 0 l := by rw [hM, hok, if_pos rfl]
    rw [hM]
    repeat' (first | (refine And.intro (by omega) ?_) | simp -implicitDefEqProofs (disch := omega) only [h0, h1, h5, h6, dT_lt, dF_lt, dT_le, dF_le, dT_eq, dF_eq, push_cast, ↓reduceIte, Nat.reduceEqDiff, reduceCtorEq, Nat.reduceAdd, Nat.reduceSub, Nat.reduceMul, Nat.reduceLeDiff, Nat.reduceLT, Nat.reduceMod, Nat.reduceDiv, Int.reduceToNat, Int.reduceLT, Int.reduceLE, Int.reduceEq, Int.reduceAdd, Int.reduceSub, Int.reduceNeg, Int.reduceMul, Bool.and_self] | split)
    refine rk_loopS (fun (st : Nat × Int) e' H' => e' 0 = .sl 3 (l.map reR) ∧ e' 1 = int t ∧ e' 7 = int st.2 ∧ e' 8 = int st.1 ∧ H = H' ∧ st.1 ≤ l.length ∧ movG t st.2 (l.drop st.1) = movG t 0 l ∧ -20000 * (st.1 : Int) ≤ st.2 ∧ st.2 ≤ 1000 * (st.1 : Int)) (fun st => l.length - st.1) (0, 0) ?_ ?_
    · exact ⟨h0, h1, rfl, rfl, rfl, Nat.zero_le _, rfl, by simp, by simp⟩
    clear h0 h1 h5 h6 e'
    rintro ⟨j, sh⟩ e' H' ⟨h0, h1, h7, h8, rfl, hj, hg, hb1, hb2⟩
    simp only at h7 h8 hj hg hb1 hb2
    by_cases hlt : j < l.length
    · have hjl : (j : Int) < l.length := by omega
      rw [movG_step hlt] at hg
      have hx := hl2 _ (getD_mem' hlt)
      obtain ⟨a1, a2, a3⟩ := hall _ (getD_mem' hlt)
      by_cases c3 : (l.getD j default).a ≤ t
      · by_cases c4 : t < (l.getD j default).e
        · rw [if_pos ⟨c3, c4⟩] at hg
          rw [← hg]
          repeat' (first | (with_reducible refine And.intro ?_ ?_; focus omega) | simp -implicitDefEqProofs (disch := omega) only [h0, h1, h7, h8, rows_getD, re_len, re_take, re_drop1, re_drop2, re_drop3, re_c1s, re_cl, re_cells, re_agg, dT_lt, dF_lt, dT_le, dF_le, dT_eq, dF_eq, push_cast, ↓reduceIte, Nat.reduceEqDiff, reduceCtorEq, Nat.reduceAdd, Nat.reduceSub, Nat.reduceMul, Nat.reduceLeDiff, Nat.reduceLT, Nat.reduceMod, Nat.reduceDiv, Int.reduceToNat, Int.reduceLT, Int.reduceLE, Int.reduceEq, Int.reduceAdd, Int.reduceSub, Int.reduceNeg, Int.reduceMul, Bool.and_self] | split)
          all_goals first | rfl | exact intc rfl (by omega) | omega
        · rw [if_neg (by omega), if_pos (by omega)] at hg
          repeat' (first | (with_reducible refine And.intro ?_ ?_; focus omega) | simp -implicitDefEqProofs (disch := omega) only [h0, h1, h7, h8, rows_getD, re_len, re_take, re_drop1, re_drop2, re_drop3, re_c1s, re_cl, re_cells, re_agg, dT_lt, dF_lt, dT_le, dF_le, dT_eq, dF_eq, push_cast, ↓reduceIte, Nat.reduceEqDiff, reduceCtorEq, Nat.reduceAdd, Nat.reduceSub, Nat.reduceMul, Nat.reduceLeDiff, Nat.reduceLT, Nat.reduceMod, Nat.reduceDiv, Int.reduceToNat, Int.reduceLT, Int.reduceLE, Int.reduceEq, Int.reduceAdd, Int.reduceSub, Int.reduceNeg, Int.reduceMul, Bool.and_self] | split)
          exact .mk (j + 1, sh + (((l.getD j default).x.length : Int) - ((l.getD j default).e - (l.getD j default).a))) ⟨h0, h1, intc rfl (by simp only; omega), rfl, rfl, hlt, hg, by simp only; push_cast; omega, by simp only; push_cast; omega⟩ (by simp only; omega)
      · rw [if_neg (by omega), if_neg (by omega)] at hg
        repeat' (first | (with_reducible refine And.intro ?_ ?_; focus omega) | simp -implicitDefEqProofs (disch := omega) only [h0, h1, h7, h8, rows_getD, re_len, re_take, re_drop1, re_drop2, re_drop3, re_c1s, re_cl, re_cells, re_agg, dT_lt, dF_lt, dT_le, dF_le, dT_eq, dF_eq, push_cast, ↓reduceIte, Nat.reduceEqDiff, reduceCtorEq, Nat.reduceAdd, Nat.reduceSub, Nat.reduceMul, Nat.reduceLeDiff, Nat.reduceLT, Nat.reduceMod, Nat.reduceDiv, Int.reduceToNat, Int.reduceLT, Int.reduceLE, Int.reduceEq, Int.reduceAdd, Int.reduceSub, Int.reduceNeg, Int.reduceMul, Bool.and_self] | split)
        exact .mk (j + 1, sh) ⟨h0, h1, h7, rfl, rfl, hlt, hg, by simp only; push_cast; omega, by simp only; push_cast; omega⟩ (by simp only; omega)
    · have e : j = l.length := by omega
      subst e
      rw [List.drop_length] at hg
      rw [← hg]
      repeat' (first | (refine And.intro (by omega) ?_) | simp -implicitDefEqProofs (disch := omega) only [h0, h1, h7, h8, dT_lt, dF_lt, dT_le, dF_le, dT_eq, dF_eq, push_cast, ↓reduceIte, Nat.reduceEqDiff, reduceCtorEq, Nat.reduceAdd, Nat.reduceSub, Nat.reduceMul, Nat.reduceLeDiff, Nat.reduceLT, Nat.reduceMod, Nat.reduceDiv, Int.reduceToNat, Int.reduceLT, Int.reduceLE, Int.reduceEq, Int.reduceAdd, Int.reduceSub, Int.reduceNeg, Int.reduceMul, Bool.and_self] | split)
      all_goals first | rfl | exact intc rfl (by omega) | omega
#print axioms movR

theorem kEq_int (n : Int) : kEq (.int .i64 n) (.int .i64 n) = true := by simp [kEq]
theorem kEq_str (s : ByteArray) : kEq (.string s) (.string s) = true := by simp [kEq]
theorem sameC (l : List Re) (hl : l.length ≤ 9223372036854775807) (H : AHeap) : Comp' 18 [.sl 3 (l.map reR), .sl 3 (l.map reR)] H (bool true) := by
  refine enter Try.func18 L18_ok (Nat.le_of_ble_eq_true rfl) ?_
  repeat' (first | (refine And.intro (by omega) ?_) | simp -implicitDefEqProofs (disch := omega) only [L18, dT_lt, dF_lt, dT_le, dF_le, dT_eq, dF_eq, push_cast, ↓reduceIte, Nat.reduceEqDiff, reduceCtorEq, Nat.reduceAdd, Nat.reduceSub, Nat.reduceMul, Nat.reduceLeDiff, Nat.reduceLT, Nat.reduceMod, Nat.reduceDiv, Int.reduceToNat, Int.reduceLT, Int.reduceLE, Int.reduceEq, Int.reduceAdd, Int.reduceSub, Int.reduceNeg, Int.reduceMul, Bool.and_self] | split)
  refine rk_loopS (fun (j : Nat) e' H' => e' 0 = .sl 3 (l.map reR) ∧ e' 1 = .sl 3 (l.map reR) ∧ e' 5 = int j ∧ H = H' ∧ j ≤ l.length) (fun j => l.length - j) 0 ?_ ?_
  · exact ⟨rfl, rfl, rfl, rfl, Nat.zero_le _⟩
  rintro j e' H' ⟨h0, h1, h5, rfl, hj⟩
  by_cases hlt : j < l.length
  · have hjl : (j : Int) < l.length := by omega
    have hr : reR (l.getD j default) = [int (l.getD j default).a, int (l.getD j default).e, str (l.getD j default).x] := rfl
    repeat' (first | (refine And.intro (by omega) ?_) | simp -implicitDefEqProofs (disch := omega) only [h0, h1, h5, rows_getD, re_len, re_take, re_c1s, re_cl, re_cells, re_agg, hr, kEq_int, kEq_str, Bool.and_true, Bool.not_true, dT_lt, dF_lt, dT_le, dF_le, dT_eq, dF_eq, push_cast, ↓reduceIte, Nat.reduceEqDiff, reduceCtorEq, Nat.reduceAdd, Nat.reduceSub, Nat.reduceMul, Nat.reduceLeDiff, Nat.reduceLT, Nat.reduceMod, Nat.reduceDiv, Int.reduceToNat, Int.reduceLT, Int.reduceLE, Int.reduceEq, Int.reduceAdd, Int.reduceSub, Int.reduceNeg, Int.reduceMul, Bool.and_self] | split)
    exact .mk (j + 1) ⟨h0, h1, rfl, rfl, hlt⟩ (by omega)
  · repeat' (first | (refine And.intro (by omega) ?_) | simp -implicitDefEqProofs (disch := omega) only [h0, h1, h5, dT_lt, dF_lt, dT_le, dF_le, dT_eq, dF_eq, push_cast, ↓reduceIte, Nat.reduceEqDiff, reduceCtorEq, Nat.reduceAdd, Nat.reduceSub, Nat.reduceMul, Nat.reduceLeDiff, Nat.reduceLT, Nat.reduceMod, Nat.reduceDiv, Int.reduceToNat, Int.reduceLT, Int.reduceLE, Int.reduceEq, Int.reduceAdd, Int.reduceSub, Int.reduceNeg, Int.reduceMul, Bool.and_self] | split)
    all_goals first | rfl | omega
theorem sameNil (H : AHeap) : Comp' 18 [nilS, nilS] H (bool true) := by
  refine enter Try.func18 L18_ok (Nat.le_of_ble_eq_true rfl) ?_
  repeat' (first | (refine And.intro (by omega) ?_) | simp -implicitDefEqProofs (disch := omega) only [L18, dT_lt, dF_lt, dT_le, dF_le, dT_eq, dF_eq, push_cast, ↓reduceIte, Nat.reduceEqDiff, reduceCtorEq, Nat.reduceAdd, Nat.reduceSub, Nat.reduceMul, Nat.reduceLeDiff, Nat.reduceLT, Nat.reduceMod, Nat.reduceDiv, Int.reduceToNat, Int.reduceLT, Int.reduceLE, Int.reduceEq, Int.reduceAdd, Int.reduceSub, Int.reduceNeg, Int.reduceMul, Bool.and_self] | split)
  refine rk_loopS (fun (j : Nat) e' H' => e' 0 = nilS ∧ e' 1 = nilS ∧ e' 5 = int 0 ∧ H = H') (fun j => j) 0 ?_ ?_
  · exact ⟨rfl, rfl, rfl, rfl⟩
  rintro j e' H' ⟨h0, h1, h5, rfl⟩
  repeat' (first | (refine And.intro (by omega) ?_) | simp -implicitDefEqProofs (disch := omega) only [h0, h1, h5, dT_lt, dF_lt, dT_le, dF_le, dT_eq, dF_eq, push_cast, ↓reduceIte, Nat.reduceEqDiff, reduceCtorEq, Nat.reduceAdd, Nat.reduceSub, Nat.reduceMul, Nat.reduceLeDiff, Nat.reduceLT, Nat.reduceMod, Nat.reduceDiv, Int.reduceToNat, Int.reduceLT, Int.reduceLE, Int.reduceEq, Int.reduceAdd, Int.reduceSub, Int.reduceNeg, Int.reduceMul, Bool.and_self] | split)
end Go.Proofs.Ytiibbkbcebccnaa

/- Texts: Invert. -/
namespace Go.Proofs.Ytiibbkbcebccnaa
open Go Go.Ax Go.RowKit
set_option maxRecDepth 100000
set_option linter.unusedSimpArgs false
set_option linter.unusedVariables false

/-- The replacements that restore a text, behind a shift. -/
def invG (s : List UInt8) : Int → List Re → List Re
  | _, [] => []
  | sh, x :: l => ⟨x.a + sh, x.a + sh + x.x.length, (s.take x.e.toNat).drop x.a.toNat⟩ :: invG s (sh + ((x.x.length : Int) - (x.e - x.a))) l
theorem invG_step {s : List UInt8} {sh : Int} {l : List Re} {j : Nat} (h : j < l.length) : invG s sh (l.drop j) = ⟨(l.getD j default).a + sh, (l.getD j default).a + sh + (l.getD j default).x.length, (s.take (l.getD j default).e.toNat).drop (l.getD j default).a.toNat⟩ :: invG s (sh + (((l.getD j default).x.length : Int) - ((l.getD j default).e - (l.getD j default).a))) (l.drop (j + 1)) := by
  rw [drop_cons h]; rfl
theorem invG_len (s : List UInt8) : ∀ (sh : Int) (l : List Re), (invG s sh l).length = l.length
  | _, [] => rfl
  | sh, x :: l => by simp only [invG, List.length_cons, invG_len s _ l]

theorem invT (s : List UInt8) (l : List Re) (hs : s.length ≤ 100000) (hl : Fewr l) (h0 : fitsF s.length l = 0) (H : AHeap) : Comp' 16 [str s, .sl 3 (l.map reR)] H (.tup [.sl 3 ((invG s 0 l).map reR), int 0]) := by
  refine ACall.drop (R := fun x => x = .tup [.sl 3 ((invG s 0 l).map reR), int 0]) ?_
  refine enter Try.func16 L16_ok (Nat.le_of_ble_eq_true rfl) ?_
  have hf := fun H => fitsT s l hs hl H
  rw [h0] at hf
  have z0 : fitsG s.length 0 l = 0 := by unfold fitsF at h0; split at h0 <;> omega
  have hO := ord_of_fits z0
  obtain ⟨hl1, hl2⟩ := hl
  clear h0
  repeat' (first | (refine And.intro (by omega) ?_) | (refine callF_pure (hf _) ?_) | (refine callQF_pure (hf _) (by first | rfl | simp -implicitDefEqProofs (disch := omega) only [L16, dT_lt, dF_lt, dT_le, dF_le, dT_eq, dF_eq, push_cast, ↓reduceIte, Nat.reduceEqDiff, reduceCtorEq, Nat.reduceAdd, Nat.reduceSub, Nat.reduceMul, Nat.reduceLeDiff, Nat.reduceLT, Nat.reduceMod, Nat.reduceDiv, Int.reduceToNat, Int.reduceLT, Int.reduceLE, Int.reduceEq, Int.reduceAdd, Int.reduceSub, Int.reduceNeg, Int.reduceMul, Bool.and_self]) ?_) | simp -implicitDefEqProofs (disch := omega) only [L16, dT_lt, dF_lt, dT_le, dF_le, dT_eq, dF_eq, push_cast, ↓reduceIte, Nat.reduceEqDiff, reduceCtorEq, Nat.reduceAdd, Nat.reduceSub, Nat.reduceMul, Nat.reduceLeDiff, Nat.reduceLT, Nat.reduceMod, Nat.reduceDiv, Int.reduceToNat, Int.reduceLT, Int.reduceLE, Int.reduceEq, Int.reduceAdd, Int.reduceSub, Int.reduceNeg, Int.reduceMul, Bool.and_self] | split)
  refine rk_loopS (fun (st : Nat × Nat × Int × List Re × AHeap) e' G => e' 0 = str s ∧ e' 7 = .os H.length st.2.1 0 st.1 ∧ e' 8 = int st.2.2.1 ∧ e' 17 = .sl 3 (l.map reR) ∧ e' 18 = int l.length ∧ e' 19 = int st.1 ∧ G = H ++ .arr st.2.1 3 (st.2.2.2.1.map reR) :: st.2.2.2.2 ∧ st.1 ≤ l.length ∧ st.2.2.2.1.length = st.1 ∧ st.2.2.2.1 ++ invG s st.2.2.1 (l.drop st.1) = invG s 0 l ∧ -200000 * (st.1 : Int) ≤ st.2.2.1 ∧ st.2.2.1 ≤ 1000 * (st.1 : Int)) (fun st => l.length - st.1) (0, 0, 0, [], []) ?_ ?_
  · exact ⟨rfl, rfl, rfl, rfl, rfl, rfl, rfl, Nat.zero_le _, rfl, rfl, by simp, by simp⟩
  rintro ⟨j, v, sh, pre, ext⟩ e' G ⟨h0, h7, h8, h17, h18, h19, rfl, hj, hpl, hg, hb1, hb2⟩
  simp only at h7 h8 h19 hj hg hb1 hb2 hpl
  by_cases hlt : j < l.length
  · have hx := hl2 _ (getD_mem' hlt)
    obtain ⟨a1, a2, a3, a4⟩ := ord_at hO hlt
    rw [invG_step hlt] at hg
    repeat' (first | (refine And.intro (by omega) ?_) | simp -implicitDefEqProofs (disch := omega) only [h0, h7, h8, h17, h18, h19, rows_getD, re_len, re_take, re_drop1, re_drop2, re_drop3, re_c1s, re_cl, re_cells, re_agg, splice, List.append_nil, dT_lt, dF_lt, dT_le, dF_le, dT_eq, dF_eq, push_cast, ↓reduceIte, Nat.reduceEqDiff, reduceCtorEq, Nat.reduceAdd, Nat.reduceSub, Nat.reduceMul, Nat.reduceLeDiff, Nat.reduceLT, Nat.reduceMod, Nat.reduceDiv, Int.reduceToNat, Int.reduceLT, Int.reduceLE, Int.reduceEq, Int.reduceAdd, Int.reduceSub, Int.reduceNeg, Int.reduceMul, Bool.and_self] | split)
    refine .mk (j + 1, v + 1, sh + (((l.getD j default).x.length : Int) - ((l.getD j default).e - (l.getD j default).a)), pre ++ [⟨(l.getD j default).a + sh, (l.getD j default).a + sh + (l.getD j default).x.length, (s.take (l.getD j default).e.toNat).drop (l.getD j default).a.toNat⟩], ext ++ [.box (reR (l.getD j default))]) ⟨h0, rfl, rfl, h17, h18, rfl, ?_, hlt, by simp [hpl], by rw [← hg]; simp, by simp only; push_cast; omega, by simp only; push_cast; omega⟩ (by simp only; omega)
    rw [List.take_of_length_le (by simp [hpl]), List.drop_take]
    simp only [List.map_append]
    rfl
  · have e : j = l.length := by omega
    subst e
    rw [List.drop_length] at hg
    simp only [invG, List.append_nil] at hg
    repeat' (first | (refine And.intro (by omega) ?_) | simp -implicitDefEqProofs (disch := omega) only [h0, h7, h8, h17, h18, h19, dT_lt, dF_lt, dT_le, dF_le, dT_eq, dF_eq, push_cast, ↓reduceIte, Nat.reduceEqDiff, reduceCtorEq, Nat.reduceAdd, Nat.reduceSub, Nat.reduceMul, Nat.reduceLeDiff, Nat.reduceLT, Nat.reduceMod, Nat.reduceDiv, Int.reduceToNat, Int.reduceLT, Int.reduceLE, Int.reduceEq, Int.reduceAdd, Int.reduceSub, Int.reduceNeg, Int.reduceMul, Bool.and_self] | split)
    rw [List.take_of_length_le (by simp [hpl]), hg]
    exact ⟨rfl, _, rfl⟩
#print axioms invT
theorem invTn (s : List UInt8) (l : List Re) (hs : s.length ≤ 100000) (hl : Fewr l) (h0 : fitsF s.length l ≠ 0) (H : AHeap) : Comp' 16 [str s, .sl 3 (l.map reR)] H (.tup [nilS, int (fitsF s.length l)]) := by
  refine enter Try.func16 L16_ok (Nat.le_of_ble_eq_true rfl) ?_
  have hf := fun H => fitsT s l hs hl H
  repeat' (first | (refine And.intro (by omega) ?_) | (refine callF_pure (hf _) ?_) | (refine callQF_pure (hf _) (by first | rfl | simp -implicitDefEqProofs (disch := omega) only [L16, dT_lt, dF_lt, dT_le, dF_le, dT_eq, dF_eq, push_cast, ↓reduceIte, Nat.reduceEqDiff, reduceCtorEq, Nat.reduceAdd, Nat.reduceSub, Nat.reduceMul, Nat.reduceLeDiff, Nat.reduceLT, Nat.reduceMod, Nat.reduceDiv, Int.reduceToNat, Int.reduceLT, Int.reduceLE, Int.reduceEq, Int.reduceAdd, Int.reduceSub, Int.reduceNeg, Int.reduceMul, Bool.and_self]) ?_) | simp -implicitDefEqProofs (disch := omega) only [L16, dT_lt, dF_lt, dT_le, dF_le, dT_eq, dF_eq, push_cast, ↓reduceIte, Nat.reduceEqDiff, reduceCtorEq, Nat.reduceAdd, Nat.reduceSub, Nat.reduceMul, Nat.reduceLeDiff, Nat.reduceLT, Nat.reduceMod, Nat.reduceDiv, Int.reduceToNat, Int.reduceLT, Int.reduceLE, Int.reduceEq, Int.reduceAdd, Int.reduceSub, Int.reduceNeg, Int.reduceMul, Bool.and_self] | split)
theorem invRn (s : List UInt8) (l : List Re) (hs : s.length ≤ 300) (hl : Fewr l) (h0 : fitsF s.length l ≠ 0) (H : AHeap) : Comp' 17 [str s, .sl 3 (l.map reR)] H (.tup [nilS, int (fitsF s.length l)]) := by
  refine enter Try.func17 L17_ok (Nat.le_of_ble_eq_true rfl) ?_
  have hf := fun H => appR s l hs hl H
  repeat' (first | (refine And.intro (by omega) ?_) | (refine callF_pure (hf _) ?_) | (refine callQF_pure (hf _) (by first | rfl | simp -implicitDefEqProofs (disch := omega) only [L17, dT_lt, dF_lt, dT_le, dF_le, dT_eq, dF_eq, push_cast, ↓reduceIte, Nat.reduceEqDiff, reduceCtorEq, Nat.reduceAdd, Nat.reduceSub, Nat.reduceMul, Nat.reduceLeDiff, Nat.reduceLT, Nat.reduceMod, Nat.reduceDiv, Int.reduceToNat, Int.reduceLT, Int.reduceLE, Int.reduceEq, Int.reduceAdd, Int.reduceSub, Int.reduceNeg, Int.reduceMul, Bool.and_self]) ?_) | simp -implicitDefEqProofs (disch := omega) only [L17, dT_lt, dF_lt, dT_le, dF_le, dT_eq, dF_eq, push_cast, ↓reduceIte, Nat.reduceEqDiff, reduceCtorEq, Nat.reduceAdd, Nat.reduceSub, Nat.reduceMul, Nat.reduceLeDiff, Nat.reduceLT, Nat.reduceMod, Nat.reduceDiv, Int.reduceToNat, Int.reduceLT, Int.reduceLE, Int.reduceEq, Int.reduceAdd, Int.reduceSub, Int.reduceNeg, Int.reduceMul, Bool.and_self] | split)
theorem invR (s : List UInt8) (l : List Re) (hs : s.length ≤ 300) (hl : Fewr l) (h0 : fitsF s.length l = 0) (H : AHeap) : Comp' 17 [str s, .sl 3 (l.map reR)] H (.tup [.sl 3 ((invG s 0 l).map reR), int 0]) := by
  refine ACall.drop (R := fun x => x = .tup [.sl 3 ((invG s 0 l).map reR), int 0]) ?_
  refine enter Try.func17 L17_ok (Nat.le_of_ble_eq_true rfl) ?_
  have hf := fun H => appR s l hs hl H
  rw [h0] at hf
  have z0 : fitsG s.length 0 l = 0 := by unfold fitsF at h0; split at h0 <;> omega
  have hO := ord_of_fits z0
  obtain ⟨hl1, hl2⟩ := hl
  clear h0
  repeat' (first | (refine And.intro (by omega) ?_) | (refine callF_pure (hf _) ?_) | (refine callQF_pure (hf _) (by first | rfl | simp -implicitDefEqProofs (disch := omega) only [L17, dT_lt, dF_lt, dT_le, dF_le, dT_eq, dF_eq, push_cast, ↓reduceIte, Nat.reduceEqDiff, reduceCtorEq, Nat.reduceAdd, Nat.reduceSub, Nat.reduceMul, Nat.reduceLeDiff, Nat.reduceLT, Nat.reduceMod, Nat.reduceDiv, Int.reduceToNat, Int.reduceLT, Int.reduceLE, Int.reduceEq, Int.reduceAdd, Int.reduceSub, Int.reduceNeg, Int.reduceMul, Bool.and_self]) ?_) | simp -implicitDefEqProofs (disch := omega) only [L17, dT_lt, dF_lt, dT_le, dF_le, dT_eq, dF_eq, push_cast, ↓reduceIte, Nat.reduceEqDiff, reduceCtorEq, Nat.reduceAdd, Nat.reduceSub, Nat.reduceMul, Nat.reduceLeDiff, Nat.reduceLT, Nat.reduceMod, Nat.reduceDiv, Int.reduceToNat, Int.reduceLT, Int.reduceLE, Int.reduceEq, Int.reduceAdd, Int.reduceSub, Int.reduceNeg, Int.reduceMul, Bool.and_self] | split)
  refine rk_loopS (fun (st : Nat × Nat × Int × List Re) e' G => e' 0 = str s ∧ e' 1 = .sl 3 (l.map reR) ∧ e' 8 = .os H.length st.2.1 0 st.1 ∧ e' 9 = int st.2.2.1 ∧ e' 10 = int st.1 ∧ G = H ++ [.arr st.2.1 3 (st.2.2.2.map reR)] ∧ st.1 ≤ l.length ∧ st.2.2.2.length = st.1 ∧ st.2.2.2 ++ invG s st.2.2.1 (l.drop st.1) = invG s 0 l ∧ -200000 * (st.1 : Int) ≤ st.2.2.1 ∧ st.2.2.1 ≤ 1000 * (st.1 : Int)) (fun st => l.length - st.1) (0, 0, 0, []) ?_ ?_
  · exact ⟨rfl, rfl, rfl, rfl, rfl, rfl, Nat.zero_le _, rfl, rfl, by simp, by simp⟩
  rintro ⟨j, v, sh, pre⟩ e' G ⟨h0, h1, h8, h9, h10, rfl, hj, hpl, hg, hb1, hb2⟩
  simp only at h8 h9 h10 hj hg hb1 hb2 hpl
  by_cases hlt : j < l.length
  · have hjl : (j : Int) < l.length := by omega
    have hx := hl2 _ (getD_mem' hlt)
    obtain ⟨a1, a2, a3, a4⟩ := ord_at hO hlt
    rw [invG_step hlt] at hg
    repeat' (first | (with_reducible refine And.intro ?_ ?_; focus omega) | simp -implicitDefEqProofs (disch := omega) only [h0, h1, h8, h9, h10, rows_getD, re_len, re_take, re_drop1, re_drop2, re_drop3, re_c1s, re_cl, re_cells, re_agg, splice, List.append_nil, dT_lt, dF_lt, dT_le, dF_le, dT_eq, dF_eq, push_cast, ↓reduceIte, Nat.reduceEqDiff, reduceCtorEq, Nat.reduceAdd, Nat.reduceSub, Nat.reduceMul, Nat.reduceLeDiff, Nat.reduceLT, Nat.reduceMod, Nat.reduceDiv, Int.reduceToNat, Int.reduceLT, Int.reduceLE, Int.reduceEq, Int.reduceAdd, Int.reduceSub, Int.reduceNeg, Int.reduceMul, Bool.and_self] | split)
    refine .mk (j + 1, v + 1, sh + (((l.getD j default).x.length : Int) - ((l.getD j default).e - (l.getD j default).a)), pre ++ [⟨(l.getD j default).a + sh, (l.getD j default).a + sh + (l.getD j default).x.length, (s.take (l.getD j default).e.toNat).drop (l.getD j default).a.toNat⟩]) ⟨h0, h1, rfl, intc rfl (by simp only; omega), rfl, ?_, hlt, by simp [hpl], by rw [← hg]; simp, by simp only; push_cast; omega, by simp only; push_cast; omega⟩ (by simp only; omega)
    rw [List.take_of_length_le (by simp [hpl]), List.drop_take]
    simp only [List.map_append]
    rfl
  · have e : j = l.length := by omega
    subst e
    rw [List.drop_length] at hg
    simp only [invG, List.append_nil] at hg
    repeat' (first | (refine And.intro (by omega) ?_) | simp -implicitDefEqProofs (disch := omega) only [h0, h1, h8, h9, h10, dT_lt, dF_lt, dT_le, dF_le, dT_eq, dF_eq, push_cast, ↓reduceIte, Nat.reduceEqDiff, reduceCtorEq, Nat.reduceAdd, Nat.reduceSub, Nat.reduceMul, Nat.reduceLeDiff, Nat.reduceLT, Nat.reduceMod, Nat.reduceDiv, Int.reduceToNat, Int.reduceLT, Int.reduceLE, Int.reduceEq, Int.reduceAdd, Int.reduceSub, Int.reduceNeg, Int.reduceMul, Bool.and_self] | split)
    rw [List.take_of_length_le (by simp [hpl]), hg]
    exact ⟨rfl, _, rfl⟩
#print axioms invR
end Go.Proofs.Ytiibbkbcebccnaa

/- Texts: the laws TextReplaces and TextUndo. -/
namespace Go.Proofs.Ytiibbkbcebccnaa
open Go Go.Ax Go.RowKit
set_option maxRecDepth 100000
set_option linter.unusedSimpArgs false
set_option linter.unusedVariables false

theorem textReplaces (s : List UInt8) (l : List Re) (t : Int) (hll : l.length ≤ 9223372036854775807) (H : AHeap) : Comp' 5 [str s, .sl 3 (l.map reR), int t] H (bool true) := by
  refine enter Try.func5 L5_ok (Nat.le_of_ble_eq_true rfl) ?_
  have c0 := fun H => fewC l hll H
  by_cases ha : s.length ≤ 300
  · by_cases hb : fewF l = true
    · rw [hb] at c0
      obtain ⟨hfw, hsh⟩ := fewF_Fewr hb
      have c1 := fun H => appT s l (by omega) hfw H
      have c2 := fun H => appR s l ha hfw H
      have c5 := fun H => movT l t hfw H
      have c6 := fun H => movR l t hfw H
      by_cases hf : fitsF s.length l = 0
      · have c3 := fun H => invT s l (by omega) hfw hf H
        have c4 := fun H => invR s l ha hfw hf H
        have c7 := fun H => sameC (invG s 0 l) (by rw [invG_len]; exact hll) H
        rw [hf] at c1 c2
        repeat' (first | (refine And.intro (by omega) ?_) | (refine callF_pure (c0 _) ?_) | (refine callF_pure (c1 _) ?_) | (refine callF_pure (c2 _) ?_) | (refine callF_pure (c3 _) ?_) | (refine callF_pure (c4 _) ?_) | (refine callF_pure (c5 _) ?_) | (refine callF_pure (c6 _) ?_) | (refine callF_pure (c7 _) ?_) | (refine callF_pure (awakeC _) ?_) | (refine callQF_pure (c0 _) (by first | rfl | simp -implicitDefEqProofs (disch := omega) only [L5, dT_lt, dF_lt, dT_le, dF_le, dT_eq, dF_eq, push_cast, ↓reduceIte, Nat.reduceEqDiff, reduceCtorEq, Nat.reduceAdd, Nat.reduceSub, Nat.reduceMul, Nat.reduceLeDiff, Nat.reduceLT, Nat.reduceMod, Nat.reduceDiv, Int.reduceToNat, Int.reduceLT, Int.reduceLE, Int.reduceEq, Int.reduceAdd, Int.reduceSub, Int.reduceNeg, Int.reduceMul, Bool.and_self]) ?_) | (refine callQF_pure (c1 _) (by first | rfl | simp -implicitDefEqProofs (disch := omega) only [L5, dT_lt, dF_lt, dT_le, dF_le, dT_eq, dF_eq, push_cast, ↓reduceIte, Nat.reduceEqDiff, reduceCtorEq, Nat.reduceAdd, Nat.reduceSub, Nat.reduceMul, Nat.reduceLeDiff, Nat.reduceLT, Nat.reduceMod, Nat.reduceDiv, Int.reduceToNat, Int.reduceLT, Int.reduceLE, Int.reduceEq, Int.reduceAdd, Int.reduceSub, Int.reduceNeg, Int.reduceMul, Bool.and_self]) ?_) | (refine callQF_pure (c2 _) (by first | rfl | simp -implicitDefEqProofs (disch := omega) only [L5, dT_lt, dF_lt, dT_le, dF_le, dT_eq, dF_eq, push_cast, ↓reduceIte, Nat.reduceEqDiff, reduceCtorEq, Nat.reduceAdd, Nat.reduceSub, Nat.reduceMul, Nat.reduceLeDiff, Nat.reduceLT, Nat.reduceMod, Nat.reduceDiv, Int.reduceToNat, Int.reduceLT, Int.reduceLE, Int.reduceEq, Int.reduceAdd, Int.reduceSub, Int.reduceNeg, Int.reduceMul, Bool.and_self]) ?_) | (refine callQF_pure (c3 _) (by first | rfl | simp -implicitDefEqProofs (disch := omega) only [L5, dT_lt, dF_lt, dT_le, dF_le, dT_eq, dF_eq, push_cast, ↓reduceIte, Nat.reduceEqDiff, reduceCtorEq, Nat.reduceAdd, Nat.reduceSub, Nat.reduceMul, Nat.reduceLeDiff, Nat.reduceLT, Nat.reduceMod, Nat.reduceDiv, Int.reduceToNat, Int.reduceLT, Int.reduceLE, Int.reduceEq, Int.reduceAdd, Int.reduceSub, Int.reduceNeg, Int.reduceMul, Bool.and_self]) ?_) | (refine callQF_pure (c4 _) (by first | rfl | simp -implicitDefEqProofs (disch := omega) only [L5, dT_lt, dF_lt, dT_le, dF_le, dT_eq, dF_eq, push_cast, ↓reduceIte, Nat.reduceEqDiff, reduceCtorEq, Nat.reduceAdd, Nat.reduceSub, Nat.reduceMul, Nat.reduceLeDiff, Nat.reduceLT, Nat.reduceMod, Nat.reduceDiv, Int.reduceToNat, Int.reduceLT, Int.reduceLE, Int.reduceEq, Int.reduceAdd, Int.reduceSub, Int.reduceNeg, Int.reduceMul, Bool.and_self]) ?_) | (refine callQF_pure (c5 _) (by first | rfl | simp -implicitDefEqProofs (disch := omega) only [L5, dT_lt, dF_lt, dT_le, dF_le, dT_eq, dF_eq, push_cast, ↓reduceIte, Nat.reduceEqDiff, reduceCtorEq, Nat.reduceAdd, Nat.reduceSub, Nat.reduceMul, Nat.reduceLeDiff, Nat.reduceLT, Nat.reduceMod, Nat.reduceDiv, Int.reduceToNat, Int.reduceLT, Int.reduceLE, Int.reduceEq, Int.reduceAdd, Int.reduceSub, Int.reduceNeg, Int.reduceMul, Bool.and_self]) ?_) | (refine callQF_pure (c6 _) (by first | rfl | simp -implicitDefEqProofs (disch := omega) only [L5, dT_lt, dF_lt, dT_le, dF_le, dT_eq, dF_eq, push_cast, ↓reduceIte, Nat.reduceEqDiff, reduceCtorEq, Nat.reduceAdd, Nat.reduceSub, Nat.reduceMul, Nat.reduceLeDiff, Nat.reduceLT, Nat.reduceMod, Nat.reduceDiv, Int.reduceToNat, Int.reduceLT, Int.reduceLE, Int.reduceEq, Int.reduceAdd, Int.reduceSub, Int.reduceNeg, Int.reduceMul, Bool.and_self]) ?_) | (refine callQF_pure (c7 _) (by first | rfl | simp -implicitDefEqProofs (disch := omega) only [L5, dT_lt, dF_lt, dT_le, dF_le, dT_eq, dF_eq, push_cast, ↓reduceIte, Nat.reduceEqDiff, reduceCtorEq, Nat.reduceAdd, Nat.reduceSub, Nat.reduceMul, Nat.reduceLeDiff, Nat.reduceLT, Nat.reduceMod, Nat.reduceDiv, Int.reduceToNat, Int.reduceLT, Int.reduceLE, Int.reduceEq, Int.reduceAdd, Int.reduceSub, Int.reduceNeg, Int.reduceMul, Bool.and_self]) ?_) | (refine callQF_pure (awakeC _) (by first | rfl | simp -implicitDefEqProofs (disch := omega) only [L5, dT_lt, dF_lt, dT_le, dF_le, dT_eq, dF_eq, push_cast, ↓reduceIte, Nat.reduceEqDiff, reduceCtorEq, Nat.reduceAdd, Nat.reduceSub, Nat.reduceMul, Nat.reduceLeDiff, Nat.reduceLT, Nat.reduceMod, Nat.reduceDiv, Int.reduceToNat, Int.reduceLT, Int.reduceLE, Int.reduceEq, Int.reduceAdd, Int.reduceSub, Int.reduceNeg, Int.reduceMul, Bool.and_self]) ?_) | simp -implicitDefEqProofs (disch := omega) only [L5, dT_lt, dF_lt, dT_le, dF_le, dT_eq, dF_eq, push_cast, ↓reduceIte, Nat.reduceEqDiff, reduceCtorEq, Nat.reduceAdd, Nat.reduceSub, Nat.reduceMul, Nat.reduceLeDiff, Nat.reduceLT, Nat.reduceMod, Nat.reduceDiv, Int.reduceToNat, Int.reduceLT, Int.reduceLE, Int.reduceEq, Int.reduceAdd, Int.reduceSub, Int.reduceNeg, Int.reduceMul, Bool.and_self] | split)
      · have c3 := fun H => invTn s l (by omega) hfw hf H
        have c4 := fun H => invRn s l ha hfw hf H
        repeat' (first | (refine And.intro (by omega) ?_) | (refine callF_pure (c0 _) ?_) | (refine callF_pure (c1 _) ?_) | (refine callF_pure (c2 _) ?_) | (refine callF_pure (c3 _) ?_) | (refine callF_pure (c4 _) ?_) | (refine callF_pure (c5 _) ?_) | (refine callF_pure (c6 _) ?_) | (refine callF_pure (sameNil _) ?_) | (refine callF_pure (awakeC _) ?_) | (refine callQF_pure (c0 _) (by first | rfl | simp -implicitDefEqProofs (disch := omega) only [L5, dT_lt, dF_lt, dT_le, dF_le, dT_eq, dF_eq, push_cast, ↓reduceIte, Nat.reduceEqDiff, reduceCtorEq, Nat.reduceAdd, Nat.reduceSub, Nat.reduceMul, Nat.reduceLeDiff, Nat.reduceLT, Nat.reduceMod, Nat.reduceDiv, Int.reduceToNat, Int.reduceLT, Int.reduceLE, Int.reduceEq, Int.reduceAdd, Int.reduceSub, Int.reduceNeg, Int.reduceMul, Bool.and_self]) ?_) | (refine callQF_pure (c1 _) (by first | rfl | simp -implicitDefEqProofs (disch := omega) only [L5, dT_lt, dF_lt, dT_le, dF_le, dT_eq, dF_eq, push_cast, ↓reduceIte, Nat.reduceEqDiff, reduceCtorEq, Nat.reduceAdd, Nat.reduceSub, Nat.reduceMul, Nat.reduceLeDiff, Nat.reduceLT, Nat.reduceMod, Nat.reduceDiv, Int.reduceToNat, Int.reduceLT, Int.reduceLE, Int.reduceEq, Int.reduceAdd, Int.reduceSub, Int.reduceNeg, Int.reduceMul, Bool.and_self]) ?_) | (refine callQF_pure (c2 _) (by first | rfl | simp -implicitDefEqProofs (disch := omega) only [L5, dT_lt, dF_lt, dT_le, dF_le, dT_eq, dF_eq, push_cast, ↓reduceIte, Nat.reduceEqDiff, reduceCtorEq, Nat.reduceAdd, Nat.reduceSub, Nat.reduceMul, Nat.reduceLeDiff, Nat.reduceLT, Nat.reduceMod, Nat.reduceDiv, Int.reduceToNat, Int.reduceLT, Int.reduceLE, Int.reduceEq, Int.reduceAdd, Int.reduceSub, Int.reduceNeg, Int.reduceMul, Bool.and_self]) ?_) | (refine callQF_pure (c3 _) (by first | rfl | simp -implicitDefEqProofs (disch := omega) only [L5, dT_lt, dF_lt, dT_le, dF_le, dT_eq, dF_eq, push_cast, ↓reduceIte, Nat.reduceEqDiff, reduceCtorEq, Nat.reduceAdd, Nat.reduceSub, Nat.reduceMul, Nat.reduceLeDiff, Nat.reduceLT, Nat.reduceMod, Nat.reduceDiv, Int.reduceToNat, Int.reduceLT, Int.reduceLE, Int.reduceEq, Int.reduceAdd, Int.reduceSub, Int.reduceNeg, Int.reduceMul, Bool.and_self]) ?_) | (refine callQF_pure (c4 _) (by first | rfl | simp -implicitDefEqProofs (disch := omega) only [L5, dT_lt, dF_lt, dT_le, dF_le, dT_eq, dF_eq, push_cast, ↓reduceIte, Nat.reduceEqDiff, reduceCtorEq, Nat.reduceAdd, Nat.reduceSub, Nat.reduceMul, Nat.reduceLeDiff, Nat.reduceLT, Nat.reduceMod, Nat.reduceDiv, Int.reduceToNat, Int.reduceLT, Int.reduceLE, Int.reduceEq, Int.reduceAdd, Int.reduceSub, Int.reduceNeg, Int.reduceMul, Bool.and_self]) ?_) | (refine callQF_pure (c5 _) (by first | rfl | simp -implicitDefEqProofs (disch := omega) only [L5, dT_lt, dF_lt, dT_le, dF_le, dT_eq, dF_eq, push_cast, ↓reduceIte, Nat.reduceEqDiff, reduceCtorEq, Nat.reduceAdd, Nat.reduceSub, Nat.reduceMul, Nat.reduceLeDiff, Nat.reduceLT, Nat.reduceMod, Nat.reduceDiv, Int.reduceToNat, Int.reduceLT, Int.reduceLE, Int.reduceEq, Int.reduceAdd, Int.reduceSub, Int.reduceNeg, Int.reduceMul, Bool.and_self]) ?_) | (refine callQF_pure (c6 _) (by first | rfl | simp -implicitDefEqProofs (disch := omega) only [L5, dT_lt, dF_lt, dT_le, dF_le, dT_eq, dF_eq, push_cast, ↓reduceIte, Nat.reduceEqDiff, reduceCtorEq, Nat.reduceAdd, Nat.reduceSub, Nat.reduceMul, Nat.reduceLeDiff, Nat.reduceLT, Nat.reduceMod, Nat.reduceDiv, Int.reduceToNat, Int.reduceLT, Int.reduceLE, Int.reduceEq, Int.reduceAdd, Int.reduceSub, Int.reduceNeg, Int.reduceMul, Bool.and_self]) ?_) | (refine callQF_pure (sameNil _) (by first | rfl | simp -implicitDefEqProofs (disch := omega) only [L5, dT_lt, dF_lt, dT_le, dF_le, dT_eq, dF_eq, push_cast, ↓reduceIte, Nat.reduceEqDiff, reduceCtorEq, Nat.reduceAdd, Nat.reduceSub, Nat.reduceMul, Nat.reduceLeDiff, Nat.reduceLT, Nat.reduceMod, Nat.reduceDiv, Int.reduceToNat, Int.reduceLT, Int.reduceLE, Int.reduceEq, Int.reduceAdd, Int.reduceSub, Int.reduceNeg, Int.reduceMul, Bool.and_self]) ?_) | (refine callQF_pure (awakeC _) (by first | rfl | simp -implicitDefEqProofs (disch := omega) only [L5, dT_lt, dF_lt, dT_le, dF_le, dT_eq, dF_eq, push_cast, ↓reduceIte, Nat.reduceEqDiff, reduceCtorEq, Nat.reduceAdd, Nat.reduceSub, Nat.reduceMul, Nat.reduceLeDiff, Nat.reduceLT, Nat.reduceMod, Nat.reduceDiv, Int.reduceToNat, Int.reduceLT, Int.reduceLE, Int.reduceEq, Int.reduceAdd, Int.reduceSub, Int.reduceNeg, Int.reduceMul, Bool.and_self]) ?_) | simp -implicitDefEqProofs (disch := omega) only [L5, dT_lt, dF_lt, dT_le, dF_le, dT_eq, dF_eq, push_cast, ↓reduceIte, Nat.reduceEqDiff, reduceCtorEq, Nat.reduceAdd, Nat.reduceSub, Nat.reduceMul, Nat.reduceLeDiff, Nat.reduceLT, Nat.reduceMod, Nat.reduceDiv, Int.reduceToNat, Int.reduceLT, Int.reduceLE, Int.reduceEq, Int.reduceAdd, Int.reduceSub, Int.reduceNeg, Int.reduceMul, Bool.and_self] | split)
    · rw [Bool.not_eq_true] at hb
      rw [hb] at c0
      repeat' (first | (refine And.intro (by omega) ?_) | (refine callF_pure (c0 _) ?_) | (refine callF_pure (awakeC _) ?_) | (refine callQF_pure (c0 _) (by first | rfl | simp -implicitDefEqProofs (disch := omega) only [L5, dT_lt, dF_lt, dT_le, dF_le, dT_eq, dF_eq, push_cast, ↓reduceIte, Nat.reduceEqDiff, reduceCtorEq, Nat.reduceAdd, Nat.reduceSub, Nat.reduceMul, Nat.reduceLeDiff, Nat.reduceLT, Nat.reduceMod, Nat.reduceDiv, Int.reduceToNat, Int.reduceLT, Int.reduceLE, Int.reduceEq, Int.reduceAdd, Int.reduceSub, Int.reduceNeg, Int.reduceMul, Bool.and_self]) ?_) | (refine callQF_pure (awakeC _) (by first | rfl | simp -implicitDefEqProofs (disch := omega) only [L5, dT_lt, dF_lt, dT_le, dF_le, dT_eq, dF_eq, push_cast, ↓reduceIte, Nat.reduceEqDiff, reduceCtorEq, Nat.reduceAdd, Nat.reduceSub, Nat.reduceMul, Nat.reduceLeDiff, Nat.reduceLT, Nat.reduceMod, Nat.reduceDiv, Int.reduceToNat, Int.reduceLT, Int.reduceLE, Int.reduceEq, Int.reduceAdd, Int.reduceSub, Int.reduceNeg, Int.reduceMul, Bool.and_self]) ?_) | simp -implicitDefEqProofs (disch := omega) only [L5, dT_lt, dF_lt, dT_le, dF_le, dT_eq, dF_eq, push_cast, ↓reduceIte, Nat.reduceEqDiff, reduceCtorEq, Nat.reduceAdd, Nat.reduceSub, Nat.reduceMul, Nat.reduceLeDiff, Nat.reduceLT, Nat.reduceMod, Nat.reduceDiv, Int.reduceToNat, Int.reduceLT, Int.reduceLE, Int.reduceEq, Int.reduceAdd, Int.reduceSub, Int.reduceNeg, Int.reduceMul, Bool.and_self] | split)
  · repeat' (first | (refine And.intro (by omega) ?_) | (refine callF_pure (awakeC _) ?_) | (refine callQF_pure (awakeC _) (by first | rfl | simp -implicitDefEqProofs (disch := omega) only [L5, dT_lt, dF_lt, dT_le, dF_le, dT_eq, dF_eq, push_cast, ↓reduceIte, Nat.reduceEqDiff, reduceCtorEq, Nat.reduceAdd, Nat.reduceSub, Nat.reduceMul, Nat.reduceLeDiff, Nat.reduceLT, Nat.reduceMod, Nat.reduceDiv, Int.reduceToNat, Int.reduceLT, Int.reduceLE, Int.reduceEq, Int.reduceAdd, Int.reduceSub, Int.reduceNeg, Int.reduceMul, Bool.and_self]) ?_) | simp -implicitDefEqProofs (disch := omega) only [L5, dT_lt, dF_lt, dT_le, dF_le, dT_eq, dF_eq, push_cast, ↓reduceIte, Nat.reduceEqDiff, reduceCtorEq, Nat.reduceAdd, Nat.reduceSub, Nat.reduceMul, Nat.reduceLeDiff, Nat.reduceLT, Nat.reduceMod, Nat.reduceDiv, Int.reduceToNat, Int.reduceLT, Int.reduceLE, Int.reduceEq, Int.reduceAdd, Int.reduceSub, Int.reduceNeg, Int.reduceMul, Bool.and_self] | split)
#print axioms textReplaces

theorem fits_of_ord {n : Int} : ∀ {l : List Re} {c : Int}, 0 ≤ c → Ord n c l → fitsG n c l = 0
  | [], _, _, _ => rfl
  | x :: l, c, hc, h => by
    obtain ⟨h1, h2, h3, h4⟩ := h
    simp only [fitsG]
    rw [if_neg (by omega), if_neg (by omega)]
    exact fits_of_ord (by omega) h4
theorem inv_all {s t : List UInt8} : ∀ {l : List Re} {c : Nat} {sh : Int} {P : List UInt8}, Ord s.length c l → c ≤ s.length → (P.length : Int) = c + sh → t = P ++ appG s c l →
    Ord t.length P.length (invG s sh l) ∧ appG t P.length (invG s sh l) = s.drop c ∧ invG t (-sh) (invG s sh l) = l
  | [], c, sh, P, _, hc, hP, ht => by
    refine ⟨trivial, ?_, rfl⟩
    simp only [invG, appG]
    rw [ht, List.drop_left]
    rfl
  | x :: l, c, sh, P, h, hc, hP, ht => by
    obtain ⟨h1, h2, h3, h4⟩ := h
    obtain ⟨a, ha⟩ : ∃ a : Nat, x.a = a := ⟨x.a.toNat, by omega⟩
    obtain ⟨e, he⟩ : ∃ e : Nat, x.e = e := ⟨x.e.toNat, by omega⟩
    rw [ha] at h1 h2
    rw [he] at h2 h3 h4
    simp only [appG, ha, he, Int.toNat_natCast] at ht
    have hm : ((s.take a).drop c).length = a - c := by rw [List.length_drop, List.length_take]; omega
    have hP2 : ((P ++ (s.take a).drop c ++ x.x).length : Int) = (e : Int) + (sh + ((x.x.length : Int) - ((e : Int) - a))) := by
      rw [List.length_append, List.length_append, hm]; omega
    have ht2 : t = (P ++ (s.take a).drop c ++ x.x) ++ appG s e l := by rw [ht]; simp
    obtain ⟨i1, i2, i3⟩ := inv_all h4 (by omega) hP2 ht2
    have hl1 : (P ++ (s.take a).drop c).length = P.length + (a - c) := by rw [List.length_append, hm]
    have hq : ((a : Int) + sh) = ((P ++ (s.take a).drop c).length : Nat) := by rw [hl1]; omega
    have hq2 : ((a : Int) + sh + x.x.length) = ((P ++ (s.take a).drop c ++ x.x).length : Nat) := by rw [List.length_append]; omega
    have htl : (P ++ (s.take a).drop c ++ x.x).length ≤ t.length := by have := congrArg List.length ht2; rw [List.length_append] at this; omega
    simp only [invG, ha, he, Int.toNat_natCast]
    rw [hq2, hq]
    refine ⟨⟨by rw [hl1]; simp only; omega, by rw [List.length_append (bs := x.x)]; simp only; omega, by simp only; omega, i1⟩, ?_, ?_⟩
    · simp only [appG, Int.toNat_natCast]
      rw [i2]
      have e1 : (t.take (P ++ (s.take a).drop c).length).drop P.length = (s.take a).drop c := by
        rw [ht2, List.append_assoc (P ++ (s.take a).drop c), List.take_left, List.drop_left]
      rw [e1]
      have e2 : s.drop e = (s.drop a).drop (e - a) := by rw [List.drop_drop]; congr 1; omega
      have e3 : (s.take e).drop a = (s.drop a).take (e - a) := by rw [List.drop_take]
      rw [e2, e3, List.take_append_drop]
      have e4 : s.drop c = ((s.take a) ++ s.drop a).drop c := by rw [List.take_append_drop]
      rw [e4, List.drop_append_of_le_length (by rw [List.length_take]; omega)]
    · have e5 : ((s.take e).drop a).length = e - a := by rw [List.length_drop, List.length_take]; omega
      rw [← hq, ← hq2]
      simp only [invG, e5]
      have e6 : (t.take ((a : Int) + sh + x.x.length).toNat).drop ((a : Int) + sh).toNat = x.x := by
        rw [hq2, hq, Int.toNat_natCast, Int.toNat_natCast, ht2, List.take_left, List.drop_left]
      rw [e6]
      have e7 : -sh + (((e - a : Nat) : Int) - ((a : Int) + sh + x.x.length - ((a : Int) + sh))) = -(sh + ((x.x.length : Int) - ((e : Int) - a))) := by omega
      rw [e7, i3]
      congr 1
      obtain ⟨xa, xe, xx⟩ := x
      simp only at ha he ⊢
      subst ha he
      simp only [Re.mk.injEq, and_true]
      omega

theorem inv_short (s : List UInt8) (hs : s.length ≤ 300) : ∀ (sh : Int) (l : List Re), ∀ x ∈ invG s sh l, x.x.length ≤ 1000
  | _, [], x, hx => by simp [invG] at hx
  | sh, y :: l, x, hx => by
    simp only [invG, List.mem_cons] at hx
    rcases hx with rfl | hx
    · simp only [List.length_drop, List.length_take]; omega
    · exact inv_short s hs _ l x hx
theorem textUndo (s : List UInt8) (l : List Re) (hll : l.length ≤ 9223372036854775807) (H : AHeap) : Comp' 6 [str s, .sl 3 (l.map reR)] H (bool true) := by
  refine enter Try.func6 L6_ok (Nat.le_of_ble_eq_true rfl) ?_
  have c0 := fun H => fewC l hll H
  by_cases ha : s.length ≤ 300
  · by_cases hb : fewF l = true
    · rw [hb] at c0
      obtain ⟨hfw, hsh⟩ := fewF_Fewr hb
      have c1 := fun H => appT s l (by omega) hfw H
      by_cases hf : fitsF s.length l = 0
      · have c3 := fun H => invT s l (by omega) hfw hf H
        have z0 : fitsG s.length 0 l = 0 := by unfold fitsF at hf; split at hf <;> omega
        have hO := ord_of_fits z0
        have hA : appF s l = appG s 0 l := by unfold appF; rw [if_pos hf]
        have htl : (appG s 0 l).length ≤ 16384 := by
          have h1 := appG_len (c := 0) hO (Nat.zero_le _)
          unfold fitsF at hf
          rw [z0] at hf
          simp only [ne_eq, not_true_eq_false, if_false] at hf
          split at hf <;> omega
        obtain ⟨i1, i2, i3⟩ := inv_all (sh := 0) (P := []) (c := 0) hO (Nat.zero_le _) rfl rfl
        rw [List.nil_append] at i1 i2 i3
        rw [hf, hA] at c1
        have hfb : Fewr (invG s 0 l) := ⟨by rw [invG_len]; exact hfw.1, inv_short s ha 0 l⟩
        have hf2 : fitsF (appG s 0 l).length (invG s 0 l) = 0 := by
          have z2 := fits_of_ord (Int.le_refl 0) i1
          have h2 := appG_len (c := 0) i1 (Nat.zero_le _)
          rw [show appG (appG s 0 l) 0 (invG s 0 l) = s from i2] at h2
          unfold fitsF
          rw [show fitsG (appG s 0 l).length 0 (invG s 0 l) = 0 from z2, if_neg (by simp), if_neg (by omega)]
        have hA2 : appF (appG s 0 l) (invG s 0 l) = s := by unfold appF; rw [if_pos hf2]; exact i2
        have c4 := fun H => appT (appG s 0 l) (invG s 0 l) (by omega) hfb H
        have c5 := fun H => invT (appG s 0 l) (invG s 0 l) (by omega) hfb hf2 H
        rw [hf2, hA2] at c4
        rw [show invG (appG s 0 l) 0 (invG s 0 l) = l from i3] at c5
        have c7 := fun H => sameC l hll H
        generalize appG s 0 l = t at *
        generalize hbk : invG s 0 l = bk at *
        repeat' (first | (refine And.intro (by omega) ?_) | (refine callF_pure (c0 _) ?_) | (refine callF_pure (c1 _) ?_) | (refine callF_pure (c3 _) ?_) | (refine callF_pure (c4 _) ?_) | (refine callF_pure (c5 _) ?_) | (refine callF_pure (c7 _) ?_) | (refine callF_pure (awakeC _) ?_) | (refine callQF_pure (c0 _) (by first | rfl | simp -implicitDefEqProofs (disch := omega) only [L6, dT_lt, dF_lt, dT_le, dF_le, dT_eq, dF_eq, push_cast, ↓reduceIte, Nat.reduceEqDiff, reduceCtorEq, Nat.reduceAdd, Nat.reduceSub, Nat.reduceMul, Nat.reduceLeDiff, Nat.reduceLT, Nat.reduceMod, Nat.reduceDiv, Int.reduceToNat, Int.reduceLT, Int.reduceLE, Int.reduceEq, Int.reduceAdd, Int.reduceSub, Int.reduceNeg, Int.reduceMul, Bool.and_self]) ?_) | (refine callQF_pure (c1 _) (by first | rfl | simp -implicitDefEqProofs (disch := omega) only [L6, dT_lt, dF_lt, dT_le, dF_le, dT_eq, dF_eq, push_cast, ↓reduceIte, Nat.reduceEqDiff, reduceCtorEq, Nat.reduceAdd, Nat.reduceSub, Nat.reduceMul, Nat.reduceLeDiff, Nat.reduceLT, Nat.reduceMod, Nat.reduceDiv, Int.reduceToNat, Int.reduceLT, Int.reduceLE, Int.reduceEq, Int.reduceAdd, Int.reduceSub, Int.reduceNeg, Int.reduceMul, Bool.and_self]) ?_) | (refine callQF_pure (c3 _) (by first | rfl | simp -implicitDefEqProofs (disch := omega) only [L6, dT_lt, dF_lt, dT_le, dF_le, dT_eq, dF_eq, push_cast, ↓reduceIte, Nat.reduceEqDiff, reduceCtorEq, Nat.reduceAdd, Nat.reduceSub, Nat.reduceMul, Nat.reduceLeDiff, Nat.reduceLT, Nat.reduceMod, Nat.reduceDiv, Int.reduceToNat, Int.reduceLT, Int.reduceLE, Int.reduceEq, Int.reduceAdd, Int.reduceSub, Int.reduceNeg, Int.reduceMul, Bool.and_self]) ?_) | (refine callQF_pure (c4 _) (by first | rfl | simp -implicitDefEqProofs (disch := omega) only [L6, dT_lt, dF_lt, dT_le, dF_le, dT_eq, dF_eq, push_cast, ↓reduceIte, Nat.reduceEqDiff, reduceCtorEq, Nat.reduceAdd, Nat.reduceSub, Nat.reduceMul, Nat.reduceLeDiff, Nat.reduceLT, Nat.reduceMod, Nat.reduceDiv, Int.reduceToNat, Int.reduceLT, Int.reduceLE, Int.reduceEq, Int.reduceAdd, Int.reduceSub, Int.reduceNeg, Int.reduceMul, Bool.and_self]) ?_) | (refine callQF_pure (c5 _) (by first | rfl | simp -implicitDefEqProofs (disch := omega) only [L6, dT_lt, dF_lt, dT_le, dF_le, dT_eq, dF_eq, push_cast, ↓reduceIte, Nat.reduceEqDiff, reduceCtorEq, Nat.reduceAdd, Nat.reduceSub, Nat.reduceMul, Nat.reduceLeDiff, Nat.reduceLT, Nat.reduceMod, Nat.reduceDiv, Int.reduceToNat, Int.reduceLT, Int.reduceLE, Int.reduceEq, Int.reduceAdd, Int.reduceSub, Int.reduceNeg, Int.reduceMul, Bool.and_self]) ?_) | (refine callQF_pure (c7 _) (by first | rfl | simp -implicitDefEqProofs (disch := omega) only [L6, dT_lt, dF_lt, dT_le, dF_le, dT_eq, dF_eq, push_cast, ↓reduceIte, Nat.reduceEqDiff, reduceCtorEq, Nat.reduceAdd, Nat.reduceSub, Nat.reduceMul, Nat.reduceLeDiff, Nat.reduceLT, Nat.reduceMod, Nat.reduceDiv, Int.reduceToNat, Int.reduceLT, Int.reduceLE, Int.reduceEq, Int.reduceAdd, Int.reduceSub, Int.reduceNeg, Int.reduceMul, Bool.and_self]) ?_) | (refine callQF_pure (awakeC _) (by first | rfl | simp -implicitDefEqProofs (disch := omega) only [L6, dT_lt, dF_lt, dT_le, dF_le, dT_eq, dF_eq, push_cast, ↓reduceIte, Nat.reduceEqDiff, reduceCtorEq, Nat.reduceAdd, Nat.reduceSub, Nat.reduceMul, Nat.reduceLeDiff, Nat.reduceLT, Nat.reduceMod, Nat.reduceDiv, Int.reduceToNat, Int.reduceLT, Int.reduceLE, Int.reduceEq, Int.reduceAdd, Int.reduceSub, Int.reduceNeg, Int.reduceMul, Bool.and_self]) ?_) | simp -implicitDefEqProofs (disch := omega) only [L6, dT_lt, dF_lt, dT_le, dF_le, dT_eq, dF_eq, push_cast, ↓reduceIte, Nat.reduceEqDiff, reduceCtorEq, Nat.reduceAdd, Nat.reduceSub, Nat.reduceMul, Nat.reduceLeDiff, Nat.reduceLT, Nat.reduceMod, Nat.reduceDiv, Int.reduceToNat, Int.reduceLT, Int.reduceLE, Int.reduceEq, Int.reduceAdd, Int.reduceSub, Int.reduceNeg, Int.reduceMul, Bool.and_self] | split)
      · have c3 := fun H => invTn s l (by omega) hfw hf H
        have hA : appF s l = [] := by unfold appF; rw [if_neg hf]
        rw [hA] at c1
        repeat' (first | (refine And.intro (by omega) ?_) | (refine callF_pure (c0 _) ?_) | (refine callF_pure (c1 _) ?_) | (refine callF_pure (c3 _) ?_) | (refine callF_pure (awakeC _) ?_) | (refine callQF_pure (c0 _) (by first | rfl | simp -implicitDefEqProofs (disch := omega) only [L6, dT_lt, dF_lt, dT_le, dF_le, dT_eq, dF_eq, push_cast, ↓reduceIte, Nat.reduceEqDiff, reduceCtorEq, Nat.reduceAdd, Nat.reduceSub, Nat.reduceMul, Nat.reduceLeDiff, Nat.reduceLT, Nat.reduceMod, Nat.reduceDiv, Int.reduceToNat, Int.reduceLT, Int.reduceLE, Int.reduceEq, Int.reduceAdd, Int.reduceSub, Int.reduceNeg, Int.reduceMul, Bool.and_self]) ?_) | (refine callQF_pure (c1 _) (by first | rfl | simp -implicitDefEqProofs (disch := omega) only [L6, dT_lt, dF_lt, dT_le, dF_le, dT_eq, dF_eq, push_cast, ↓reduceIte, Nat.reduceEqDiff, reduceCtorEq, Nat.reduceAdd, Nat.reduceSub, Nat.reduceMul, Nat.reduceLeDiff, Nat.reduceLT, Nat.reduceMod, Nat.reduceDiv, Int.reduceToNat, Int.reduceLT, Int.reduceLE, Int.reduceEq, Int.reduceAdd, Int.reduceSub, Int.reduceNeg, Int.reduceMul, Bool.and_self]) ?_) | (refine callQF_pure (c3 _) (by first | rfl | simp -implicitDefEqProofs (disch := omega) only [L6, dT_lt, dF_lt, dT_le, dF_le, dT_eq, dF_eq, push_cast, ↓reduceIte, Nat.reduceEqDiff, reduceCtorEq, Nat.reduceAdd, Nat.reduceSub, Nat.reduceMul, Nat.reduceLeDiff, Nat.reduceLT, Nat.reduceMod, Nat.reduceDiv, Int.reduceToNat, Int.reduceLT, Int.reduceLE, Int.reduceEq, Int.reduceAdd, Int.reduceSub, Int.reduceNeg, Int.reduceMul, Bool.and_self]) ?_) | (refine callQF_pure (awakeC _) (by first | rfl | simp -implicitDefEqProofs (disch := omega) only [L6, dT_lt, dF_lt, dT_le, dF_le, dT_eq, dF_eq, push_cast, ↓reduceIte, Nat.reduceEqDiff, reduceCtorEq, Nat.reduceAdd, Nat.reduceSub, Nat.reduceMul, Nat.reduceLeDiff, Nat.reduceLT, Nat.reduceMod, Nat.reduceDiv, Int.reduceToNat, Int.reduceLT, Int.reduceLE, Int.reduceEq, Int.reduceAdd, Int.reduceSub, Int.reduceNeg, Int.reduceMul, Bool.and_self]) ?_) | simp -implicitDefEqProofs (disch := omega) only [L6, dT_lt, dF_lt, dT_le, dF_le, dT_eq, dF_eq, push_cast, ↓reduceIte, Nat.reduceEqDiff, reduceCtorEq, Nat.reduceAdd, Nat.reduceSub, Nat.reduceMul, Nat.reduceLeDiff, Nat.reduceLT, Nat.reduceMod, Nat.reduceDiv, Int.reduceToNat, Int.reduceLT, Int.reduceLE, Int.reduceEq, Int.reduceAdd, Int.reduceSub, Int.reduceNeg, Int.reduceMul, Bool.and_self] | split)
    · rw [Bool.not_eq_true] at hb
      rw [hb] at c0
      repeat' (first | (refine And.intro (by omega) ?_) | (refine callF_pure (c0 _) ?_) | (refine callF_pure (awakeC _) ?_) | (refine callQF_pure (c0 _) (by first | rfl | simp -implicitDefEqProofs (disch := omega) only [L6, dT_lt, dF_lt, dT_le, dF_le, dT_eq, dF_eq, push_cast, ↓reduceIte, Nat.reduceEqDiff, reduceCtorEq, Nat.reduceAdd, Nat.reduceSub, Nat.reduceMul, Nat.reduceLeDiff, Nat.reduceLT, Nat.reduceMod, Nat.reduceDiv, Int.reduceToNat, Int.reduceLT, Int.reduceLE, Int.reduceEq, Int.reduceAdd, Int.reduceSub, Int.reduceNeg, Int.reduceMul, Bool.and_self]) ?_) | (refine callQF_pure (awakeC _) (by first | rfl | simp -implicitDefEqProofs (disch := omega) only [L6, dT_lt, dF_lt, dT_le, dF_le, dT_eq, dF_eq, push_cast, ↓reduceIte, Nat.reduceEqDiff, reduceCtorEq, Nat.reduceAdd, Nat.reduceSub, Nat.reduceMul, Nat.reduceLeDiff, Nat.reduceLT, Nat.reduceMod, Nat.reduceDiv, Int.reduceToNat, Int.reduceLT, Int.reduceLE, Int.reduceEq, Int.reduceAdd, Int.reduceSub, Int.reduceNeg, Int.reduceMul, Bool.and_self]) ?_) | simp -implicitDefEqProofs (disch := omega) only [L6, dT_lt, dF_lt, dT_le, dF_le, dT_eq, dF_eq, push_cast, ↓reduceIte, Nat.reduceEqDiff, reduceCtorEq, Nat.reduceAdd, Nat.reduceSub, Nat.reduceMul, Nat.reduceLeDiff, Nat.reduceLT, Nat.reduceMod, Nat.reduceDiv, Int.reduceToNat, Int.reduceLT, Int.reduceLE, Int.reduceEq, Int.reduceAdd, Int.reduceSub, Int.reduceNeg, Int.reduceMul, Bool.and_self] | split)
  · repeat' (first | (refine And.intro (by omega) ?_) | (refine callF_pure (awakeC _) ?_) | (refine callQF_pure (awakeC _) (by first | rfl | simp -implicitDefEqProofs (disch := omega) only [L6, dT_lt, dF_lt, dT_le, dF_le, dT_eq, dF_eq, push_cast, ↓reduceIte, Nat.reduceEqDiff, reduceCtorEq, Nat.reduceAdd, Nat.reduceSub, Nat.reduceMul, Nat.reduceLeDiff, Nat.reduceLT, Nat.reduceMod, Nat.reduceDiv, Int.reduceToNat, Int.reduceLT, Int.reduceLE, Int.reduceEq, Int.reduceAdd, Int.reduceSub, Int.reduceNeg, Int.reduceMul, Bool.and_self]) ?_) | simp -implicitDefEqProofs (disch := omega) only [L6, dT_lt, dF_lt, dT_le, dF_le, dT_eq, dF_eq, push_cast, ↓reduceIte, Nat.reduceEqDiff, reduceCtorEq, Nat.reduceAdd, Nat.reduceSub, Nat.reduceMul, Nat.reduceLeDiff, Nat.reduceLT, Nat.reduceMod, Nat.reduceDiv, Int.reduceToNat, Int.reduceLT, Int.reduceLE, Int.reduceEq, Int.reduceAdd, Int.reduceSub, Int.reduceNeg, Int.reduceMul, Bool.and_self] | split)
#print axioms textUndo
end Go.Proofs.Ytiibbkbcebccnaa
