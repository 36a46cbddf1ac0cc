/- Types, part 3: scalars. -/
import Derived.Test.YtdgmlepakippmaaTy2
namespace Go.Proofs.Ytdgmlepakippmaa
open Go Go.Ax
set_option maxRecDepth 100000
set_option linter.unusedSimpArgs false
set_option linter.unusedVariables false

/-- The scalars of a type that exists. -/
def scal1 (rs : List Rc) (t : Ty) : List Ty :=
  if t.k = 3 then List.replicate t.len.toNat tyI
  else if t.k = 4 then (match idxF rs t.rc with | some i => (rs.getD i default).fields.map fun f => scF f.ty | none => [])
  else [⟨t.k, 0, []⟩]
def scalV (rs : List Rc) (l : List Ty) : AV := if l.all (fun t => validF t rs) = true then .sl 3 ((l.flatMap (scal1 rs)).map tyR) else nilS
structure Few (rs : List Rc) : Prop where
  len : rs.length ≤ 20
  fields : ∀ r ∈ rs, r.fields.length ≤ 20
theorem scal1_len {rs : List Rc} {t : Ty} (hf : Few rs) (hv : validF t rs = true) : (scal1 rs t).length ≤ 20 := by
  unfold scal1
  split
  · rename_i h
    unfold validF at hv
    rw [if_neg (by omega), if_pos h] at hv
    simp at hv
    simp; omega
  · split
    · split
      · rename_i i hi
        simpa using hf.fields _ (getD_mem' (find_lt hi).1)
      · simp
    · simp
theorem valid_kinds {t : Ty} {rs : List Rc} (hv : validF t rs = true) : t.k = 1 ∨ t.k = 2 ∨ (t.k = 3 ∧ 1 ≤ t.len ∧ t.len ≤ 8) ∨ (t.k = 4 ∧ ∃ i, idxF rs t.rc = some i) := by
  unfold validF at hv
  split at hv
  · omega
  · split at hv
    · simp at hv; omega
    · split at hv
      · simp at hv
        obtain ⟨_, h⟩ := hv
        cases hi : idxF rs t.rc with
        | none => rw [hi] at h; simp at h
        | some i => exact .inr (.inr (.inr ⟨‹_›, i, rfl⟩))
      · simp at hv

theorem flat_take {rs : List Rc} {l : List Ty} {j : Nat} (h : j < l.length) : ((l.take j).flatMap (scal1 rs)).map tyR ++ (scal1 rs (l.getD j default)).map tyR = ((l.take (j + 1)).flatMap (scal1 rs)).map tyR := by
  rw [take_snoc h]; simp
theorem flat_len {rs : List Rc} (hf : Few rs) : ∀ {l : List Ty}, (∀ t ∈ l, validF t rs = true) → (l.flatMap (scal1 rs)).length ≤ 20 * l.length
  | [], _ => by simp
  | t :: l, h => by
    have h1 := scal1_len hf (h t (by simp))
    have h2 := flat_len hf (l := l) fun t ht => h t (by simp [ht])
    simp only [List.flatMap_cons, List.length_append, List.length_cons]; omega
theorem all_upto {α : Type} [Inhabited α] {l : List α} {p : α → Prop} {j : Nat} (h : ∀ i, i < j → p (l.getD i default)) (hj : j ≤ l.length) : ∀ t ∈ l.take j, p t := by
  intro t ht
  obtain ⟨i, hi, rfl⟩ := List.mem_iff_getElem.1 ht
  have := h i (by simp at hi; omega)
  simp at hi
  simpa [List.getD_eq_getElem?_getD, show i < l.length by omega] using this
theorem scalV_no {rs : List Rc} {l : List Ty} {j : Nat} (hj : j < l.length) (h : validF (l.getD j default) rs = false) : scalV rs l = nilS := by
  unfold scalV
  rw [if_neg]
  intro hh
  rw [List.all_eq_true] at hh
  rw [hh _ (getD_mem' hj)] at h
  cases h
theorem scalV_yes {rs : List Rc} {l : List Ty} (h : ∀ i, i < l.length → validF (l.getD i default) rs = true) : scalV rs l = .sl 3 ((l.flatMap (scal1 rs)).map tyR) := by
  unfold scalV
  rw [if_pos]
  rw [List.all_eq_true]
  intro t ht
  have := all_upto (p := fun t => validF t rs = true) h (Nat.le_refl _) t (by rw [List.take_length]; exact ht)
  exact this

theorem scalars (rs : List Rc) (l : List Ty) (H : AHeap) (hf : Few rs) (hl : l.length ≤ 20) : Comp' 45 [.sl 2 (rs.map rcR), .sl 3 (l.map tyR)] H (scalV rs l) := by
  refine ACall.drop (R := fun x => x = scalV rs l) ?_
  refine enter Try.func45 L45_ok (Nat.le_of_ble_eq_true rfl) ?_
  have hrl := hf.len
  repeat' (first | (refine And.intro (by omega) ?_) | simp -implicitDefEqProofs (disch := omega) only [L45, dT_lt, dF_lt, dT_le, dF_le, dT_eq, dF_eq, push_cast, ↓reduceIte, Nat.reduceEqDiff, reduceCtorEq, Nat.reduceAdd, Nat.reduceSub, Nat.reduceMul, Nat.reduceLeDiff, Nat.reduceLT, Nat.reduceMod, Nat.reduceDiv, Int.reduceToNat, Int.reduceLT, Int.reduceLE, Int.reduceEq, Int.reduceAdd, Int.reduceSub, Int.reduceNeg, Int.reduceMul, Bool.and_self] | split)
  refine rk_loopS (fun (p : Nat × Nat × List HO) e' H' => e' 0 = .sl 2 (rs.map rcR) ∧ e' 5 = .os H.length p.2.1 0 ((l.take p.1).flatMap (scal1 rs)).length ∧ e' 8 = .sl 3 (l.map tyR) ∧ e' 9 = int l.length ∧ e' 10 = int p.1 ∧ H' = H ++ .arr p.2.1 3 (((l.take p.1).flatMap (scal1 rs)).map tyR) :: p.2.2 ∧ p.1 ≤ l.length ∧ ∀ i, i < p.1 → validF (l.getD i default) rs = true) (fun p => l.length - p.1) (0, 0, []) ?_ ?_
  · exact ⟨rfl, rfl, rfl, rfl, rfl, rfl, Nat.zero_le _, by simp⟩
  rintro ⟨j, ver, rest⟩ e' H' ⟨h0, h5, h8, h9, h10, rfl, hj, hv⟩
  simp only at h0 h5 h8 h9 h10 hj hv
  have hlen := flat_len hf (all_upto (p := fun t => validF t rs = true) hv hj)
  have hl0 : (l.take j).length = j := by simp; omega
  by_cases hlt : j < l.length
  · have hft := flat_take (rs := rs) hlt
    by_cases hvj : validF (l.getD j default) rs = true
    · have hlen1 := scal1_len hf hvj
      have hall := upto_succ (p := fun i => validF (l.getD i default) rs = true) hv hvj
      have hk := valid_kinds hvj
      generalize hte : l.getD j default = t at hft hvj hk hlen1
      obtain ⟨k, len, rc⟩ := t
      simp only at hk
      rcases hk with rfl | rfl | ⟨rfl, hk1, hk2⟩ | ⟨rfl, i, hi⟩
      · have hs : (scal1 rs ⟨1, len, rc⟩).map tyR = [[int 1, int 0, str []]] := by rfl
        rw [hs] at hft
        have hfl : ((l.take j).flatMap (scal1 rs)).length + 1 = ((l.take (j + 1)).flatMap (scal1 rs)).length := by have := congrArg List.length hft; simpa using this
        have hb : 1 ≤ 20 := by have := congrArg List.length hs; simp only [List.length_map] at this; omega
        repeat' (first | (refine And.intro (by omega) ?_) | (refine callF_pure (valid ⟨1, len, rc⟩ rs _ (by omega)) ?_) | (refine callF_pure (shapes _) ?_) | (refine callF_pure (shp2 ⟨1, len, rc⟩ rs _) ?_) | (refine callQF_pure (valid ⟨1, len, rc⟩ rs _ (by omega)) rfl ?_) | (refine callQF_pure (shapes _) rfl ?_) | (refine callQF_pure (shp2 ⟨1, len, rc⟩ rs _) rfl ?_) | simp -implicitDefEqProofs (disch := omega) only [h0, h5, h8, h9, h10, rows_getD, hte, tyR, hvj, shp_1, shp_cmp, lookV, hft, List.length_replicate, dT_lt, dF_lt, dT_le, dF_le, dT_eq, dF_eq, push_cast, ↓reduceIte, Nat.reduceEqDiff, reduceCtorEq, Nat.reduceAdd, Nat.reduceSub, Nat.reduceMul, Nat.reduceLeDiff, Nat.reduceLT, Nat.reduceMod, Nat.reduceDiv, Int.reduceToNat, Int.reduceLT, Int.reduceLE, Int.reduceEq, Int.reduceAdd, Int.reduceSub, Int.reduceNeg, Int.reduceMul, Bool.and_self] | split)
        exact .mk (j + 1, ver + 1, rest ++ [_]) ⟨h0, by rw [← hfl]; rfl, h8, h9, rfl, rfl, hlt, hall⟩ (by simp only; omega)
      · have hs : (scal1 rs ⟨2, len, rc⟩).map tyR = [[int 2, int 0, str []]] := by rfl
        rw [hs] at hft
        have hfl : ((l.take j).flatMap (scal1 rs)).length + 1 = ((l.take (j + 1)).flatMap (scal1 rs)).length := by have := congrArg List.length hft; simpa using this
        have hb : 1 ≤ 20 := by have := congrArg List.length hs; simp only [List.length_map] at this; omega
        repeat' (first | (refine And.intro (by omega) ?_) | (refine callF_pure (valid ⟨2, len, rc⟩ rs _ (by omega)) ?_) | (refine callF_pure (shapes _) ?_) | (refine callF_pure (shp2 ⟨2, len, rc⟩ rs _) ?_) | (refine callQF_pure (valid ⟨2, len, rc⟩ rs _ (by omega)) rfl ?_) | (refine callQF_pure (shapes _) rfl ?_) | (refine callQF_pure (shp2 ⟨2, len, rc⟩ rs _) rfl ?_) | simp -implicitDefEqProofs (disch := omega) only [h0, h5, h8, h9, h10, rows_getD, hte, tyR, hvj, shp_2, shp_cmp, lookV, hft, List.length_replicate, dT_lt, dF_lt, dT_le, dF_le, dT_eq, dF_eq, push_cast, ↓reduceIte, Nat.reduceEqDiff, reduceCtorEq, Nat.reduceAdd, Nat.reduceSub, Nat.reduceMul, Nat.reduceLeDiff, Nat.reduceLT, Nat.reduceMod, Nat.reduceDiv, Int.reduceToNat, Int.reduceLT, Int.reduceLE, Int.reduceEq, Int.reduceAdd, Int.reduceSub, Int.reduceNeg, Int.reduceMul, Bool.and_self] | split)
        exact .mk (j + 1, ver + 1, rest ++ [_]) ⟨h0, by rw [← hfl]; rfl, h8, h9, rfl, rfl, hlt, hall⟩ (by simp only; omega)
      · obtain ⟨n, hn⟩ : ∃ n : Nat, len = n := ⟨len.toNat, by omega⟩
        have hs : (scal1 rs ⟨3, len, rc⟩).map tyR = List.replicate n [int tyI.k, int tyI.len, str tyI.rc] := by simp [scal1, hn, tyR]
        rw [hs] at hft
        have hfl : ((l.take j).flatMap (scal1 rs)).length + n = ((l.take (j + 1)).flatMap (scal1 rs)).length := by have := congrArg List.length hft; simpa using this
        have hb : n ≤ 20 := by have := congrArg List.length hs; simp only [List.length_map] at this; omega
        repeat' (first | (refine And.intro (by omega) ?_) | (refine callF_pure (valid ⟨3, len, rc⟩ rs _ (by omega)) ?_) | (refine callF_pure (shapes _) ?_) | (refine callF_pure (shp4 ⟨3, len, rc⟩ rs n hn (by omega) (by omega) _) ?_) | (refine callQF_pure (valid ⟨3, len, rc⟩ rs _ (by omega)) rfl ?_) | (refine callQF_pure (shapes _) rfl ?_) | (refine callQF_pure (shp4 ⟨3, len, rc⟩ rs n hn (by omega) (by omega) _) rfl ?_) | simp -implicitDefEqProofs (disch := omega) only [h0, h5, h8, h9, h10, rows_getD, hte, tyR, hvj, shp_3, shp_cmp, lookV, hft, List.length_replicate, dT_lt, dF_lt, dT_le, dF_le, dT_eq, dF_eq, push_cast, ↓reduceIte, Nat.reduceEqDiff, reduceCtorEq, Nat.reduceAdd, Nat.reduceSub, Nat.reduceMul, Nat.reduceLeDiff, Nat.reduceLT, Nat.reduceMod, Nat.reduceDiv, Int.reduceToNat, Int.reduceLT, Int.reduceLE, Int.reduceEq, Int.reduceAdd, Int.reduceSub, Int.reduceNeg, Int.reduceMul, Bool.and_self] | split)
        exact .mk (j + 1, ver + 1, rest ++ [_]) ⟨h0, by rw [← hfl]; rfl, h8, h9, rfl, rfl, hlt, hall⟩ (by simp only; omega)
      · have hs : (scal1 rs ⟨4, len, rc⟩).map tyR = (rs.getD i default).fields.map scR := by simp [scal1, show idxF rs rc = some i from hi, scR]
        rw [hs] at hft
        have hfl : ((l.take j).flatMap (scal1 rs)).length + (rs.getD i default).fields.length = ((l.take (j + 1)).flatMap (scal1 rs)).length := by have := congrArg List.length hft; simpa using this
        have hb : (rs.getD i default).fields.length ≤ 20 := by have := congrArg List.length hs; simp only [List.length_map] at this; omega
        repeat' (first | (refine And.intro (by omega) ?_) | (refine callF_pure (valid ⟨4, len, rc⟩ rs _ (by omega)) ?_) | (refine callF_pure (shapes _) ?_) | (refine callF_pure (shp6 ⟨4, len, rc⟩ rs i _ (by omega) hi hf.fields) ?_) | (refine callQF_pure (valid ⟨4, len, rc⟩ rs _ (by omega)) rfl ?_) | (refine callQF_pure (shapes _) rfl ?_) | (refine callQF_pure (shp6 ⟨4, len, rc⟩ rs i _ (by omega) hi hf.fields) rfl ?_) | simp -implicitDefEqProofs (disch := omega) only [h0, h5, h8, h9, h10, rows_getD, hte, tyR, hvj, shp_4, shp_cmp, lookV, hft, List.length_replicate, dT_lt, dF_lt, dT_le, dF_le, dT_eq, dF_eq, push_cast, ↓reduceIte, Nat.reduceEqDiff, reduceCtorEq, Nat.reduceAdd, Nat.reduceSub, Nat.reduceMul, Nat.reduceLeDiff, Nat.reduceLT, Nat.reduceMod, Nat.reduceDiv, Int.reduceToNat, Int.reduceLT, Int.reduceLE, Int.reduceEq, Int.reduceAdd, Int.reduceSub, Int.reduceNeg, Int.reduceMul, Bool.and_self] | split)
        exact .mk (j + 1, ver + 1, rest ++ [_]) ⟨h0, by rw [← hfl]; rfl, h8, h9, rfl, rfl, hlt, hall⟩ (by simp only; omega)
    · have hvj' := Bool.eq_false_iff.2 hvj
      rw [scalV_no hlt hvj']
      repeat' (first | (refine And.intro (by omega) ?_) | (refine callF_pure (valid (l.getD j default) rs _ (by omega)) ?_) | (refine callQF_pure (valid (l.getD j default) rs _ (by omega)) rfl ?_) | simp -implicitDefEqProofs (disch := omega) only [h0, h5, h8, h9, h10, rows_getD, tyR, hvj', dT_lt, dF_lt, dT_le, dF_le, dT_eq, dF_eq, push_cast, ↓reduceIte, Nat.reduceEqDiff, reduceCtorEq, Nat.reduceAdd, Nat.reduceSub, Nat.reduceMul, Nat.reduceLeDiff, Nat.reduceLT, Nat.reduceMod, Nat.reduceDiv, Int.reduceToNat, Int.reduceLT, Int.reduceLE, Int.reduceEq, Int.reduceAdd, Int.reduceSub, Int.reduceNeg, Int.reduceMul, Bool.and_self] | split)
      exact ⟨_, rfl⟩
  · rw [scalV_yes fun i hi => hv i (by omega)]
    repeat' (first | (refine And.intro (by omega) ?_) | simp -implicitDefEqProofs (disch := omega) only [h0, h5, h8, h9, h10, dT_lt, dF_lt, dT_le, dF_le, dT_eq, dF_eq, push_cast, ↓reduceIte, Nat.reduceEqDiff, reduceCtorEq, Nat.reduceAdd, Nat.reduceSub, Nat.reduceMul, Nat.reduceLeDiff, Nat.reduceLT, Nat.reduceMod, Nat.reduceDiv, Int.reduceToNat, Int.reduceLT, Int.reduceLE, Int.reduceEq, Int.reduceAdd, Int.reduceSub, Int.reduceNeg, Int.reduceMul, Bool.and_self] | split)
    exact ⟨by rw [all_take l (by omega)], _, rfl⟩
end Go.Proofs.Ytdgmlepakippmaa
