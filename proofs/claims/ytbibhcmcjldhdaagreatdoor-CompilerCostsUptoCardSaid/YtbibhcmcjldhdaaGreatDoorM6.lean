/- Parts, merged by a program (wip/tools/merge2.py): Mc10c Mc10d Mc10e Mc10f Mc10g Mc11 Mc12 Fm3 Ct3 Ct4 Ct5 Mc13 Co2 Ax40. -/
import Derived.Test.YtbibhcmcjldhdaaGreatDoorM5
import Derived.KernelRfl
import Derived.Test.YtbibhcmcjldhdaaGreatDoorRows
import Derived.JoinedCond
import Derived.ProofKit
import Derived.Deep.DeepHandedRow
namespace Go.Proofs.YtbibhcmcjldhdaaGreatDoor
open Go Go.Ax
set_option maxRecDepth 100000
set_option linter.unusedSimpArgs false
set_option linter.unusedVariables false
set_option maxHeartbeats 4000000
set_option maxHeartbeats 8000000 in
theorem rnd_16 (ps : List Pr) (k : Nat) (hk : k < ps.length) (hps : ps.length ≤ 1048576) (hp : zCK ps k) (hh : zCw (ps.getD k default)) (l : List Ins) (out : Bool) (level c : Int) (r : Nat) (G : zC) : RndP ps k l out level c r G 16 := by
 intro j h e' G' a b bd el hlt hx hs hbd hel hrl hc0 hl0 hl1 ⟨e0, e2, e3, e9, e10, e11, e12, e42, e43, e44, gr, g9, g10, fr, gl, hj, hhh, cc, lv, ef⟩
 have hrow : (l.map zAt).getD j [] = [int 16, int a, int b, .sl 5 (bd.map zAt), .sl 5 (el.map zAt)] := by
  rw [zU hlt, hx]; simp [zAt, zAm]
 have hrl' := Nat.lt_of_lt_of_le hrl fr.1
 have hb := zAk l (j + 1)
 have hb2 := zAG l (j + 1)
 have hsn := zAh hlt
 have hsl := zAD hlt
 rw [hx] at hsn hsl
 simp only [zBD, zCM] at hsn hsl
 have hbl := zM bd
 have hell := zM el
 have hbv := zAb bd
 have helv := zAb el
 obtain ⟨q1, q2, q3, q4, q5, q6, q7, q8⟩ := hh
 have ef0 := ef
 rw [zAM ps k hlt, hx] at ef
 have fA : ∀ B b, Fr1 r G (G'.set r B ++ [b]) := fun B b => (fr.trans (Fr1.set B)).trans (Fr1.app _)
 have fB : ∀ B b X, Fr1 r G ((G'.set r B).set (G.length + 1) X ++ [b]) := fun B b X => ((fr.trans (Fr1.set B)).set' (i := G.length + 1) (by omega) X).trans (Fr1.app _)
 have hng : ((∀ h', ¬ zCt ps k (.mk 16 a b bd el) out h = some h') ∨ 32768 < c + zQ (l.take j) + zBD (.mk 16 a b bd el) ∨ 257 < level + zCM (.mk 16 a b bd el)) → ¬ goodL ps k l out level c := zBd hlt hx ef0
 have hSr : ∀ B b, (G'.set r B ++ [b])[r]? = some B := fun B b => by rw [zB (by simpa using hrl'), zI hrl']
 have hS9 : ∀ B b, (G'.set r B ++ [b])[G.length]? = some (.box (prR (ps.getD k default))) := fun B b => by rw [zB (by rw [List.length_set]; omega), zF (by omega)]; exact g9
 have hS10 : ∀ B b, (G'.set r B ++ [b])[G.length + 1]? = some (.box [int h]) := fun B b => by rw [zB (by rw [List.length_set]; omega), zF (by omega)]; exact g10
 have hSx : ∀ B b, (G'.set r B ++ [b])[G'.length]? = some b := fun B b => by rw [List.getElem?_append_right (by simp)]; simp
 have hTx : ∀ B b X, ((G'.set r B).set (G.length + 1) X ++ [b])[G'.length]? = some b := fun B b X => by rw [List.getElem?_append_right (by simp)]; simp
 have hln := zM l
 have he : zCu ps k 16 a out h = chg h 1 0 := zBb.2.2.1 (by omega)
 have hes := fun h' => zBp (ps := ps) (k := k) (o := 16) (a := a) (b := b) (bd := bd) (el := el) (out := out) (h := h) (h' := h') (by omega) (by omega) he
 by_cases hcn : c + zQ (l.take j) + 1 ≤ 32768
 ·cases hI : zCt ps k (.mk 16 a b bd el) out h with
  | some h' =>
   obtain ⟨hf, f1, f2, rfl⟩ := (hes h').1 hI
   rw [hI] at ef
   have hf' := hf
   unfold zR at hf
   rw [zAw, decide_eq_true_eq] at hf
   have hem : bd.length = 0 ∧ el.length = 0 := by omega
   have hz : zQ bd = 0 ∧ zQ el = 0 ∧ zAI bd = 0 ∧ zAI el = 0 := by
    rw [List.length_eq_zero_iff.1 hem.1, List.length_eq_zero_iff.1 hem.2]; exact ⟨rfl, rfl, rfl, rfl⟩
   have hd1 : 0 ≤ a ∧ a < (ps.getD k default).slots → decide (0 ≤ a ∧ a < (ps.getD k default).slots) = true := fun hh => decide_eq_true hh
   have hd2 : 0 ≤ a + b - 1 ∧ a + b - 1 < (ps.getD k default).slots → decide (0 ≤ a + b - 1 ∧ a + b - 1 < (ps.getD k default).slots) = true := fun hh => decide_eq_true hh
   repeat' (first | refine And.intro (by omega) ?_ | refine zD (zAF _) ?_ | simp -implicitDefEqProofs (disch := omega) only [e0, e11, e42, e43, e44, gr, hrow, zB, zO, splice, List.length_map, zAl, hSr, hSx, L46, LCode.sub, zL, zAf, push_cast, ↓reduceIte, Nat.reduceEqDiff, reduceCtorEq, Nat.reduceAdd, Nat.reduceLeDiff, Int.reduceEq, Int.reduceNeg, Bool.and_self])
   refine zG (needX h 1 0 hhh (by omega) _ _ (hS10 _ _)) ?_ ?_
   ·rintro _ _ ⟨-, rfl⟩
    repeat' (first | refine zD (zAF _) ?_ | simp -implicitDefEqProofs (disch := omega) only [e44, zY, List.length_map, hTx, zAa, push_cast, ↓reduceIte, Nat.reduceEqDiff, Nat.reduceAdd, Nat.reduceLeDiff])
    exact .mk (j + 1, h + 0) ⟨e0, e2, e3, e9, e10, e11, e12, e42, e43, rfl, by rw [zB (by simp; omega), zF (by omega), zI hrl', hsn]; simp only [hz, Nat.add_zero, Nat.zero_add]; push_cast; rw [Int.add_assoc], by rw [zB (by simp; omega), zF (by omega), zF (by omega)]; exact g9, by rw [zB (by simp; omega), zI (by simp; omega)], fB _ _ _, by simp; omega, hlt, by dsimp only; omega, by dsimp only; rw [hsn]; omega, by dsimp only; rw [hsl]; omega, ef⟩ (by dsimp only; omega)
   ·rintro _ _ ⟨-, hn, -⟩
    exact absurd ⟨f1, f2⟩ hn
  | none =>
   have hn : ¬ (zR (ps.getD k default).slots 16 a b (bd.isEmpty && el.isEmpty) ∧ 1 ≤ h ∧ h + 0 ≤ 1024) := fun hh => by rw [(hes _).2 ⟨hh.1, hh.2.1, hh.2.2, rfl⟩] at hI; cases hI
   have ng := hng (.inl fun h' hh => by rw [hI] at hh; cases hh)
   unfold zR at hn
   rw [zAw, decide_eq_true_eq] at hn
   repeat' (first | intro y0 H2 h0; obtain ⟨hb, rfl⟩ : MT _ _ H2 := h0; (try (exfalso; contradiction)); (try simp only [] at hb) | intro z0 H2 h0; obtain ⟨hb, rfl, rfl⟩ : MF _ z0 _ H2 := h0; clear hb | intro y0 H2 h0; obtain ⟨hb, rfl⟩ : NT _ _ _ _ _ H2 := h0 | intro z0 H2 h0; obtain ⟨rfl, hb, rfl | rfl⟩ : NF _ _ _ _ z0 _ H2 := h0 | refine And.intro (by omega) ?_ | refine zG (zCQ _ _) ?_ ?_ | refine zG (zB5 h 1 0 hhh (by omega) _ _ (hS10 _ _)) ?_ ?_ | simp -implicitDefEqProofs (disch := omega) only [e0, e11, e42, e43, e44, gr, hrow, zB, zO, zY, splice, List.length_map, zAl, hSr, hSx, hTx, L46, LCode.sub, zL, zAf, zAa, zX, push_cast, ↓reduceIte, Nat.reduceEqDiff, reduceCtorEq, Nat.reduceAdd, Nat.reduceLeDiff, Int.reduceEq, Int.reduceNeg, Bool.and_self] | split)
   all_goals first | exact fA _ _ | exact fB _ _ _ | exact ⟨ng, fA _ _⟩ | exact ⟨rfl, ng, fA _ _⟩ | exact ⟨ng, fB _ _ _⟩ | exact ⟨rfl, ng, fB _ _ _⟩ | (exfalso; refine hn ⟨⟨?_, ?_, ?_, ?_, ?_, ?_, ?_, ?_⟩, ?_, ?_⟩ <;> first | omega | (intro h1; omega))
 ·repeat' (first | refine And.intro (by omega) ?_ | refine zN (zAW _) ?_ | simp -implicitDefEqProofs (disch := omega) only [e0, e42, e43, e44, gr, hrow, zB, zO, splice, List.length_map, zAl, hSr, L46, LCode.sub, zL, zAB, push_cast, ↓reduceIte, Nat.reduceEqDiff, reduceCtorEq, Nat.reduceAdd, Nat.reduceLeDiff, Int.reduceNeg, Bool.and_self])
  exact ⟨hng (.inr (.inl (by simp only [zBD]; omega))), fA _ _⟩
set_option maxHeartbeats 8000000 in
theorem rnd_17 (ps : List Pr) (k : Nat) (hk : k < ps.length) (hps : ps.length ≤ 1048576) (hp : zCK ps k) (hh : zCw (ps.getD k default)) (l : List Ins) (out : Bool) (level c : Int) (r : Nat) (G : zC) : RndP ps k l out level c r G 17 := by
 intro j h e' G' a b bd el hlt hx hs hbd hel hrl hc0 hl0 hl1 ⟨e0, e2, e3, e9, e10, e11, e12, e42, e43, e44, gr, g9, g10, fr, gl, hj, hhh, cc, lv, ef⟩
 have hrow : (l.map zAt).getD j [] = [int 17, int a, int b, .sl 5 (bd.map zAt), .sl 5 (el.map zAt)] := by
  rw [zU hlt, hx]; simp [zAt, zAm]
 have hrl' := Nat.lt_of_lt_of_le hrl fr.1
 have hb := zAk l (j + 1)
 have hb2 := zAG l (j + 1)
 have hsn := zAh hlt
 have hsl := zAD hlt
 rw [hx] at hsn hsl
 simp only [zBD, zCM] at hsn hsl
 have hbl := zM bd
 have hell := zM el
 have hbv := zAb bd
 have helv := zAb el
 obtain ⟨q1, q2, q3, q4, q5, q6, q7, q8⟩ := hh
 have ef0 := ef
 rw [zAM ps k hlt, hx] at ef
 have fA : ∀ B b, Fr1 r G (G'.set r B ++ [b]) := fun B b => (fr.trans (Fr1.set B)).trans (Fr1.app _)
 have fB : ∀ B b X, Fr1 r G ((G'.set r B).set (G.length + 1) X ++ [b]) := fun B b X => ((fr.trans (Fr1.set B)).set' (i := G.length + 1) (by omega) X).trans (Fr1.app _)
 have hng : ((∀ h', ¬ zCt ps k (.mk 17 a b bd el) out h = some h') ∨ 32768 < c + zQ (l.take j) + zBD (.mk 17 a b bd el) ∨ 257 < level + zCM (.mk 17 a b bd el)) → ¬ goodL ps k l out level c := zBd hlt hx ef0
 have hSr : ∀ B b, (G'.set r B ++ [b])[r]? = some B := fun B b => by rw [zB (by simpa using hrl'), zI hrl']
 have hS9 : ∀ B b, (G'.set r B ++ [b])[G.length]? = some (.box (prR (ps.getD k default))) := fun B b => by rw [zB (by rw [List.length_set]; omega), zF (by omega)]; exact g9
 have hS10 : ∀ B b, (G'.set r B ++ [b])[G.length + 1]? = some (.box [int h]) := fun B b => by rw [zB (by rw [List.length_set]; omega), zF (by omega)]; exact g10
 have hSx : ∀ B b, (G'.set r B ++ [b])[G'.length]? = some b := fun B b => by rw [List.getElem?_append_right (by simp)]; simp
 have hTx : ∀ B b X, ((G'.set r B).set (G.length + 1) X ++ [b])[G'.length]? = some b := fun B b X => by rw [List.getElem?_append_right (by simp)]; simp
 have hln := zM l
 have he : zCu ps k 17 a out h = chg h 1 0 := zBb.2.2.1 (by omega)
 have hes := fun h' => zBp (ps := ps) (k := k) (o := 17) (a := a) (b := b) (bd := bd) (el := el) (out := out) (h := h) (h' := h') (by omega) (by omega) he
 by_cases hcn : c + zQ (l.take j) + 1 ≤ 32768
 ·cases hI : zCt ps k (.mk 17 a b bd el) out h with
  | some h' =>
   obtain ⟨hf, f1, f2, rfl⟩ := (hes h').1 hI
   rw [hI] at ef
   have hf' := hf
   unfold zR at hf
   rw [zAw, decide_eq_true_eq] at hf
   have hem : bd.length = 0 ∧ el.length = 0 := by omega
   have hz : zQ bd = 0 ∧ zQ el = 0 ∧ zAI bd = 0 ∧ zAI el = 0 := by
    rw [List.length_eq_zero_iff.1 hem.1, List.length_eq_zero_iff.1 hem.2]; exact ⟨rfl, rfl, rfl, rfl⟩
   have hd1 : 0 ≤ a ∧ a < (ps.getD k default).slots → decide (0 ≤ a ∧ a < (ps.getD k default).slots) = true := fun hh => decide_eq_true hh
   have hd2 : 0 ≤ a + b - 1 ∧ a + b - 1 < (ps.getD k default).slots → decide (0 ≤ a + b - 1 ∧ a + b - 1 < (ps.getD k default).slots) = true := fun hh => decide_eq_true hh
   repeat' (first | refine And.intro (by omega) ?_ | refine zD (zAF _) ?_ | simp -implicitDefEqProofs (disch := omega) only [e0, e11, e42, e43, e44, gr, hrow, zB, zO, splice, List.length_map, zAl, hSr, hSx, L46, LCode.sub, zL, zAf, push_cast, ↓reduceIte, Nat.reduceEqDiff, reduceCtorEq, Nat.reduceAdd, Nat.reduceLeDiff, Int.reduceEq, Int.reduceNeg, Bool.and_self])
   refine zG (needX h 1 0 hhh (by omega) _ _ (hS10 _ _)) ?_ ?_
   ·rintro _ _ ⟨-, rfl⟩
    repeat' (first | refine zD (zAF _) ?_ | simp -implicitDefEqProofs (disch := omega) only [e44, zY, List.length_map, hTx, zAa, push_cast, ↓reduceIte, Nat.reduceEqDiff, Nat.reduceAdd, Nat.reduceLeDiff])
    exact .mk (j + 1, h + 0) ⟨e0, e2, e3, e9, e10, e11, e12, e42, e43, rfl, by rw [zB (by simp; omega), zF (by omega), zI hrl', hsn]; simp only [hz, Nat.add_zero, Nat.zero_add]; push_cast; rw [Int.add_assoc], by rw [zB (by simp; omega), zF (by omega), zF (by omega)]; exact g9, by rw [zB (by simp; omega), zI (by simp; omega)], fB _ _ _, by simp; omega, hlt, by dsimp only; omega, by dsimp only; rw [hsn]; omega, by dsimp only; rw [hsl]; omega, ef⟩ (by dsimp only; omega)
   ·rintro _ _ ⟨-, hn, -⟩
    exact absurd ⟨f1, f2⟩ hn
  | none =>
   have hn : ¬ (zR (ps.getD k default).slots 17 a b (bd.isEmpty && el.isEmpty) ∧ 1 ≤ h ∧ h + 0 ≤ 1024) := fun hh => by rw [(hes _).2 ⟨hh.1, hh.2.1, hh.2.2, rfl⟩] at hI; cases hI
   have ng := hng (.inl fun h' hh => by rw [hI] at hh; cases hh)
   unfold zR at hn
   rw [zAw, decide_eq_true_eq] at hn
   repeat' (first | intro y0 H2 h0; obtain ⟨hb, rfl⟩ : MT _ _ H2 := h0; (try (exfalso; contradiction)); (try simp only [] at hb) | intro z0 H2 h0; obtain ⟨hb, rfl, rfl⟩ : MF _ z0 _ H2 := h0; clear hb | intro y0 H2 h0; obtain ⟨hb, rfl⟩ : NT _ _ _ _ _ H2 := h0 | intro z0 H2 h0; obtain ⟨rfl, hb, rfl | rfl⟩ : NF _ _ _ _ z0 _ H2 := h0 | refine And.intro (by omega) ?_ | refine zG (zCQ _ _) ?_ ?_ | refine zG (zB5 h 1 0 hhh (by omega) _ _ (hS10 _ _)) ?_ ?_ | simp -implicitDefEqProofs (disch := omega) only [e0, e11, e42, e43, e44, gr, hrow, zB, zO, zY, splice, List.length_map, zAl, hSr, hSx, hTx, L46, LCode.sub, zL, zAf, zAa, zX, push_cast, ↓reduceIte, Nat.reduceEqDiff, reduceCtorEq, Nat.reduceAdd, Nat.reduceLeDiff, Int.reduceEq, Int.reduceNeg, Bool.and_self] | split)
   all_goals first | exact fA _ _ | exact fB _ _ _ | exact ⟨ng, fA _ _⟩ | exact ⟨rfl, ng, fA _ _⟩ | exact ⟨ng, fB _ _ _⟩ | exact ⟨rfl, ng, fB _ _ _⟩ | (exfalso; refine hn ⟨⟨?_, ?_, ?_, ?_, ?_, ?_, ?_, ?_⟩, ?_, ?_⟩ <;> first | omega | (intro h1; omega))
 ·repeat' (first | refine And.intro (by omega) ?_ | refine zN (zAW _) ?_ | simp -implicitDefEqProofs (disch := omega) only [e0, e42, e43, e44, gr, hrow, zB, zO, splice, List.length_map, zAl, hSr, L46, LCode.sub, zL, zAB, push_cast, ↓reduceIte, Nat.reduceEqDiff, reduceCtorEq, Nat.reduceAdd, Nat.reduceLeDiff, Int.reduceNeg, Bool.and_self])
  exact ⟨hng (.inr (.inl (by simp only [zBD]; omega))), fA _ _⟩
set_option maxHeartbeats 8000000 in
theorem rnd_bin (ps : List Pr) (k : Nat) (hk : k < ps.length) (hps : ps.length ≤ 1048576) (hp : zCK ps k) (hh : zCw (ps.getD k default)) (l : List Ins) (out : Bool) (level c : Int) (r : Nat) (G : zC) (o : Int) (ho : 5 ≤ o ∧ o ≤ 15) : RndP ps k l out level c r G o := by
 intro j h e' G' a b bd el hlt hx hs hbd hel hrl hc0 hl0 hl1 ⟨e0, e2, e3, e9, e10, e11, e12, e42, e43, e44, gr, g9, g10, fr, gl, hj, hhh, cc, lv, ef⟩
 have hrow : (l.map zAt).getD j [] = [int o, int a, int b, .sl 5 (bd.map zAt), .sl 5 (el.map zAt)] := by
  rw [zU hlt, hx]; simp [zAt, zAm]
 have hrl' := Nat.lt_of_lt_of_le hrl fr.1
 have hb := zAk l (j + 1)
 have hb2 := zAG l (j + 1)
 have hsn := zAh hlt
 have hsl := zAD hlt
 rw [hx] at hsn hsl
 simp only [zBD, zCM] at hsn hsl
 have hbl := zM bd
 have hell := zM el
 have hbv := zAb bd
 have helv := zAb el
 obtain ⟨q1, q2, q3, q4, q5, q6, q7, q8⟩ := hh
 have ef0 := ef
 rw [zAM ps k hlt, hx] at ef
 have fA : ∀ B b, Fr1 r G (G'.set r B ++ [b]) := fun B b => (fr.trans (Fr1.set B)).trans (Fr1.app _)
 have fB : ∀ B b X, Fr1 r G ((G'.set r B).set (G.length + 1) X ++ [b]) := fun B b X => ((fr.trans (Fr1.set B)).set' (i := G.length + 1) (by omega) X).trans (Fr1.app _)
 have hng : ((∀ h', ¬ zCt ps k (.mk o a b bd el) out h = some h') ∨ 32768 < c + zQ (l.take j) + zBD (.mk o a b bd el) ∨ 257 < level + zCM (.mk o a b bd el)) → ¬ goodL ps k l out level c := zBd hlt hx ef0
 have hSr : ∀ B b, (G'.set r B ++ [b])[r]? = some B := fun B b => by rw [zB (by simpa using hrl'), zI hrl']
 have hS9 : ∀ B b, (G'.set r B ++ [b])[G.length]? = some (.box (prR (ps.getD k default))) := fun B b => by rw [zB (by rw [List.length_set]; omega), zF (by omega)]; exact g9
 have hS10 : ∀ B b, (G'.set r B ++ [b])[G.length + 1]? = some (.box [int h]) := fun B b => by rw [zB (by rw [List.length_set]; omega), zF (by omega)]; exact g10
 have hSx : ∀ B b, (G'.set r B ++ [b])[G'.length]? = some b := fun B b => by rw [List.getElem?_append_right (by simp)]; simp
 have hTx : ∀ B b X, ((G'.set r B).set (G.length + 1) X ++ [b])[G'.length]? = some b := fun B b X => by rw [List.getElem?_append_right (by simp)]; simp
 have hln := zM l
 have he : zCu ps k o a out h = chg h 2 (-1) := zBb.2.2.2.2 ho
 have hes := fun h' => zBp (ps := ps) (k := k) (o := o) (a := a) (b := b) (bd := bd) (el := el) (out := out) (h := h) (h' := h') (by omega) (by omega) he
 by_cases hcn : c + zQ (l.take j) + 1 ≤ 32768
 ·cases hI : zCt ps k (.mk o a b bd el) out h with
  | some h' =>
   obtain ⟨hf, f1, f2, rfl⟩ := (hes h').1 hI
   rw [hI] at ef
   have hf' := hf
   unfold zR at hf
   rw [zAw, decide_eq_true_eq] at hf
   have hem : bd.length = 0 ∧ el.length = 0 := by omega
   have hz : zQ bd = 0 ∧ zQ el = 0 ∧ zAI bd = 0 ∧ zAI el = 0 := by
    rw [List.length_eq_zero_iff.1 hem.1, List.length_eq_zero_iff.1 hem.2]; exact ⟨rfl, rfl, rfl, rfl⟩
   have hd1 : 0 ≤ a ∧ a < (ps.getD k default).slots → decide (0 ≤ a ∧ a < (ps.getD k default).slots) = true := fun hh => decide_eq_true hh
   have hd2 : 0 ≤ a + b - 1 ∧ a + b - 1 < (ps.getD k default).slots → decide (0 ≤ a + b - 1 ∧ a + b - 1 < (ps.getD k default).slots) = true := fun hh => decide_eq_true hh
   repeat' (first | refine And.intro (by omega) ?_ | refine zD (zAF _) ?_ | simp -implicitDefEqProofs (disch := omega) only [e0, e11, e42, e43, e44, gr, hrow, zB, zO, splice, List.length_map, zAl, hSr, hSx, L46, LCode.sub, zL, zAf, zX, push_cast, ↓reduceIte, Nat.reduceEqDiff, reduceCtorEq, Nat.reduceAdd, Nat.reduceLeDiff, Int.reduceNeg, Bool.and_self])
   refine zG (needX h 2 (-1) hhh (by omega) _ _ (hS10 _ _)) ?_ ?_
   ·rintro _ _ ⟨-, rfl⟩
    repeat' (first | refine zD (zAF _) ?_ | simp -implicitDefEqProofs (disch := omega) only [e44, zY, List.length_map, hTx, zAa, push_cast, ↓reduceIte, Nat.reduceEqDiff, Nat.reduceAdd, Nat.reduceLeDiff, Int.reduceNeg])
    exact .mk (j + 1, h + (-1)) ⟨e0, e2, e3, e9, e10, e11, e12, e42, e43, rfl, by rw [zB (by simp; omega), zF (by omega), zI hrl', hsn]; simp only [hz, Nat.add_zero, Nat.zero_add]; push_cast; rw [Int.add_assoc], by rw [zB (by simp; omega), zF (by omega), zF (by omega)]; exact g9, by rw [zB (by simp; omega), zI (by simp; omega)], fB _ _ _, by simp; omega, hlt, by dsimp only; omega, by dsimp only; rw [hsn]; omega, by dsimp only; rw [hsl]; omega, ef⟩ (by dsimp only; omega)
   ·rintro _ _ ⟨-, hn, -⟩
    exact absurd ⟨f1, f2⟩ hn
  | none =>
   have hn : ¬ (zR (ps.getD k default).slots o a b (bd.isEmpty && el.isEmpty) ∧ 2 ≤ h ∧ h + (-1) ≤ 1024) := fun hh => by rw [(hes _).2 ⟨hh.1, hh.2.1, hh.2.2, rfl⟩] at hI; cases hI
   have ng := hng (.inl fun h' hh => by rw [hI] at hh; cases hh)
   unfold zR at hn
   rw [zAw, decide_eq_true_eq] at hn
   repeat' (first | intro y0 H2 h0; obtain ⟨hb, rfl⟩ : MT _ _ H2 := h0; (try (exfalso; contradiction)); (try simp only [] at hb) | intro z0 H2 h0; obtain ⟨hb, rfl, rfl⟩ : MF _ z0 _ H2 := h0; clear hb | intro y0 H2 h0; obtain ⟨hb, rfl⟩ : NT _ _ _ _ _ H2 := h0 | intro z0 H2 h0; obtain ⟨rfl, hb, rfl | rfl⟩ : NF _ _ _ _ z0 _ H2 := h0 | refine And.intro (by omega) ?_ | refine zG (zCQ _ _) ?_ ?_ | refine zG (zB5 h 2 (-1) hhh (by omega) _ _ (hS10 _ _)) ?_ ?_ | simp -implicitDefEqProofs (disch := omega) only [e0, e11, e42, e43, e44, gr, hrow, zB, zO, zY, splice, List.length_map, zAl, hSr, hSx, hTx, L46, LCode.sub, zL, zAf, zAa, zX, push_cast, ↓reduceIte, Nat.reduceEqDiff, reduceCtorEq, Nat.reduceAdd, Nat.reduceLeDiff, Int.reduceNeg, Bool.and_self] | split)
   all_goals first | exact fA _ _ | exact fB _ _ _ | exact ⟨ng, fA _ _⟩ | exact ⟨rfl, ng, fA _ _⟩ | exact ⟨ng, fB _ _ _⟩ | exact ⟨rfl, ng, fB _ _ _⟩ | (exfalso; refine hn ⟨⟨?_, ?_, ?_, ?_, ?_, ?_, ?_, ?_⟩, ?_, ?_⟩ <;> first | omega | (intro h1; omega))
 ·repeat' (first | refine And.intro (by omega) ?_ | refine zN (zAW _) ?_ | simp -implicitDefEqProofs (disch := omega) only [e0, e42, e43, e44, gr, hrow, zB, zO, splice, List.length_map, zAl, hSr, L46, LCode.sub, zL, zAB, push_cast, ↓reduceIte, Nat.reduceEqDiff, reduceCtorEq, Nat.reduceAdd, Nat.reduceLeDiff, Int.reduceNeg, Bool.and_self])
  exact ⟨hng (.inr (.inl (by simp only [zBD]; omega))), fA _ _⟩
set_option maxHeartbeats 8000000 in
theorem rnd_bad (ps : List Pr) (k : Nat) (hk : k < ps.length) (hps : ps.length ≤ 1048576) (hp : zCK ps k) (hh : zCw (ps.getD k default)) (l : List Ins) (out : Bool) (level c : Int) (r : Nat) (G : zC) (o : Int) (ho : o < 0 ∨ 22 < o) : RndP ps k l out level c r G o := by
 intro j h e' G' a b bd el hlt hx hs hbd hel hrl hc0 hl0 hl1 ⟨e0, e2, e3, e9, e10, e11, e12, e42, e43, e44, gr, g9, g10, fr, gl, hj, hhh, cc, lv, ef⟩
 have hrow : (l.map zAt).getD j [] = [int o, int a, int b, .sl 5 (bd.map zAt), .sl 5 (el.map zAt)] := by
  rw [zU hlt, hx]; simp [zAt, zAm]
 have hrl' := Nat.lt_of_lt_of_le hrl fr.1
 have hb := zAk l (j + 1)
 have hb2 := zAG l (j + 1)
 have hsn := zAh hlt
 have hsl := zAD hlt
 rw [hx] at hsn hsl
 simp only [zBD, zCM] at hsn hsl
 have hbl := zM bd
 have hell := zM el
 have hbv := zAb bd
 have helv := zAb el
 obtain ⟨q1, q2, q3, q4, q5, q6, q7, q8⟩ := hh
 have ef0 := ef
 rw [zAM ps k hlt, hx] at ef
 have fA : ∀ B b, Fr1 r G (G'.set r B ++ [b]) := fun B b => (fr.trans (Fr1.set B)).trans (Fr1.app _)
 have fB : ∀ B b X, Fr1 r G ((G'.set r B).set (G.length + 1) X ++ [b]) := fun B b X => ((fr.trans (Fr1.set B)).set' (i := G.length + 1) (by omega) X).trans (Fr1.app _)
 have hng : ((∀ h', ¬ zCt ps k (.mk o a b bd el) out h = some h') ∨ 32768 < c + zQ (l.take j) + zBD (.mk o a b bd el) ∨ 257 < level + zCM (.mk o a b bd el)) → ¬ goodL ps k l out level c := zBd hlt hx ef0
 have hSr : ∀ B b, (G'.set r B ++ [b])[r]? = some B := fun B b => by rw [zB (by simpa using hrl'), zI hrl']
 have hS9 : ∀ B b, (G'.set r B ++ [b])[G.length]? = some (.box (prR (ps.getD k default))) := fun B b => by rw [zB (by rw [List.length_set]; omega), zF (by omega)]; exact g9
 have hS10 : ∀ B b, (G'.set r B ++ [b])[G.length + 1]? = some (.box [int h]) := fun B b => by rw [zB (by rw [List.length_set]; omega), zF (by omega)]; exact g10
 have hSx : ∀ B b, (G'.set r B ++ [b])[G'.length]? = some b := fun B b => by rw [List.getElem?_append_right (by simp)]; simp
 have hTx : ∀ B b X, ((G'.set r B).set (G.length + 1) X ++ [b])[G'.length]? = some b := fun B b X => by rw [List.getElem?_append_right (by simp)]; simp
 have hln := zM l
 have hXr : ∀ B X, (G'.set r B ++ X)[r]? = some B := fun B X => by rw [zB (by simpa using hrl'), zI hrl']
 have hX9 : ∀ B X, (G'.set r B ++ X)[G.length]? = some (.box (prR (ps.getD k default))) := fun B X => by rw [zB (by rw [List.length_set]; omega), zF (by omega)]; exact g9
 have hX10 : ∀ B X, (G'.set r B ++ X)[G.length + 1]? = some (.box [int h]) := fun B X => by rw [zB (by rw [List.length_set]; omega), zF (by omega)]; exact g10
 have hXx : ∀ B b X, (G'.set r B ++ b :: X)[G'.length]? = some b := fun B b X => by rw [List.getElem?_append_right (by simp)]; simp
 have hXy : ∀ B b d X, (G'.set r B ++ b :: d :: X)[G'.length + 1]? = some d := fun B b d X => by rw [List.getElem?_append_right (by simp)]; simp
 have hYr : ∀ B Y X, ((G'.set r B).set (G.length + 1) Y ++ X)[r]? = some B := fun B Y X => by rw [zB (by simpa using hrl'), zF (by omega), zI hrl']
 have hY9 : ∀ B Y X, ((G'.set r B).set (G.length + 1) Y ++ X)[G.length]? = some (.box (prR (ps.getD k default))) := fun B Y X => by rw [zB (by simp; omega), zF (by omega), zF (by omega)]; exact g9
 have hY10 : ∀ B Y X, ((G'.set r B).set (G.length + 1) Y ++ X)[G.length + 1]? = some Y := fun B Y X => by rw [zB (by simp; omega), zI (by simp; omega)]
 have hYx : ∀ B Y b X, ((G'.set r B).set (G.length + 1) Y ++ b :: X)[G'.length]? = some b := fun B Y b X => by rw [List.getElem?_append_right (by simp)]; simp
 have hXs : ∀ B b z Y, (G'.set r B ++ [b, z]).set (G'.length + 1) Y = G'.set r B ++ [b, Y] := fun B b z Y => by rw [List.set_append_right _ _ (by simp)]; simp
 have fX : ∀ B X, Fr1 r G (G'.set r B ++ X) := fun B X => (fr.trans (Fr1.set B)).trans (Fr1.app _)
 have fY : ∀ B Y X, Fr1 r G ((G'.set r B).set (G.length + 1) Y ++ X) := fun B Y X => ((fr.trans (Fr1.set B)).set' (i := G.length + 1) (by omega) Y).trans (Fr1.app _)
 by_cases hcn : c + zQ (l.take j) + 1 ≤ 32768
 ·have ng := hng (.inl fun h' hh => by
   simp only [zCt] at hh
   rw [if_neg (by unfold zR; omega)] at hh
   cases hh)
  rcases ho with ho | ho
  ·repeat' (first | refine And.intro (by omega) ?_ | refine zD (zAF _) ?_ | refine zN (zAW _) ?_ | simp -implicitDefEqProofs (disch := omega) only [e0, e42, e43, e44, gr, hrow, zB, zO, splice, List.length_map, zAl, hXr, hXx, L46, LCode.sub, zL, zAf, zAB, zX, push_cast, ↓reduceIte, Nat.reduceEqDiff, reduceCtorEq, Nat.reduceAdd, Nat.reduceLeDiff, Int.reduceNeg, Bool.and_self])
   all_goals first | exact fX _ _ | exact ⟨ng, fX _ _⟩
  ·repeat' (first | refine And.intro (by omega) ?_ | refine zD (zAF _) ?_ | refine zN (zAW _) ?_ | simp -implicitDefEqProofs (disch := omega) only [e0, e42, e43, e44, gr, hrow, zB, zO, splice, List.length_map, zAl, hXr, hXx, L46, LCode.sub, zL, zAf, zAB, zX, push_cast, ↓reduceIte, Nat.reduceEqDiff, reduceCtorEq, Nat.reduceAdd, Nat.reduceLeDiff, Int.reduceNeg, Bool.and_self])
   all_goals first | exact fX _ _ | exact ⟨ng, fX _ _⟩
 ·repeat' (first | refine And.intro (by omega) ?_ | refine zN (zAW _) ?_ | simp -implicitDefEqProofs (disch := omega) only [e0, e42, e43, e44, gr, hrow, zB, zO, splice, List.length_map, zAl, hXr, L46, LCode.sub, zL, zAB, push_cast, ↓reduceIte, Nat.reduceEqDiff, reduceCtorEq, Nat.reduceAdd, Nat.reduceLeDiff, Int.reduceNeg, Bool.and_self])
  exact ⟨hng (.inr (.inl (by simp only [zBD]; omega))), fX _ _⟩
set_option maxHeartbeats 8000000 in
theorem rnd_21 (ps : List Pr) (k : Nat) (hk : k < ps.length) (hps : ps.length ≤ 1048576) (hp : zCK ps k) (hh : zCw (ps.getD k default)) (l : List Ins) (out : Bool) (level c : Int) (r : Nat) (G : zC) : RndP ps k l out level c r G 21 := by
 intro j h e' G' a b bd el hlt hx hs hbd hel hrl hc0 hl0 hl1 ⟨e0, e2, e3, e9, e10, e11, e12, e42, e43, e44, gr, g9, g10, fr, gl, hj, hhh, cc, lv, ef⟩
 have hrow : (l.map zAt).getD j [] = [int 21, int a, int b, .sl 5 (bd.map zAt), .sl 5 (el.map zAt)] := by
  rw [zU hlt, hx]; simp [zAt, zAm]
 have hrl' := Nat.lt_of_lt_of_le hrl fr.1
 have hb := zAk l (j + 1)
 have hb2 := zAG l (j + 1)
 have hsn := zAh hlt
 have hsl := zAD hlt
 rw [hx] at hsn hsl
 simp only [zBD, zCM] at hsn hsl
 have hbl := zM bd
 have hell := zM el
 have hbv := zAb bd
 have helv := zAb el
 obtain ⟨q1, q2, q3, q4, q5, q6, q7, q8⟩ := hh
 have ef0 := ef
 rw [zAM ps k hlt, hx] at ef
 have fA : ∀ B b, Fr1 r G (G'.set r B ++ [b]) := fun B b => (fr.trans (Fr1.set B)).trans (Fr1.app _)
 have fB : ∀ B b X, Fr1 r G ((G'.set r B).set (G.length + 1) X ++ [b]) := fun B b X => ((fr.trans (Fr1.set B)).set' (i := G.length + 1) (by omega) X).trans (Fr1.app _)
 have hng : ((∀ h', ¬ zCt ps k (.mk 21 a b bd el) out h = some h') ∨ 32768 < c + zQ (l.take j) + zBD (.mk 21 a b bd el) ∨ 257 < level + zCM (.mk 21 a b bd el)) → ¬ goodL ps k l out level c := zBd hlt hx ef0
 have hSr : ∀ B b, (G'.set r B ++ [b])[r]? = some B := fun B b => by rw [zB (by simpa using hrl'), zI hrl']
 have hS9 : ∀ B b, (G'.set r B ++ [b])[G.length]? = some (.box (prR (ps.getD k default))) := fun B b => by rw [zB (by rw [List.length_set]; omega), zF (by omega)]; exact g9
 have hS10 : ∀ B b, (G'.set r B ++ [b])[G.length + 1]? = some (.box [int h]) := fun B b => by rw [zB (by rw [List.length_set]; omega), zF (by omega)]; exact g10
 have hSx : ∀ B b, (G'.set r B ++ [b])[G'.length]? = some b := fun B b => by rw [List.getElem?_append_right (by simp)]; simp
 have hTx : ∀ B b X, ((G'.set r B).set (G.length + 1) X ++ [b])[G'.length]? = some b := fun B b X => by rw [List.getElem?_append_right (by simp)]; simp
 have hln := zM l
 have hXr : ∀ B X, (G'.set r B ++ X)[r]? = some B := fun B X => by rw [zB (by simpa using hrl'), zI hrl']
 have hX9 : ∀ B X, (G'.set r B ++ X)[G.length]? = some (.box (prR (ps.getD k default))) := fun B X => by rw [zB (by rw [List.length_set]; omega), zF (by omega)]; exact g9
 have hX10 : ∀ B X, (G'.set r B ++ X)[G.length + 1]? = some (.box [int h]) := fun B X => by rw [zB (by rw [List.length_set]; omega), zF (by omega)]; exact g10
 have hXx : ∀ B b X, (G'.set r B ++ b :: X)[G'.length]? = some b := fun B b X => by rw [List.getElem?_append_right (by simp)]; simp
 have hXy : ∀ B b d X, (G'.set r B ++ b :: d :: X)[G'.length + 1]? = some d := fun B b d X => by rw [List.getElem?_append_right (by simp)]; simp
 have hYr : ∀ B Y X, ((G'.set r B).set (G.length + 1) Y ++ X)[r]? = some B := fun B Y X => by rw [zB (by simpa using hrl'), zF (by omega), zI hrl']
 have hY9 : ∀ B Y X, ((G'.set r B).set (G.length + 1) Y ++ X)[G.length]? = some (.box (prR (ps.getD k default))) := fun B Y X => by rw [zB (by simp; omega), zF (by omega), zF (by omega)]; exact g9
 have hY10 : ∀ B Y X, ((G'.set r B).set (G.length + 1) Y ++ X)[G.length + 1]? = some Y := fun B Y X => by rw [zB (by simp; omega), zI (by simp; omega)]
 have hYx : ∀ B Y b X, ((G'.set r B).set (G.length + 1) Y ++ b :: X)[G'.length]? = some b := fun B Y b X => by rw [List.getElem?_append_right (by simp)]; simp
 have hXs : ∀ B b z Y, (G'.set r B ++ [b, z]).set (G'.length + 1) Y = G'.set r B ++ [b, Y] := fun B b z Y => by rw [List.set_append_right _ _ (by simp)]; simp
 have fX : ∀ B X, Fr1 r G (G'.set r B ++ X) := fun B X => (fr.trans (Fr1.set B)).trans (Fr1.app _)
 have fY : ∀ B Y X, Fr1 r G ((G'.set r B).set (G.length + 1) Y ++ X) := fun B Y X => ((fr.trans (Fr1.set B)).set' (i := G.length + 1) (by omega) Y).trans (Fr1.app _)
 by_cases hcn : c + zQ (l.take j) + 1 ≤ 32768
 ·cases hI : zCt ps k (.mk 21 a b bd el) out h with
  | some h' =>
   obtain ⟨hab, hem, rfl, hm, rfl⟩ := eff21.1 hI
   rw [hI] at ef
   have hz : zQ bd = 0 ∧ zQ el = 0 ∧ zAI bd = 0 ∧ zAI el = 0 := by
    rw [List.length_eq_zero_iff.1 hem.1, List.length_eq_zero_iff.1 hem.2]; exact ⟨rfl, rfl, rfl, rfl⟩
   have fRT : ∀ B Y X, Fr1 r G ((G'.set r B).set (G.length + 1) Y ++ X) := fY
   by_cases hr : (ps.getD k default).res < 0
   ·have hmx : (if (ps.getD k default).res < 0 then (0 : Int) else (ps.getD k default).res) = 0 := if_pos hr
    repeat' (first | refine And.intro (by omega) ?_ | refine zD (zAF _) ?_ | simp -implicitDefEqProofs (disch := omega) only [e0, e2, e9, e10, e42, e43, e44, gr, hrow, zB, zO, zY, splice, zC6, zP, List.length_map, zAl, hXr, hX9, hX10, hXx, hYx, L46, LCode.sub, hmx, zL, zAf, zAa, push_cast, ↓reduceIte, Nat.reduceEqDiff, reduceCtorEq, Nat.reduceAdd, Nat.reduceLeDiff, Int.reduceEq, Int.reduceNeg, Bool.and_self])
    exact .mk (j + 1, 0) ⟨e0, e2, e3, e9, e10, e11, e12, e42, e43, rfl, by rw [hYr, hsn]; simp only [hz, Nat.add_zero, Nat.zero_add]; push_cast; rw [Int.add_assoc], hY9 _ _ _, by rw [hY10], fRT _ _ _, by simp; omega, hlt, by dsimp only; omega, by dsimp only; rw [hsn]; omega, by dsimp only; rw [hsl]; omega, ef⟩ (by dsimp only; omega)
   ·have hmx : (if (ps.getD k default).res < 0 then (0 : Int) else (ps.getD k default).res) = (ps.getD k default).res := if_neg hr
    repeat' (first | refine And.intro (by omega) ?_ | refine zD (zAF _) ?_ | simp -implicitDefEqProofs (disch := omega) only [e0, e2, e9, e10, e42, e43, e44, gr, hrow, zB, zO, zY, splice, zC6, zP, List.length_map, zAl, hXr, hX9, hX10, hXx, hYx, L46, LCode.sub, hmx, zL, zAf, zAa, push_cast, ↓reduceIte, Nat.reduceEqDiff, reduceCtorEq, Nat.reduceAdd, Nat.reduceLeDiff, Int.reduceEq, Int.reduceNeg, Bool.and_self])
    exact .mk (j + 1, 0) ⟨e0, e2, e3, e9, e10, e11, e12, e42, e43, rfl, by rw [hYr, hsn]; simp only [hz, Nat.add_zero, Nat.zero_add]; push_cast; rw [Int.add_assoc], hY9 _ _ _, by rw [hY10], fRT _ _ _, by simp; omega, hlt, by dsimp only; omega, by dsimp only; rw [hsn]; omega, by dsimp only; rw [hsl]; omega, ef⟩ (by dsimp only; omega)
  | none =>
   have ng := hng (.inl fun h' hh => by rw [hI] at hh; cases hh)
   have hn : ¬ ((a = 0 ∧ b = 0) ∧ (bd.length = 0 ∧ el.length = 0) ∧ out = true ∧ h = max (ps.getD k default).res 0) := fun hh => by rw [eff21.2 ⟨hh.1, hh.2.1, hh.2.2.1, hh.2.2.2, rfl⟩] at hI; cases hI
   cases out with
   | false =>
    repeat' (first | refine And.intro (by omega) ?_ | refine zD (zAF _) ?_ | refine zN (zAW _) ?_ | simp -implicitDefEqProofs (disch := omega) only [e0, e2, e42, e43, e44, gr, hrow, zB, zO, splice, List.length_map, zAl, hXr, hXx, L46, LCode.sub, zL, zAf, push_cast, ↓reduceIte, Nat.reduceEqDiff, reduceCtorEq, Nat.reduceAdd, Nat.reduceLeDiff, Int.reduceEq, Int.reduceNeg, Bool.and_self])
    all_goals first | exact fX _ _ | exact ⟨ng, fX _ _⟩
   | true =>
    by_cases hr : (ps.getD k default).res < 0
    ·have hmx : (if (ps.getD k default).res < 0 then (0 : Int) else (ps.getD k default).res) = 0 := if_pos hr
     repeat' (first | intro y0 H2 h0; obtain ⟨hb, rfl⟩ : MT _ _ H2 := h0; (try (exfalso; contradiction)); (try simp only [decide_eq_true_eq] at hb) | intro z0 H2 h0; obtain ⟨hb, rfl, rfl⟩ : MF _ z0 _ H2 := h0; clear hb | refine And.intro (by omega) ?_ | refine zG (zCQ _ _) ?_ ?_ | simp -implicitDefEqProofs (disch := omega) only [e0, e2, e9, e10, e42, e43, e44, gr, hrow, zB, zO, zY, splice, zC6, zP, List.length_map, zAl, hXr, hX9, hX10, hXx, hYx, L46, LCode.sub, hmx, zL, zAf, zAa, zX, push_cast, ↓reduceIte, Nat.reduceEqDiff, reduceCtorEq, Nat.reduceAdd, Nat.reduceLeDiff, Int.reduceEq, Int.reduceNeg, Bool.and_self] | split)
     all_goals first | exact fX _ _ | exact fY _ _ _ | exact ⟨ng, fX _ _⟩ | exact ⟨ng, fY _ _ _⟩ | (exfalso; refine hn ⟨⟨?_, ?_⟩, ⟨?_, ?_⟩, rfl, ?_⟩ <;> omega)
    ·have hmx : (if (ps.getD k default).res < 0 then (0 : Int) else (ps.getD k default).res) = (ps.getD k default).res := if_neg hr
     repeat' (first | intro y0 H2 h0; obtain ⟨hb, rfl⟩ : MT _ _ H2 := h0; (try (exfalso; contradiction)); (try simp only [decide_eq_true_eq] at hb) | intro z0 H2 h0; obtain ⟨hb, rfl, rfl⟩ : MF _ z0 _ H2 := h0; clear hb | refine And.intro (by omega) ?_ | refine zG (zCQ _ _) ?_ ?_ | simp -implicitDefEqProofs (disch := omega) only [e0, e2, e9, e10, e42, e43, e44, gr, hrow, zB, zO, zY, splice, zC6, zP, List.length_map, zAl, hXr, hX9, hX10, hXx, hYx, L46, LCode.sub, hmx, zL, zAf, zAa, zX, push_cast, ↓reduceIte, Nat.reduceEqDiff, reduceCtorEq, Nat.reduceAdd, Nat.reduceLeDiff, Int.reduceEq, Int.reduceNeg, Bool.and_self] | split)
     all_goals first | exact fX _ _ | exact fY _ _ _ | exact ⟨ng, fX _ _⟩ | exact ⟨ng, fY _ _ _⟩ | (exfalso; refine hn ⟨⟨?_, ?_⟩, ⟨?_, ?_⟩, rfl, ?_⟩ <;> omega)
 ·repeat' (first | refine And.intro (by omega) ?_ | refine zN (zAW _) ?_ | simp -implicitDefEqProofs (disch := omega) only [e0, e42, e43, e44, gr, hrow, zB, zO, splice, List.length_map, zAl, hXr, L46, LCode.sub, zL, zAB, push_cast, ↓reduceIte, Nat.reduceEqDiff, reduceCtorEq, Nat.reduceAdd, Nat.reduceLeDiff, Int.reduceNeg, Bool.and_self])
  exact ⟨hng (.inr (.inl (by simp only [zBD]; omega))), fX _ _⟩
set_option maxHeartbeats 8000000 in
theorem rnd_20 (ps : List Pr) (k : Nat) (hk : k < ps.length) (hps : ps.length ≤ 1048576) (hp : zCK ps k) (hh : zCw (ps.getD k default)) (l : List Ins) (out : Bool) (level c : Int) (r : Nat) (G : zC) : RndP ps k l out level c r G 20 := by
 intro j h e' G' a b bd el hlt hx hs hbd hel hrl hc0 hl0 hl1 ⟨e0, e2, e3, e9, e10, e11, e12, e42, e43, e44, gr, g9, g10, fr, gl, hj, hhh, cc, lv, ef⟩
 have hrow : (l.map zAt).getD j [] = [int 20, int a, int b, .sl 5 (bd.map zAt), .sl 5 (el.map zAt)] := by
  rw [zU hlt, hx]; simp [zAt, zAm]
 have hrl' := Nat.lt_of_lt_of_le hrl fr.1
 have hb := zAk l (j + 1)
 have hb2 := zAG l (j + 1)
 have hsn := zAh hlt
 have hsl := zAD hlt
 rw [hx] at hsn hsl
 simp only [zBD, zCM] at hsn hsl
 have hbl := zM bd
 have hell := zM el
 have hbv := zAb bd
 have helv := zAb el
 obtain ⟨q1, q2, q3, q4, q5, q6, q7, q8⟩ := hh
 have ef0 := ef
 rw [zAM ps k hlt, hx] at ef
 have fA : ∀ B b, Fr1 r G (G'.set r B ++ [b]) := fun B b => (fr.trans (Fr1.set B)).trans (Fr1.app _)
 have fB : ∀ B b X, Fr1 r G ((G'.set r B).set (G.length + 1) X ++ [b]) := fun B b X => ((fr.trans (Fr1.set B)).set' (i := G.length + 1) (by omega) X).trans (Fr1.app _)
 have hng : ((∀ h', ¬ zCt ps k (.mk 20 a b bd el) out h = some h') ∨ 32768 < c + zQ (l.take j) + zBD (.mk 20 a b bd el) ∨ 257 < level + zCM (.mk 20 a b bd el)) → ¬ goodL ps k l out level c := zBd hlt hx ef0
 have hSr : ∀ B b, (G'.set r B ++ [b])[r]? = some B := fun B b => by rw [zB (by simpa using hrl'), zI hrl']
 have hS9 : ∀ B b, (G'.set r B ++ [b])[G.length]? = some (.box (prR (ps.getD k default))) := fun B b => by rw [zB (by rw [List.length_set]; omega), zF (by omega)]; exact g9
 have hS10 : ∀ B b, (G'.set r B ++ [b])[G.length + 1]? = some (.box [int h]) := fun B b => by rw [zB (by rw [List.length_set]; omega), zF (by omega)]; exact g10
 have hSx : ∀ B b, (G'.set r B ++ [b])[G'.length]? = some b := fun B b => by rw [List.getElem?_append_right (by simp)]; simp
 have hTx : ∀ B b X, ((G'.set r B).set (G.length + 1) X ++ [b])[G'.length]? = some b := fun B b X => by rw [List.getElem?_append_right (by simp)]; simp
 have hln := zM l
 have hXr : ∀ B X, (G'.set r B ++ X)[r]? = some B := fun B X => by rw [zB (by simpa using hrl'), zI hrl']
 have hX9 : ∀ B X, (G'.set r B ++ X)[G.length]? = some (.box (prR (ps.getD k default))) := fun B X => by rw [zB (by rw [List.length_set]; omega), zF (by omega)]; exact g9
 have hX10 : ∀ B X, (G'.set r B ++ X)[G.length + 1]? = some (.box [int h]) := fun B X => by rw [zB (by rw [List.length_set]; omega), zF (by omega)]; exact g10
 have hXx : ∀ B b X, (G'.set r B ++ b :: X)[G'.length]? = some b := fun B b X => by rw [List.getElem?_append_right (by simp)]; simp
 have hXy : ∀ B b d X, (G'.set r B ++ b :: d :: X)[G'.length + 1]? = some d := fun B b d X => by rw [List.getElem?_append_right (by simp)]; simp
 have hYr : ∀ B Y X, ((G'.set r B).set (G.length + 1) Y ++ X)[r]? = some B := fun B Y X => by rw [zB (by simpa using hrl'), zF (by omega), zI hrl']
 have hY9 : ∀ B Y X, ((G'.set r B).set (G.length + 1) Y ++ X)[G.length]? = some (.box (prR (ps.getD k default))) := fun B Y X => by rw [zB (by simp; omega), zF (by omega), zF (by omega)]; exact g9
 have hY10 : ∀ B Y X, ((G'.set r B).set (G.length + 1) Y ++ X)[G.length + 1]? = some Y := fun B Y X => by rw [zB (by simp; omega), zI (by simp; omega)]
 have hYx : ∀ B Y b X, ((G'.set r B).set (G.length + 1) Y ++ b :: X)[G'.length]? = some b := fun B Y b X => by rw [List.getElem?_append_right (by simp)]; simp
 have hXs : ∀ B b z Y, (G'.set r B ++ [b, z]).set (G'.length + 1) Y = G'.set r B ++ [b, Y] := fun B b z Y => by rw [List.set_append_right _ _ (by simp)]; simp
 have fX : ∀ B X, Fr1 r G (G'.set r B ++ X) := fun B X => (fr.trans (Fr1.set B)).trans (Fr1.app _)
 have fY : ∀ B Y X, Fr1 r G ((G'.set r B).set (G.length + 1) Y ++ X) := fun B Y X => ((fr.trans (Fr1.set B)).set' (i := G.length + 1) (by omega) Y).trans (Fr1.app _)
 by_cases hcn : c + zQ (l.take j) + 1 ≤ 32768
 ·have hpr1 : (prR (ps.getD a.toNat default)).drop 1 = [int (ps.getD a.toNat default).par, int (ps.getD a.toNat default).slots, int (ps.getD a.toNat default).res, .sl 1 ((ps.getD a.toNat default).outs.map iR), .sl 5 ((ps.getD a.toNat default).body.map zAt)] := rfl
  by_cases ha : 0 ≤ a ∧ a < k
  ·obtain ⟨p1, p2, p3, p4⟩ := hp a.toNat (by omega)
   have po := outsN_ok p3 p4
   have cO := fun H => resultsC (ps.getD a.toNat default) (by omega) H
   cases hI : zCt ps k (.mk 20 a b bd el) out h with
   | some h' =>
    obtain ⟨hb0, hem, _, f1, f2, rfl⟩ := eff20.1 hI
    rw [hI] at ef
    have hz : zQ bd = 0 ∧ zQ el = 0 ∧ zAI bd = 0 ∧ zAI el = 0 := by
     rw [List.length_eq_zero_iff.1 hem.1, List.length_eq_zero_iff.1 hem.2]; exact ⟨rfl, rfl, rfl, rfl⟩
    repeat' (first | refine And.intro (by omega) ?_ | refine zA (cO _) ?_ | refine zD (zAF _) ?_ | simp -implicitDefEqProofs (disch := omega) only [e0, e11, e42, e43, e44, gr, hrow, zB, zO, splice, zP, List.length_map, zAl, hXr, hXx, hXy, hXs, L46, LCode.sub, zAO, zCo, pr_c1s, hpr1, zL, zAf, push_cast, ↓reduceIte, Nat.reduceEqDiff, reduceCtorEq, Nat.reduceAdd, Nat.reduceLeDiff, Int.reduceEq, Int.reduceNeg, Bool.and_self])
    refine callXMF_mono (zB5 h (ps.getD a.toNat default).par (zCO (ps.getD a.toNat default) - (ps.getD a.toNat default).par) hhh (by omega) _ _ (hX10 _ _)) ?_ ?_
    ·intro y0 H2 h0
     obtain ⟨-, rfl⟩ : NT _ _ _ _ _ H2 := h0
     simp -implicitDefEqProofs (disch := omega) only [zB, zO, zF, zI, zB8, zY, zBF, zBG, zBE, zBl, zL, zV, zAf, zAB, zAa, zX, push_cast, ↓reduceIte, Nat.reduceEqDiff, reduceCtorEq, Nat.reduceAdd, Nat.reduceSub, Nat.reduceMul, Nat.reduceLeDiff, Nat.reduceLT, Nat.reduceMod, Nat.reduceDiv, Int.reduceToNat, Int.reduceLT, Int.reduceLE, Int.reduceEq, Int.reduceAdd, Int.reduceSub, Int.reduceNeg, Int.reduceMul, Bool.and_self]
     repeat' (first | refine zD (zAF _) ?_ | simp -implicitDefEqProofs (disch := omega) only [e44, List.length_map, hYx, zAa, push_cast, ↓reduceIte, Nat.reduceEqDiff, Nat.reduceAdd, Nat.reduceLeDiff])
     exact .mk (j + 1, h + (zCO (ps.getD a.toNat default) - (ps.getD a.toNat default).par)) ⟨e0, e2, e3, e9, e10, e11, e12, e42, e43, rfl, by rw [hYr, hsn]; simp only [hz, Nat.add_zero, Nat.zero_add]; push_cast; rw [Int.add_assoc], hY9 _ _ _, by rw [hY10], fY _ _ _, by simp; omega, hlt, by dsimp only; omega, by dsimp only; rw [hsn]; omega, by dsimp only; rw [hsl]; omega, ef⟩ (by dsimp only; omega)
    ·intro z0 H2 h0
     obtain ⟨-, hn, -⟩ : NF _ _ _ _ z0 _ H2 := h0
     exact absurd ⟨f1, f2⟩ hn
   | none =>
    have ng := hng (.inl fun h' hh => by rw [hI] at hh; cases hh)
    have hn : ¬ (b = 0 ∧ (bd.length = 0 ∧ el.length = 0) ∧ (ps.getD a.toNat default).par ≤ h ∧ h + (zCO (ps.getD a.toNat default) - (ps.getD a.toNat default).par) ≤ 1024) := fun hh => by rw [eff20.2 ⟨hh.1, hh.2.1, ha, hh.2.2.1, hh.2.2.2, rfl⟩] at hI; cases hI
    repeat' (first | intro y0 H2 h0; obtain ⟨hb, rfl⟩ : MT _ _ H2 := h0; (try (exfalso; contradiction)); (try simp only [decide_eq_true_eq] at hb) | intro z0 H2 h0; obtain ⟨hb, rfl, rfl⟩ : MF _ z0 _ H2 := h0; clear hb | intro y0 H2 h0; obtain ⟨hb, rfl⟩ : NT _ _ _ _ _ H2 := h0 | intro z0 H2 h0; obtain ⟨rfl, hb, rfl | rfl⟩ : NF _ _ _ _ z0 _ H2 := h0 | refine And.intro (by omega) ?_ | refine zD (zAF _) ?_ | refine zA (cO _) ?_ | refine zG (zCQ _ _) ?_ ?_ | refine zG (zB5 h (ps.getD a.toNat default).par (zCO (ps.getD a.toNat default) - (ps.getD a.toNat default).par) hhh (by omega) _ _ (hX10 _ _)) ?_ ?_ | simp -implicitDefEqProofs (disch := omega) only [e0, e11, e42, e43, e44, gr, hrow, zB, zO, zY, splice, zP, List.length_map, zAl, hXr, hXx, hXy, hYx, hXs, L46, LCode.sub, zAO, zCo, pr_c1s, hpr1, zL, zAf, zAa, zX, push_cast, ↓reduceIte, Nat.reduceEqDiff, reduceCtorEq, Nat.reduceAdd, Nat.reduceLeDiff, Int.reduceEq, Int.reduceNeg, Bool.and_self] | split)
    all_goals first | exact fX _ _ | exact fY _ _ _ | exact ⟨ng, fX _ _⟩ | exact ⟨ng, fY _ _ _⟩ | (exfalso; refine hn ⟨?_, ⟨?_, ?_⟩, ?_, ?_⟩ <;> omega)
  ·have ng := hng (.inl fun h' hh => ha (eff20.1 hh).2.2.1)
   repeat' (first | intro y0 H2 h0; obtain ⟨hb, rfl⟩ : MT _ _ H2 := h0; (try (exfalso; contradiction)); (try simp only [decide_eq_true_eq] at hb) | intro z0 H2 h0; obtain ⟨hb, rfl, rfl⟩ : MF _ z0 _ H2 := h0; clear hb | refine And.intro (by omega) ?_ | refine zD (zAF _) ?_ | refine zG (zCQ _ _) ?_ ?_ | simp -implicitDefEqProofs (disch := omega) only [e0, e42, e43, e44, gr, hrow, zB, zO, splice, List.length_map, zAl, hXr, hXx, L46, LCode.sub, zL, zV, zAf, zAB, push_cast, ↓reduceIte, Nat.reduceEqDiff, reduceCtorEq, Nat.reduceAdd, Nat.reduceLeDiff, Int.reduceEq, Int.reduceNeg, Bool.and_self] | split)
   all_goals first | exact fX _ _ | exact ⟨ng, fX _ _⟩ | (exfalso; omega)
 ·repeat' (first | refine And.intro (by omega) ?_ | refine zN (zAW _) ?_ | simp -implicitDefEqProofs (disch := omega) only [e0, e42, e43, e44, gr, hrow, zB, zO, splice, List.length_map, zAl, hXr, L46, LCode.sub, zL, zAB, push_cast, ↓reduceIte, Nat.reduceEqDiff, reduceCtorEq, Nat.reduceAdd, Nat.reduceLeDiff, Int.reduceNeg, Bool.and_self])
  exact ⟨hng (.inr (.inl (by simp only [zBD]; omega))), fX _ _⟩
set_option maxHeartbeats 8000000 in
theorem rnd_18 (ps : List Pr) (k : Nat) (hk : k < ps.length) (hps : ps.length ≤ 1048576) (hp : zCK ps k) (hh : zCw (ps.getD k default)) (l : List Ins) (out : Bool) (level c : Int) (r : Nat) (G : zC) : RndP ps k l out level c r G 18 := by
 intro j h e' G' a b bd el hlt hx hs hbd hel hrl hc0 hl0 hl1 ⟨e0, e2, e3, e9, e10, e11, e12, e42, e43, e44, gr, g9, g10, fr, gl, hj, hhh, cc, lv, ef⟩
 have hrow : (l.map zAt).getD j [] = [int 18, int a, int b, .sl 5 (bd.map zAt), .sl 5 (el.map zAt)] := by
  rw [zU hlt, hx]; simp [zAt, zAm]
 have hrl' := Nat.lt_of_lt_of_le hrl fr.1
 have hb := zAk l (j + 1)
 have hb2 := zAG l (j + 1)
 have hsn := zAh hlt
 have hsl := zAD hlt
 rw [hx] at hsn hsl
 simp only [zBD, zCM] at hsn hsl
 have hbl := zM bd
 have hell := zM el
 have hbv := zAb bd
 have helv := zAb el
 obtain ⟨q1, q2, q3, q4, q5, q6, q7, q8⟩ := hh
 have ef0 := ef
 rw [zAM ps k hlt, hx] at ef
 have fA : ∀ B b, Fr1 r G (G'.set r B ++ [b]) := fun B b => (fr.trans (Fr1.set B)).trans (Fr1.app _)
 have fB : ∀ B b X, Fr1 r G ((G'.set r B).set (G.length + 1) X ++ [b]) := fun B b X => ((fr.trans (Fr1.set B)).set' (i := G.length + 1) (by omega) X).trans (Fr1.app _)
 have hng : ((∀ h', ¬ zCt ps k (.mk 18 a b bd el) out h = some h') ∨ 32768 < c + zQ (l.take j) + zBD (.mk 18 a b bd el) ∨ 257 < level + zCM (.mk 18 a b bd el)) → ¬ goodL ps k l out level c := zBd hlt hx ef0
 have hSr : ∀ B b, (G'.set r B ++ [b])[r]? = some B := fun B b => by rw [zB (by simpa using hrl'), zI hrl']
 have hS9 : ∀ B b, (G'.set r B ++ [b])[G.length]? = some (.box (prR (ps.getD k default))) := fun B b => by rw [zB (by rw [List.length_set]; omega), zF (by omega)]; exact g9
 have hS10 : ∀ B b, (G'.set r B ++ [b])[G.length + 1]? = some (.box [int h]) := fun B b => by rw [zB (by rw [List.length_set]; omega), zF (by omega)]; exact g10
 have hSx : ∀ B b, (G'.set r B ++ [b])[G'.length]? = some b := fun B b => by rw [List.getElem?_append_right (by simp)]; simp
 have hTx : ∀ B b X, ((G'.set r B).set (G.length + 1) X ++ [b])[G'.length]? = some b := fun B b X => by rw [List.getElem?_append_right (by simp)]; simp
 have hln := zM l
 have hXr : ∀ B X, (G'.set r B ++ X)[r]? = some B := fun B X => by rw [zB (by simpa using hrl'), zI hrl']
 have hX9 : ∀ B X, (G'.set r B ++ X)[G.length]? = some (.box (prR (ps.getD k default))) := fun B X => by rw [zB (by rw [List.length_set]; omega), zF (by omega)]; exact g9
 have hX10 : ∀ B X, (G'.set r B ++ X)[G.length + 1]? = some (.box [int h]) := fun B X => by rw [zB (by rw [List.length_set]; omega), zF (by omega)]; exact g10
 have hXx : ∀ B b X, (G'.set r B ++ b :: X)[G'.length]? = some b := fun B b X => by rw [List.getElem?_append_right (by simp)]; simp
 have hXy : ∀ B b d X, (G'.set r B ++ b :: d :: X)[G'.length + 1]? = some d := fun B b d X => by rw [List.getElem?_append_right (by simp)]; simp
 have hYr : ∀ B Y X, ((G'.set r B).set (G.length + 1) Y ++ X)[r]? = some B := fun B Y X => by rw [zB (by simpa using hrl'), zF (by omega), zI hrl']
 have hY9 : ∀ B Y X, ((G'.set r B).set (G.length + 1) Y ++ X)[G.length]? = some (.box (prR (ps.getD k default))) := fun B Y X => by rw [zB (by simp; omega), zF (by omega), zF (by omega)]; exact g9
 have hY10 : ∀ B Y X, ((G'.set r B).set (G.length + 1) Y ++ X)[G.length + 1]? = some Y := fun B Y X => by rw [zB (by simp; omega), zI (by simp; omega)]
 have hYx : ∀ B Y b X, ((G'.set r B).set (G.length + 1) Y ++ b :: X)[G'.length]? = some b := fun B Y b X => by rw [List.getElem?_append_right (by simp)]; simp
 have hXs : ∀ B b z Y, (G'.set r B ++ [b, z]).set (G'.length + 1) Y = G'.set r B ++ [b, Y] := fun B b z Y => by rw [List.set_append_right _ _ (by simp)]; simp
 have fX : ∀ B X, Fr1 r G (G'.set r B ++ X) := fun B X => (fr.trans (Fr1.set B)).trans (Fr1.app _)
 have fY : ∀ B Y X, Fr1 r G ((G'.set r B).set (G.length + 1) Y ++ X) := fun B Y X => ((fr.trans (Fr1.set B)).set' (i := G.length + 1) (by omega) Y).trans (Fr1.app _)
 by_cases hcn : c + zQ (l.take j) + 1 ≤ 32768
 ·cases out with
  | false =>
   have hio : (false && decide (h = 1)) = false := rfl
   have h18 := fun h' => zCI (ps := ps) (k := k) (a := a) (b := b) (bd := bd) (el := el) (out := false) (h := h) (h' := h')
   have hx0 := hx
   repeat' (first | refine And.intro (by omega) ?_ | refine zD (zAF _) ?_ | simp -implicitDefEqProofs (disch := omega) only [e0, e11, e42, e43, e44, gr, hrow, zB, zO, splice, List.length_map, zAl, hXr, hXx, L46, LCode.sub, zL, zAf, push_cast, ↓reduceIte, Nat.reduceEqDiff, reduceCtorEq, Nat.reduceAdd, Nat.reduceLeDiff, Int.reduceEq, Int.reduceNeg, Bool.and_self])
   refine zG (zB5 h 1 (-1) hhh (by omega) _ _ (hX10 _ _)) ?_ ?_
   ·intro y0 H2 h0
    obtain ⟨hb1, rfl⟩ : NT _ _ _ _ _ H2 := h0
    simp -implicitDefEqProofs (disch := omega) only [zB, zO, zF, zI, zB8, zY, zBF, zBG, zBE, zBl, zL, zV, zAf, zAB, zAa, zX, push_cast, ↓reduceIte, Nat.reduceEqDiff, reduceCtorEq, Nat.reduceAdd, Nat.reduceSub, Nat.reduceMul, Nat.reduceLeDiff, Nat.reduceLT, Nat.reduceMod, Nat.reduceDiv, Int.reduceToNat, Int.reduceLT, Int.reduceLE, Int.reduceEq, Int.reduceAdd, Int.reduceSub, Int.reduceNeg, Int.reduceMul, Bool.and_self]
    repeat' (simp -implicitDefEqProofs (disch := omega) only [e0, e2, e3, hYx, push_cast, ↓reduceIte, Nat.reduceEqDiff, reduceCtorEq, Nat.reduceAdd, Nat.reduceLeDiff, Int.reduceNeg])
    refine zG (hbd false (level + 1) (c + zQ (l.take j) + 1) _ r (hYr _ _ _) (by omega) (by omega) (by omega) (by omega)) ?_ ?_
    ·rintro y0 G2 ⟨y1, rfl, he1, hc1, hv1, hf1, hr2⟩
     have rg1 := zAK hp bd _ 0 y1 (by omega) (by omega) he1
     have fr2 : Fr1 r G G2 := (fY _ _ _).trans hf1
     have l2 : G'.length + 1 ≤ G2.length := by have := hf1.1; simpa using this
     have k9 : G2[G.length]? = some (.box (prR (ps.getD k default))) := (hf1.2 _ (by simp; omega) (by omega)).trans (hY9 _ _ _)
     have k10 : G2[G.length + 1]? = some (.box [int (h + -1)]) := (hf1.2 _ (by simp; omega) (by omega)).trans (hY10 _ _ _)
     have kx : G2[G'.length]? = some (.box [int 18, int a, int b, .sl 5 (bd.map zAt), .sl 5 (el.map zAt)]) := (hf1.2 _ (by simp) (by omega)).trans (hYx _ _ _ _)
     clear hf1
     repeat' (simp -implicitDefEqProofs (disch := omega) only [e0, e3, kx, push_cast, ↓reduceIte, Nat.reduceEqDiff, reduceCtorEq, Nat.reduceAdd, Nat.reduceLeDiff])
     refine zG (hel false (level + 1) (c + zQ (l.take j) + 1 + zQ bd) G2 r hr2 (by omega) (by omega) (by omega) (by omega)) ?_ ?_
     ·rintro y0 G3 ⟨y2, rfl, he2, hc2, hv2, hf2, hr3⟩
      have rg2 := zAK hp el _ 0 y2 (by omega) (by omega) he2
      have fr3 : Fr1 r G G3 := fr2.trans hf2
      have l3 : G'.length + 1 ≤ G3.length := Nat.le_trans l2 hf2.1
      have m9 : G3[G.length]? = some (.box (prR (ps.getD k default))) := (hf2.2 _ (by omega) (by omega)).trans k9
      have m10 : G3[G.length + 1]? = some (.box [int (h + -1)]) := (hf2.2 _ (by omega) (by omega)).trans k10
      have mx : G3[G'.length]? = some (.box [int 18, int a, int b, .sl 5 (bd.map zAt), .sl 5 (el.map zAt)]) := (hf2.2 _ (by omega) (by omega)).trans kx
      clear hf2 k9 k10 kx
      have fR3 : ∀ X, Fr1 r G (G3.set (G.length + 1) X) := fun X => fr3.set' (by omega) X
      by_cases hy : y2 = y1
      ·subst hy
       repeat' (first | refine zD (zAF _) ?_ | simp -implicitDefEqProofs (disch := omega) only [e11, push_cast, ↓reduceIte, Nat.reduceEqDiff])
       refine zG (zB5 (h + -1) 0 y2 (by omega) (by omega) _ _ m10) ?_ ?_
       ·intro y0 H2 h0
        obtain ⟨hb2, rfl⟩ : NT _ _ _ _ _ H2 := h0
        by_cases hab : a = 0 ∧ b = 0
        ·have hI := (h18 _).2 ⟨hab.1, hab.2, by omega, y2, by rw [hio]; exact he1, by rw [hio]; exact he2, by omega, rfl⟩
         rw [hI] at ef
         repeat' (first | refine zD (zAF _) ?_ | simp -implicitDefEqProofs (disch := omega) only [e44, mx, zF, zAa, push_cast, ↓reduceIte, Nat.reduceEqDiff, Nat.reduceAdd, Nat.reduceLeDiff, Int.reduceNeg])
         have hcnt : c + (zQ (l.take j) : Int) + 1 + zQ bd + zQ el = c + (zQ (l.take (j + 1)) : Nat) := by rw [hsn]; push_cast; omega
         have hyy : h + -1 + y2 = h + (y2 - 1) := by omega
         exact .mk (j + 1, h + (y2 - 1)) ⟨e0, e2, e3, e9, e10, e11, e12, e42, e43, rfl, by rw [zF (by omega), hr3, hcnt], by rw [zF (by omega)]; exact m9, by rw [zI (by omega), hyy], fR3 _, by simp; omega, hlt, by dsimp only; omega, by dsimp only; rw [hsn]; omega, by dsimp only; rw [hsl]; omega, ef⟩ (by dsimp only; omega)
        ·have ng := hng (.inl fun h' hh => hab (by obtain ⟨g1, g2, _⟩ := zCI.1 hh; exact ⟨g1, g2⟩))
         repeat' (first | refine And.intro (by omega) ?_ | refine zN (zAW _) ?_ | simp -implicitDefEqProofs (disch := omega) only [mx, zF, zAa, zX, push_cast, ↓reduceIte, Nat.reduceEqDiff, Nat.reduceAdd, Nat.reduceLeDiff, Int.reduceNeg] | split)
         all_goals first | exact fR3 _ | exact ⟨ng, fR3 _⟩ | (exfalso; omega)
       ·intro z0 H2 h0
        obtain ⟨rfl, hb2, hH2⟩ : NF _ _ _ _ z0 _ H2 := h0
        have ng := hng (.inl fun h' hh => by
         obtain ⟨g1, g2, g3, e, g4, g5, g6, g7⟩ := zCI.1 hh
         rw [hio, he1] at g4
         simp only [Option.some.injEq] at g4
         omega)
        rcases hH2 with rfl | rfl
        ·repeat' (first | refine And.intro (by omega) ?_ | simp -implicitDefEqProofs (disch := omega) only [push_cast])
         first | exact fr3 | exact ⟨ng, fr3⟩
        ·repeat' (first | refine And.intro (by omega) ?_ | simp -implicitDefEqProofs (disch := omega) only [push_cast, Int.reduceNeg])
         first | exact fR3 _ | exact ⟨ng, fR3 _⟩
      ·have ng := hng (.inl fun h' hh => by
        obtain ⟨g1, g2, g3, e, g4, g5, g6, g7⟩ := zCI.1 hh
        rw [hio, he1] at g4
        rw [hio, he2] at g5
        simp only [Option.some.injEq] at g4 g5
        omega)
       repeat' (first | refine And.intro (by omega) ?_ | refine zN (zAW _) ?_ | simp -implicitDefEqProofs (disch := omega) only [zX, push_cast, ↓reduceIte, Nat.reduceEqDiff])
       first | exact fr3 | exact ⟨ng, fr3⟩
     ·rintro z0 G3 ⟨rfl, hb2, hf2⟩
      have ng := hng (by
       by_cases hg : ∃ e, zBT ps k el false 0 = some e
       ·refine .inr (Classical.byContradiction fun hno => hb2 ⟨hg, ?_, ?_⟩) <;> simp only [zBD, zCM] at hno <;> omega
       ·exact .inl fun h' hh => by
         obtain ⟨g1, g2, g3, e, g4, g5, g6, g7⟩ := zCI.1 hh
         rw [hio] at g5
         exact hg ⟨_, g5⟩)
      repeat' (first | refine And.intro (by omega) ?_ | simp -implicitDefEqProofs (disch := omega) only [push_cast])
      first | exact fr2.trans hf2 | exact ⟨ng, fr2.trans hf2⟩
    ·rintro z0 G2 ⟨rfl, hb2, hf2⟩
     have ng := hng (by
      by_cases hg : ∃ e, zBT ps k bd false 0 = some e
      ·refine .inr (Classical.byContradiction fun hno => hb2 ⟨hg, ?_, ?_⟩) <;> simp only [zBD, zCM] at hno <;> omega
      ·exact .inl fun h' hh => by
        obtain ⟨g1, g2, g3, e, g4, g5, g6, g7⟩ := zCI.1 hh
        rw [hio] at g4
        exact hg ⟨_, g4⟩)
     repeat' (first | refine And.intro (by omega) ?_ | simp -implicitDefEqProofs (disch := omega) only [push_cast])
     first | exact (fY _ _ _).trans hf2 | exact ⟨ng, (fY _ _ _).trans hf2⟩
   ·intro z0 H2 h0
    obtain ⟨rfl, hb2, hH2⟩ : NF _ _ _ _ z0 _ H2 := h0
    have ng := hng (.inl fun h' hh => by
     obtain ⟨g1, g2, g3, _⟩ := zCI.1 hh
     omega)
    rcases hH2 with rfl | rfl
    ·repeat' (first | refine And.intro (by omega) ?_ | simp -implicitDefEqProofs (disch := omega) only [push_cast])
     first | exact fX _ _ | exact ⟨ng, fX _ _⟩
    ·simp -implicitDefEqProofs (disch := omega) only [zB, zO, zF, zI, zB8, zY, zBF, zBG, zBE, zBl, zL, zV, zAf, zAB, zAa, zX, push_cast, ↓reduceIte, Nat.reduceEqDiff, reduceCtorEq, Nat.reduceAdd, Nat.reduceSub, Nat.reduceMul, Nat.reduceLeDiff, Nat.reduceLT, Nat.reduceMod, Nat.reduceDiv, Int.reduceToNat, Int.reduceLT, Int.reduceLE, Int.reduceEq, Int.reduceAdd, Int.reduceSub, Int.reduceNeg, Int.reduceMul, Bool.and_self]
     repeat' (refine And.intro (by omega) ?_)
     first | exact fY _ _ _ | exact ⟨ng, fY _ _ _⟩
  | true =>
   by_cases h1e : h = 1
   ·have hio : (true && decide (h = 1)) = true := by simp [h1e]
    have h18 := fun h' => zCI (ps := ps) (k := k) (a := a) (b := b) (bd := bd) (el := el) (out := true) (h := h) (h' := h')
    have hx0 := hx
    repeat' (first | refine And.intro (by omega) ?_ | refine zD (zAF _) ?_ | simp -implicitDefEqProofs (disch := omega) only [e0, e11, e42, e43, e44, gr, hrow, zB, zO, splice, List.length_map, zAl, hXr, hXx, L46, LCode.sub, zL, zAf, push_cast, ↓reduceIte, Nat.reduceEqDiff, reduceCtorEq, Nat.reduceAdd, Nat.reduceLeDiff, Int.reduceEq, Int.reduceNeg, Bool.and_self])
    refine zG (zB5 h 1 (-1) hhh (by omega) _ _ (hX10 _ _)) ?_ ?_
    ·intro y0 H2 h0
     obtain ⟨hb1, rfl⟩ : NT _ _ _ _ _ H2 := h0
     simp -implicitDefEqProofs (disch := omega) only [zB, zO, zF, zI, zB8, zY, zBF, zBG, zBE, zBl, zL, zV, zAf, zAB, zAa, zX, push_cast, ↓reduceIte, Nat.reduceEqDiff, reduceCtorEq, Nat.reduceAdd, Nat.reduceSub, Nat.reduceMul, Nat.reduceLeDiff, Nat.reduceLT, Nat.reduceMod, Nat.reduceDiv, Int.reduceToNat, Int.reduceLT, Int.reduceLE, Int.reduceEq, Int.reduceAdd, Int.reduceSub, Int.reduceNeg, Int.reduceMul, Bool.and_self]
     repeat' (simp -implicitDefEqProofs (disch := omega) only [e0, e2, e3, e10, hY10, hYx, zAa, push_cast, ↓reduceIte, Nat.reduceEqDiff, reduceCtorEq, Nat.reduceAdd, Nat.reduceLeDiff, Int.reduceNeg])
     refine zG (hbd true (level + 1) (c + zQ (l.take j) + 1) _ r (hYr _ _ _) (by omega) (by omega) (by omega) (by omega)) ?_ ?_
     ·rintro y0 G2 ⟨y1, rfl, he1, hc1, hv1, hf1, hr2⟩
      have rg1 := zAK hp bd _ 0 y1 (by omega) (by omega) he1
      have fr2 : Fr1 r G G2 := (fY _ _ _).trans hf1
      have l2 : G'.length + 1 ≤ G2.length := by have := hf1.1; simpa using this
      have k9 : G2[G.length]? = some (.box (prR (ps.getD k default))) := (hf1.2 _ (by simp; omega) (by omega)).trans (hY9 _ _ _)
      have k10 : G2[G.length + 1]? = some (.box [int (h + -1)]) := (hf1.2 _ (by simp; omega) (by omega)).trans (hY10 _ _ _)
      have kx : G2[G'.length]? = some (.box [int 18, int a, int b, .sl 5 (bd.map zAt), .sl 5 (el.map zAt)]) := (hf1.2 _ (by simp) (by omega)).trans (hYx _ _ _ _)
      clear hf1
      repeat' (simp -implicitDefEqProofs (disch := omega) only [e0, e3, kx, push_cast, ↓reduceIte, Nat.reduceEqDiff, reduceCtorEq, Nat.reduceAdd, Nat.reduceLeDiff, Int.reduceNeg])
      refine zG (hel true (level + 1) (c + zQ (l.take j) + 1 + zQ bd) G2 r hr2 (by omega) (by omega) (by omega) (by omega)) ?_ ?_
      ·rintro y0 G3 ⟨y2, rfl, he2, hc2, hv2, hf2, hr3⟩
       have rg2 := zAK hp el _ 0 y2 (by omega) (by omega) he2
       have fr3 : Fr1 r G G3 := fr2.trans hf2
       have l3 : G'.length + 1 ≤ G3.length := Nat.le_trans l2 hf2.1
       have m9 : G3[G.length]? = some (.box (prR (ps.getD k default))) := (hf2.2 _ (by omega) (by omega)).trans k9
       have m10 : G3[G.length + 1]? = some (.box [int (h + -1)]) := (hf2.2 _ (by omega) (by omega)).trans k10
       have mx : G3[G'.length]? = some (.box [int 18, int a, int b, .sl 5 (bd.map zAt), .sl 5 (el.map zAt)]) := (hf2.2 _ (by omega) (by omega)).trans kx
       clear hf2 k9 k10 kx
       have fR3 : ∀ X, Fr1 r G (G3.set (G.length + 1) X) := fun X => fr3.set' (by omega) X
       by_cases hy : y2 = y1
       ·subst hy
        repeat' (first | refine zD (zAF _) ?_ | simp -implicitDefEqProofs (disch := omega) only [e11, push_cast, ↓reduceIte, Nat.reduceEqDiff, Int.reduceNeg])
        refine zG (zB5 (h + -1) 0 y2 (by omega) (by omega) _ _ m10) ?_ ?_
        ·intro y0 H2 h0
         obtain ⟨hb2, rfl⟩ : NT _ _ _ _ _ H2 := h0
         by_cases hab : a = 0 ∧ b = 0
         ·have hI := (h18 _).2 ⟨hab.1, hab.2, by omega, y2, by rw [hio]; exact he1, by rw [hio]; exact he2, by omega, rfl⟩
          rw [hI] at ef
          repeat' (first | refine zD (zAF _) ?_ | simp -implicitDefEqProofs (disch := omega) only [e44, mx, zF, zAa, push_cast, ↓reduceIte, Nat.reduceEqDiff, Nat.reduceAdd, Nat.reduceLeDiff, Int.reduceNeg])
          have hcnt : c + (zQ (l.take j) : Int) + 1 + zQ bd + zQ el = c + (zQ (l.take (j + 1)) : Nat) := by rw [hsn]; push_cast; omega
          have hyy : h + -1 + y2 = h + (y2 - 1) := by omega
          exact .mk (j + 1, h + (y2 - 1)) ⟨e0, e2, e3, e9, e10, e11, e12, e42, e43, rfl, by rw [zF (by omega), hr3, hcnt], by rw [zF (by omega)]; exact m9, by rw [zI (by omega), hyy], fR3 _, by simp; omega, hlt, by dsimp only; omega, by dsimp only; rw [hsn]; omega, by dsimp only; rw [hsl]; omega, ef⟩ (by dsimp only; omega)
         ·have ng := hng (.inl fun h' hh => hab (by obtain ⟨g1, g2, _⟩ := zCI.1 hh; exact ⟨g1, g2⟩))
          repeat' (first | refine And.intro (by omega) ?_ | refine zN (zAW _) ?_ | simp -implicitDefEqProofs (disch := omega) only [mx, zF, zAa, zX, push_cast, ↓reduceIte, Nat.reduceEqDiff, Nat.reduceAdd, Nat.reduceLeDiff, Int.reduceNeg] | split)
          all_goals first | exact fR3 _ | exact ⟨ng, fR3 _⟩ | (exfalso; omega)
        ·intro z0 H2 h0
         obtain ⟨rfl, hb2, hH2⟩ : NF _ _ _ _ z0 _ H2 := h0
         have ng := hng (.inl fun h' hh => by
          obtain ⟨g1, g2, g3, e, g4, g5, g6, g7⟩ := zCI.1 hh
          rw [hio, he1] at g4
          simp only [Option.some.injEq] at g4
          omega)
         rcases hH2 with rfl | rfl
         ·repeat' (refine And.intro (by omega) ?_)
          first | exact fr3 | exact ⟨ng, fr3⟩
         ·repeat' (refine And.intro (by omega) ?_)
          first | exact fR3 _ | exact ⟨ng, fR3 _⟩
       ·have ng := hng (.inl fun h' hh => by
         obtain ⟨g1, g2, g3, e, g4, g5, g6, g7⟩ := zCI.1 hh
         rw [hio, he1] at g4
         rw [hio, he2] at g5
         simp only [Option.some.injEq] at g4 g5
         omega)
        repeat' (first | refine And.intro (by omega) ?_ | refine zN (zAW _) ?_ | simp -implicitDefEqProofs (disch := omega) only [zX, push_cast, ↓reduceIte, Nat.reduceEqDiff, Int.reduceNeg])
        first | exact fr3 | exact ⟨ng, fr3⟩
      ·rintro z0 G3 ⟨rfl, hb2, hf2⟩
       have ng := hng (by
        by_cases hg : ∃ e, zBT ps k el true 0 = some e
        ·refine .inr (Classical.byContradiction fun hno => hb2 ⟨hg, ?_, ?_⟩) <;> simp only [zBD, zCM] at hno <;> omega
        ·exact .inl fun h' hh => by
          obtain ⟨g1, g2, g3, e, g4, g5, g6, g7⟩ := zCI.1 hh
          rw [hio] at g5
          exact hg ⟨_, g5⟩)
       repeat' (first | refine And.intro (by omega) ?_ | simp -implicitDefEqProofs (disch := omega) only [push_cast, Int.reduceNeg])
       first | exact fr2.trans hf2 | exact ⟨ng, fr2.trans hf2⟩
     ·rintro z0 G2 ⟨rfl, hb2, hf2⟩
      have ng := hng (by
       by_cases hg : ∃ e, zBT ps k bd true 0 = some e
       ·refine .inr (Classical.byContradiction fun hno => hb2 ⟨hg, ?_, ?_⟩) <;> simp only [zBD, zCM] at hno <;> omega
       ·exact .inl fun h' hh => by
         obtain ⟨g1, g2, g3, e, g4, g5, g6, g7⟩ := zCI.1 hh
         rw [hio] at g4
         exact hg ⟨_, g4⟩)
      repeat' (first | refine And.intro (by omega) ?_ | simp -implicitDefEqProofs (disch := omega) only [push_cast, Int.reduceNeg])
      first | exact (fY _ _ _).trans hf2 | exact ⟨ng, (fY _ _ _).trans hf2⟩
    ·intro z0 H2 h0
     obtain ⟨rfl, hb2, hH2⟩ : NF _ _ _ _ z0 _ H2 := h0
     have ng := hng (.inl fun h' hh => by
      obtain ⟨g1, g2, g3, _⟩ := zCI.1 hh
      omega)
     rcases hH2 with rfl | rfl
     ·repeat' (refine And.intro (by omega) ?_)
      first | exact fX _ _ | exact ⟨ng, fX _ _⟩
     ·simp -implicitDefEqProofs (disch := omega) only [zB, zO, zF, zI, zB8, zY, zBF, zBG, zBE, zBl, zL, zV, zAf, zAB, zAa, zX, push_cast, ↓reduceIte, Nat.reduceEqDiff, reduceCtorEq, Nat.reduceAdd, Nat.reduceSub, Nat.reduceMul, Nat.reduceLeDiff, Nat.reduceLT, Nat.reduceMod, Nat.reduceDiv, Int.reduceToNat, Int.reduceLT, Int.reduceLE, Int.reduceEq, Int.reduceAdd, Int.reduceSub, Int.reduceNeg, Int.reduceMul, Bool.and_self]
      repeat' (refine And.intro (by omega) ?_)
      first | exact fY _ _ _ | exact ⟨ng, fY _ _ _⟩
   ·have hio : (true && decide (h = 1)) = false := by simp [h1e]
    have h18 := fun h' => zCI (ps := ps) (k := k) (a := a) (b := b) (bd := bd) (el := el) (out := true) (h := h) (h' := h')
    have hx0 := hx
    repeat' (first | refine And.intro (by omega) ?_ | refine zD (zAF _) ?_ | simp -implicitDefEqProofs (disch := omega) only [e0, e11, e42, e43, e44, gr, hrow, zB, zO, splice, List.length_map, zAl, hXr, hXx, L46, LCode.sub, zL, zAf, push_cast, ↓reduceIte, Nat.reduceEqDiff, reduceCtorEq, Nat.reduceAdd, Nat.reduceLeDiff, Int.reduceEq, Int.reduceNeg, Bool.and_self])
    refine zG (zB5 h 1 (-1) hhh (by omega) _ _ (hX10 _ _)) ?_ ?_
    ·intro y0 H2 h0
     obtain ⟨hb1, rfl⟩ : NT _ _ _ _ _ H2 := h0
     simp -implicitDefEqProofs (disch := omega) only [zB, zO, zF, zI, zB8, zY, zBF, zBG, zBE, zBl, zL, zV, zAf, zAB, zAa, zX, push_cast, ↓reduceIte, Nat.reduceEqDiff, reduceCtorEq, Nat.reduceAdd, Nat.reduceSub, Nat.reduceMul, Nat.reduceLeDiff, Nat.reduceLT, Nat.reduceMod, Nat.reduceDiv, Int.reduceToNat, Int.reduceLT, Int.reduceLE, Int.reduceEq, Int.reduceAdd, Int.reduceSub, Int.reduceNeg, Int.reduceMul, Bool.and_self]
     repeat' (simp -implicitDefEqProofs (disch := omega) only [e0, e2, e3, e10, hY10, hYx, zX, push_cast, ↓reduceIte, Nat.reduceEqDiff, reduceCtorEq, Nat.reduceAdd, Nat.reduceLeDiff, Int.reduceNeg])
     refine zG (hbd false (level + 1) (c + zQ (l.take j) + 1) _ r (hYr _ _ _) (by omega) (by omega) (by omega) (by omega)) ?_ ?_
     ·rintro y0 G2 ⟨y1, rfl, he1, hc1, hv1, hf1, hr2⟩
      have rg1 := zAK hp bd _ 0 y1 (by omega) (by omega) he1
      have fr2 : Fr1 r G G2 := (fY _ _ _).trans hf1
      have l2 : G'.length + 1 ≤ G2.length := by have := hf1.1; simpa using this
      have k9 : G2[G.length]? = some (.box (prR (ps.getD k default))) := (hf1.2 _ (by simp; omega) (by omega)).trans (hY9 _ _ _)
      have k10 : G2[G.length + 1]? = some (.box [int (h + -1)]) := (hf1.2 _ (by simp; omega) (by omega)).trans (hY10 _ _ _)
      have kx : G2[G'.length]? = some (.box [int 18, int a, int b, .sl 5 (bd.map zAt), .sl 5 (el.map zAt)]) := (hf1.2 _ (by simp) (by omega)).trans (hYx _ _ _ _)
      clear hf1
      repeat' (simp -implicitDefEqProofs (disch := omega) only [e0, e3, kx, push_cast, ↓reduceIte, Nat.reduceEqDiff, reduceCtorEq, Nat.reduceAdd, Nat.reduceLeDiff, Int.reduceNeg])
      refine zG (hel false (level + 1) (c + zQ (l.take j) + 1 + zQ bd) G2 r hr2 (by omega) (by omega) (by omega) (by omega)) ?_ ?_
      ·rintro y0 G3 ⟨y2, rfl, he2, hc2, hv2, hf2, hr3⟩
       have rg2 := zAK hp el _ 0 y2 (by omega) (by omega) he2
       have fr3 : Fr1 r G G3 := fr2.trans hf2
       have l3 : G'.length + 1 ≤ G3.length := Nat.le_trans l2 hf2.1
       have m9 : G3[G.length]? = some (.box (prR (ps.getD k default))) := (hf2.2 _ (by omega) (by omega)).trans k9
       have m10 : G3[G.length + 1]? = some (.box [int (h + -1)]) := (hf2.2 _ (by omega) (by omega)).trans k10
       have mx : G3[G'.length]? = some (.box [int 18, int a, int b, .sl 5 (bd.map zAt), .sl 5 (el.map zAt)]) := (hf2.2 _ (by omega) (by omega)).trans kx
       clear hf2 k9 k10 kx
       have fR3 : ∀ X, Fr1 r G (G3.set (G.length + 1) X) := fun X => fr3.set' (by omega) X
       by_cases hy : y2 = y1
       ·subst hy
        repeat' (first | refine zD (zAF _) ?_ | simp -implicitDefEqProofs (disch := omega) only [e11, push_cast, ↓reduceIte, Nat.reduceEqDiff, Int.reduceNeg])
        refine zG (zB5 (h + -1) 0 y2 (by omega) (by omega) _ _ m10) ?_ ?_
        ·intro y0 H2 h0
         obtain ⟨hb2, rfl⟩ : NT _ _ _ _ _ H2 := h0
         by_cases hab : a = 0 ∧ b = 0
         ·have hI := (h18 _).2 ⟨hab.1, hab.2, by omega, y2, by rw [hio]; exact he1, by rw [hio]; exact he2, by omega, rfl⟩
          rw [hI] at ef
          repeat' (first | refine zD (zAF _) ?_ | simp -implicitDefEqProofs (disch := omega) only [e44, mx, zF, zAa, push_cast, ↓reduceIte, Nat.reduceEqDiff, Nat.reduceAdd, Nat.reduceLeDiff, Int.reduceNeg])
          have hcnt : c + (zQ (l.take j) : Int) + 1 + zQ bd + zQ el = c + (zQ (l.take (j + 1)) : Nat) := by rw [hsn]; push_cast; omega
          have hyy : h + -1 + y2 = h + (y2 - 1) := by omega
          exact .mk (j + 1, h + (y2 - 1)) ⟨e0, e2, e3, e9, e10, e11, e12, e42, e43, rfl, by rw [zF (by omega), hr3, hcnt], by rw [zF (by omega)]; exact m9, by rw [zI (by omega), hyy], fR3 _, by simp; omega, hlt, by dsimp only; omega, by dsimp only; rw [hsn]; omega, by dsimp only; rw [hsl]; omega, ef⟩ (by dsimp only; omega)
         ·have ng := hng (.inl fun h' hh => hab (by obtain ⟨g1, g2, _⟩ := zCI.1 hh; exact ⟨g1, g2⟩))
          repeat' (first | refine And.intro (by omega) ?_ | refine zN (zAW _) ?_ | simp -implicitDefEqProofs (disch := omega) only [mx, zF, zAa, zX, push_cast, ↓reduceIte, Nat.reduceEqDiff, Nat.reduceAdd, Nat.reduceLeDiff, Int.reduceNeg] | split)
          all_goals first | exact fR3 _ | exact ⟨ng, fR3 _⟩ | (exfalso; omega)
        ·intro z0 H2 h0
         obtain ⟨rfl, hb2, hH2⟩ : NF _ _ _ _ z0 _ H2 := h0
         have ng := hng (.inl fun h' hh => by
          obtain ⟨g1, g2, g3, e, g4, g5, g6, g7⟩ := zCI.1 hh
          rw [hio, he1] at g4
          simp only [Option.some.injEq] at g4
          omega)
         rcases hH2 with rfl | rfl
         ·repeat' (first | refine And.intro (by omega) ?_ | simp -implicitDefEqProofs (disch := omega) only [push_cast, Int.reduceNeg])
          first | exact fr3 | exact ⟨ng, fr3⟩
         ·repeat' (first | refine And.intro (by omega) ?_ | simp -implicitDefEqProofs (disch := omega) only [push_cast, Int.reduceNeg])
          first | exact fR3 _ | exact ⟨ng, fR3 _⟩
       ·have ng := hng (.inl fun h' hh => by
         obtain ⟨g1, g2, g3, e, g4, g5, g6, g7⟩ := zCI.1 hh
         rw [hio, he1] at g4
         rw [hio, he2] at g5
         simp only [Option.some.injEq] at g4 g5
         omega)
        repeat' (first | refine And.intro (by omega) ?_ | refine zN (zAW _) ?_ | simp -implicitDefEqProofs (disch := omega) only [zX, push_cast, ↓reduceIte, Nat.reduceEqDiff, Int.reduceNeg])
        first | exact fr3 | exact ⟨ng, fr3⟩
      ·rintro z0 G3 ⟨rfl, hb2, hf2⟩
       have ng := hng (by
        by_cases hg : ∃ e, zBT ps k el false 0 = some e
        ·refine .inr (Classical.byContradiction fun hno => hb2 ⟨hg, ?_, ?_⟩) <;> simp only [zBD, zCM] at hno <;> omega
        ·exact .inl fun h' hh => by
          obtain ⟨g1, g2, g3, e, g4, g5, g6, g7⟩ := zCI.1 hh
          rw [hio] at g5
          exact hg ⟨_, g5⟩)
       repeat' (first | refine And.intro (by omega) ?_ | simp -implicitDefEqProofs (disch := omega) only [push_cast, Int.reduceNeg])
       first | exact fr2.trans hf2 | exact ⟨ng, fr2.trans hf2⟩
     ·rintro z0 G2 ⟨rfl, hb2, hf2⟩
      have ng := hng (by
       by_cases hg : ∃ e, zBT ps k bd false 0 = some e
       ·refine .inr (Classical.byContradiction fun hno => hb2 ⟨hg, ?_, ?_⟩) <;> simp only [zBD, zCM] at hno <;> omega
       ·exact .inl fun h' hh => by
         obtain ⟨g1, g2, g3, e, g4, g5, g6, g7⟩ := zCI.1 hh
         rw [hio] at g4
         exact hg ⟨_, g4⟩)
      repeat' (first | refine And.intro (by omega) ?_ | simp -implicitDefEqProofs (disch := omega) only [push_cast, Int.reduceNeg])
      first | exact (fY _ _ _).trans hf2 | exact ⟨ng, (fY _ _ _).trans hf2⟩
    ·intro z0 H2 h0
     obtain ⟨rfl, hb2, hH2⟩ : NF _ _ _ _ z0 _ H2 := h0
     have ng := hng (.inl fun h' hh => by
      obtain ⟨g1, g2, g3, _⟩ := zCI.1 hh
      omega)
     rcases hH2 with rfl | rfl
     ·repeat' (first | refine And.intro (by omega) ?_ | simp -implicitDefEqProofs (disch := omega) only [push_cast])
      first | exact fX _ _ | exact ⟨ng, fX _ _⟩
     ·simp -implicitDefEqProofs (disch := omega) only [zB, zO, zF, zI, zB8, zY, zBF, zBG, zBE, zBl, zL, zV, zAf, zAB, zAa, zX, push_cast, ↓reduceIte, Nat.reduceEqDiff, reduceCtorEq, Nat.reduceAdd, Nat.reduceSub, Nat.reduceMul, Nat.reduceLeDiff, Nat.reduceLT, Nat.reduceMod, Nat.reduceDiv, Int.reduceToNat, Int.reduceLT, Int.reduceLE, Int.reduceEq, Int.reduceAdd, Int.reduceSub, Int.reduceNeg, Int.reduceMul, Bool.and_self]
      repeat' (refine And.intro (by omega) ?_)
      first | exact fY _ _ _ | exact ⟨ng, fY _ _ _⟩
 ·repeat' (first | refine And.intro (by omega) ?_ | refine zN (zAW _) ?_ | simp -implicitDefEqProofs (disch := omega) only [e0, e42, e43, e44, gr, hrow, zB, zO, splice, List.length_map, zAl, hXr, L46, LCode.sub, zL, zAB, push_cast, ↓reduceIte, Nat.reduceEqDiff, reduceCtorEq, Nat.reduceAdd, Nat.reduceLeDiff, Int.reduceNeg, Bool.and_self])
  exact ⟨hng (.inr (.inl (by simp only [zBD]; omega))), fX _ _⟩
set_option maxHeartbeats 8000000 in
theorem rnd_19 (ps : List Pr) (k : Nat) (hk : k < ps.length) (hps : ps.length ≤ 1048576) (hp : zCK ps k) (hh : zCw (ps.getD k default)) (l : List Ins) (out : Bool) (level c : Int) (r : Nat) (G : zC) : RndP ps k l out level c r G 19 := by
 intro j h e' G' a b bd el hlt hx hs hbd hel hrl hc0 hl0 hl1 ⟨e0, e2, e3, e9, e10, e11, e12, e42, e43, e44, gr, g9, g10, fr, gl, hj, hhh, cc, lv, ef⟩
 have hrow : (l.map zAt).getD j [] = [int 19, int a, int b, .sl 5 (bd.map zAt), .sl 5 (el.map zAt)] := by
  rw [zU hlt, hx]; simp [zAt, zAm]
 have hrl' := Nat.lt_of_lt_of_le hrl fr.1
 have hb := zAk l (j + 1)
 have hb2 := zAG l (j + 1)
 have hsn := zAh hlt
 have hsl := zAD hlt
 rw [hx] at hsn hsl
 simp only [zBD, zCM] at hsn hsl
 have hbl := zM bd
 have hell := zM el
 have hbv := zAb bd
 have helv := zAb el
 obtain ⟨q1, q2, q3, q4, q5, q6, q7, q8⟩ := hh
 have ef0 := ef
 rw [zAM ps k hlt, hx] at ef
 have fA : ∀ B b, Fr1 r G (G'.set r B ++ [b]) := fun B b => (fr.trans (Fr1.set B)).trans (Fr1.app _)
 have fB : ∀ B b X, Fr1 r G ((G'.set r B).set (G.length + 1) X ++ [b]) := fun B b X => ((fr.trans (Fr1.set B)).set' (i := G.length + 1) (by omega) X).trans (Fr1.app _)
 have hng : ((∀ h', ¬ zCt ps k (.mk 19 a b bd el) out h = some h') ∨ 32768 < c + zQ (l.take j) + zBD (.mk 19 a b bd el) ∨ 257 < level + zCM (.mk 19 a b bd el)) → ¬ goodL ps k l out level c := zBd hlt hx ef0
 have hSr : ∀ B b, (G'.set r B ++ [b])[r]? = some B := fun B b => by rw [zB (by simpa using hrl'), zI hrl']
 have hS9 : ∀ B b, (G'.set r B ++ [b])[G.length]? = some (.box (prR (ps.getD k default))) := fun B b => by rw [zB (by rw [List.length_set]; omega), zF (by omega)]; exact g9
 have hS10 : ∀ B b, (G'.set r B ++ [b])[G.length + 1]? = some (.box [int h]) := fun B b => by rw [zB (by rw [List.length_set]; omega), zF (by omega)]; exact g10
 have hSx : ∀ B b, (G'.set r B ++ [b])[G'.length]? = some b := fun B b => by rw [List.getElem?_append_right (by simp)]; simp
 have hTx : ∀ B b X, ((G'.set r B).set (G.length + 1) X ++ [b])[G'.length]? = some b := fun B b X => by rw [List.getElem?_append_right (by simp)]; simp
 have hln := zM l
 have hXr : ∀ B X, (G'.set r B ++ X)[r]? = some B := fun B X => by rw [zB (by simpa using hrl'), zI hrl']
 have hX9 : ∀ B X, (G'.set r B ++ X)[G.length]? = some (.box (prR (ps.getD k default))) := fun B X => by rw [zB (by rw [List.length_set]; omega), zF (by omega)]; exact g9
 have hX10 : ∀ B X, (G'.set r B ++ X)[G.length + 1]? = some (.box [int h]) := fun B X => by rw [zB (by rw [List.length_set]; omega), zF (by omega)]; exact g10
 have hXx : ∀ B b X, (G'.set r B ++ b :: X)[G'.length]? = some b := fun B b X => by rw [List.getElem?_append_right (by simp)]; simp
 have hXy : ∀ B b d X, (G'.set r B ++ b :: d :: X)[G'.length + 1]? = some d := fun B b d X => by rw [List.getElem?_append_right (by simp)]; simp
 have hYr : ∀ B Y X, ((G'.set r B).set (G.length + 1) Y ++ X)[r]? = some B := fun B Y X => by rw [zB (by simpa using hrl'), zF (by omega), zI hrl']
 have hY9 : ∀ B Y X, ((G'.set r B).set (G.length + 1) Y ++ X)[G.length]? = some (.box (prR (ps.getD k default))) := fun B Y X => by rw [zB (by simp; omega), zF (by omega), zF (by omega)]; exact g9
 have hY10 : ∀ B Y X, ((G'.set r B).set (G.length + 1) Y ++ X)[G.length + 1]? = some Y := fun B Y X => by rw [zB (by simp; omega), zI (by simp; omega)]
 have hYx : ∀ B Y b X, ((G'.set r B).set (G.length + 1) Y ++ b :: X)[G'.length]? = some b := fun B Y b X => by rw [List.getElem?_append_right (by simp)]; simp
 have hXs : ∀ B b z Y, (G'.set r B ++ [b, z]).set (G'.length + 1) Y = G'.set r B ++ [b, Y] := fun B b z Y => by rw [List.set_append_right _ _ (by simp)]; simp
 have fX : ∀ B X, Fr1 r G (G'.set r B ++ X) := fun B X => (fr.trans (Fr1.set B)).trans (Fr1.app _)
 have fY : ∀ B Y X, Fr1 r G ((G'.set r B).set (G.length + 1) Y ++ X) := fun B Y X => ((fr.trans (Fr1.set B)).set' (i := G.length + 1) (by omega) Y).trans (Fr1.app _)
 by_cases hcn : c + zQ (l.take j) + 1 ≤ 32768
 ·by_cases hh0 : h = 0
  ·subst hh0
   cases out with
   | false =>
    have ng := hng (.inl fun h' hh => by have := (eff19.1 hh).2.2.1; cases this)
    repeat' (first | refine And.intro (by omega) ?_ | refine zD (zAF _) ?_ | refine zN (zAW _) ?_ | simp -implicitDefEqProofs (disch := omega) only [e0, e2, e10, e42, e43, e44, gr, hrow, zB, zO, splice, List.length_map, zAl, hXr, hX10, hXx, L46, LCode.sub, zL, zAf, push_cast, ↓reduceIte, Nat.reduceEqDiff, reduceCtorEq, Nat.reduceAdd, Nat.reduceLeDiff, Int.reduceEq, Int.reduceNeg, Bool.and_self])
    all_goals first | exact fX _ _ | exact ⟨ng, fX _ _⟩
   | true =>
    repeat' (first | refine And.intro (by omega) ?_ | refine zD (zAF _) ?_ | simp -implicitDefEqProofs (disch := omega) only [e0, e2, e3, e10, e42, e43, e44, gr, hrow, zB, zO, splice, List.length_map, zAl, hXr, hX10, hXx, L46, LCode.sub, zL, zAf, push_cast, ↓reduceIte, Nat.reduceEqDiff, reduceCtorEq, Nat.reduceAdd, Nat.reduceLeDiff, Int.reduceEq, Int.reduceNeg, Bool.and_self])
    refine callXMF_mono (hbd true (level + 1) (c + zQ (l.take j) + 1) _ r (hXr _ _) (by omega) (by omega) (by omega) (by omega)) ?_ ?_
    ·rintro y0 G2 ⟨y1, rfl, he1, hc1, hv1, hf1, hr2⟩
     have fr2 : Fr1 r G G2 := (fX _ _).trans hf1
     have l2 : G'.length + 1 ≤ G2.length := by have := hf1.1; simpa using this
     have k9 : G2[G.length]? = some (.box (prR (ps.getD k default))) := (hf1.2 _ (by simp; omega) (by omega)).trans (hX9 _ _)
     have k10 : G2[G.length + 1]? = some (.box [int 0]) := (hf1.2 _ (by simp; omega) (by omega)).trans (hX10 _ _)
     have kx : G2[G'.length]? = some (.box [int 19, int a, int b, .sl 5 (bd.map zAt), .sl 5 (el.map zAt)]) := (hf1.2 _ (by simp) (by omega)).trans (hXx _ _ _)
     clear hf1
     by_cases hy1 : y1 = 0
     ·subst hy1
      repeat' (simp -implicitDefEqProofs (disch := omega) only [e0, e3, kx, push_cast, ↓reduceIte, Nat.reduceEqDiff, reduceCtorEq, Nat.reduceAdd, Nat.reduceLeDiff])
      refine callXMF_mono (hel false (level + 1) (c + zQ (l.take j) + 1 + zQ bd) G2 r hr2 (by omega) (by omega) (by omega) (by omega)) ?_ ?_
      ·rintro y0 G3 ⟨y2, rfl, he2, hc2, hv2, hf2, hr3⟩
       have fr3 : Fr1 r G G3 := fr2.trans hf2
       have l3 : G'.length + 1 ≤ G3.length := Nat.le_trans l2 hf2.1
       have m9 : G3[G.length]? = some (.box (prR (ps.getD k default))) := (hf2.2 _ (by omega) (by omega)).trans k9
       have m10 : G3[G.length + 1]? = some (.box [int 0]) := (hf2.2 _ (by omega) (by omega)).trans k10
       have mx : G3[G'.length]? = some (.box [int 19, int a, int b, .sl 5 (bd.map zAt), .sl 5 (el.map zAt)]) := (hf2.2 _ (by omega) (by omega)).trans kx
       clear hf2 k9 k10 kx
       by_cases hy2 : y2 = 1
       ·subst hy2
        by_cases hab : a = 0 ∧ b = 0
        ·have hI := (eff19 (ps := ps) (k := k) (a := a) (b := b) (bd := bd) (el := el) (out := true) (h := 0) (h' := 0)).2 ⟨hab.1, hab.2, rfl, rfl, he2, he1, rfl⟩
         rw [hI] at ef
         repeat' (first | refine zD (zAF _) ?_ | simp -implicitDefEqProofs (disch := omega) only [e44, mx, zAa, push_cast, ↓reduceIte, Nat.reduceEqDiff, Nat.reduceAdd, Nat.reduceLeDiff])
         have hcnt : c + (zQ (l.take j) : Int) + 1 + zQ bd + zQ el = c + (zQ (l.take (j + 1)) : Nat) := by rw [hsn]; push_cast; omega
         exact .mk (j + 1, 0) ⟨e0, e2, e3, e9, e10, e11, e12, e42, e43, rfl, by rw [hr3, hcnt], m9, m10, fr3, by omega, hlt, by dsimp only; omega, by dsimp only; rw [hsn]; omega, by dsimp only; rw [hsl]; omega, ef⟩ (by dsimp only; omega)
        ·have ng := hng (.inl fun h' hh => hab (by obtain ⟨g1, g2, _⟩ := eff19.1 hh; exact ⟨g1, g2⟩))
         repeat' (first | refine And.intro (by omega) ?_ | refine zD (zAF _) ?_ | refine zN (zAW _) ?_ | simp -implicitDefEqProofs (disch := omega) only [mx, zAa, zX, push_cast, ↓reduceIte, Nat.reduceEqDiff, Nat.reduceAdd, Nat.reduceLeDiff] | split)
         all_goals first | exact fr3 | exact ⟨ng, fr3⟩ | (exfalso; omega)
       ·have ng := hng (.inl fun h' hh => by
         have := (eff19.1 hh).2.2.2.2.1
         rw [he2] at this
         simp only [Option.some.injEq] at this
         omega)
        repeat' (first | refine And.intro (by omega) ?_ | refine zN (zAW _) ?_ | simp -implicitDefEqProofs (disch := omega) only [zX, push_cast, ↓reduceIte, Nat.reduceEqDiff])
        all_goals first | exact fr3 | exact ⟨ng, fr3⟩ | (exfalso; omega)
      ·rintro z0 G3 ⟨rfl, hb2, hf2⟩
       have ng := hng (by
        by_cases hg : ∃ e, zBT ps k el false 0 = some e
        ·refine .inr (Classical.byContradiction fun hno => hb2 ⟨hg, ?_, ?_⟩) <;> simp only [zBD, zCM] at hno <;> omega
        ·exact .inl fun h' hh => hg ⟨_, (eff19.1 hh).2.2.2.2.1⟩)
       repeat' (first | refine And.intro (by omega) ?_ | simp -implicitDefEqProofs (disch := omega) only [push_cast])
       first | exact fr2.trans hf2 | exact ⟨ng, fr2.trans hf2⟩
     ·have ng := hng (.inl fun h' hh => by
       have := (eff19.1 hh).2.2.2.2.2.1
       rw [he1] at this
       simp only [Option.some.injEq] at this
       omega)
      repeat' (first | refine And.intro (by omega) ?_ | refine zN (zAW _) ?_ | simp -implicitDefEqProofs (disch := omega) only [zX, push_cast, ↓reduceIte, Nat.reduceEqDiff])
      all_goals first | exact fr2 | exact ⟨ng, fr2⟩ | (exfalso; omega)
    ·rintro z0 G2 ⟨rfl, hb2, hf2⟩
     have ng := hng (by
      by_cases hg : ∃ e, zBT ps k bd true 0 = some e
      ·refine .inr (Classical.byContradiction fun hno => hb2 ⟨hg, ?_, ?_⟩) <;> simp only [zBD, zCM] at hno <;> omega
      ·exact .inl fun h' hh => hg ⟨_, (eff19.1 hh).2.2.2.2.2.1⟩)
     repeat' (first | refine And.intro (by omega) ?_ | simp -implicitDefEqProofs (disch := omega) only [push_cast])
     first | exact (fX _ _).trans hf2 | exact ⟨ng, (fX _ _).trans hf2⟩
  ·have ng := hng (.inl fun h' hh => hh0 (eff19.1 hh).2.2.2.1)
   repeat' (first | refine And.intro (by omega) ?_ | refine zD (zAF _) ?_ | refine zN (zAW _) ?_ | simp -implicitDefEqProofs (disch := omega) only [e0, e10, e42, e43, e44, gr, hrow, zB, zO, splice, List.length_map, zAl, hXr, hX10, hXx, L46, LCode.sub, zL, zAf, zX, push_cast, ↓reduceIte, Nat.reduceEqDiff, reduceCtorEq, Nat.reduceAdd, Nat.reduceLeDiff, Int.reduceEq, Int.reduceNeg, Bool.and_self])
   all_goals first | exact fX _ _ | exact ⟨ng, fX _ _⟩
 ·repeat' (first | refine And.intro (by omega) ?_ | refine zN (zAW _) ?_ | simp -implicitDefEqProofs (disch := omega) only [e0, e42, e43, e44, gr, hrow, zB, zO, splice, List.length_map, zAl, hXr, L46, LCode.sub, zL, zAB, push_cast, ↓reduceIte, Nat.reduceEqDiff, reduceCtorEq, Nat.reduceAdd, Nat.reduceLeDiff, Int.reduceNeg, Bool.and_self])
  exact ⟨hng (.inr (.inl (by simp only [zBD]; omega))), fX _ _⟩
theorem rnd_all (ps : List Pr) (k : Nat) (hk : k < ps.length) (hps : ps.length ≤ 1048576) (hp : zCK ps k) (hh : zCw (ps.getD k default)) (l : List Ins) (out : Bool) (level c : Int) (r : Nat) (G : zC) (o : Int) : RndP ps k l out level c r G o := by
 have hcase : (o < 0 ∨ 22 < o) ∨ (o = 0) ∨ (o = 1) ∨ (o = 2) ∨ (o = 22) ∨ (o = 3) ∨ (o = 16) ∨ (o = 17) ∨ (o = 4) ∨ (5 ≤ o ∧ o ≤ 15) ∨ o = 18 ∨ o = 19 ∨ o = 20 ∨ o = 21 := by omega
 rcases hcase with hc | rfl | rfl | rfl | rfl | rfl | rfl | rfl | rfl | hc | rfl | rfl | rfl | rfl
 ·exact rnd_bad ps k hk hps hp hh l out level c r G o hc
 ·exact rnd_0 ps k hk hps hp hh l out level c r G
 ·exact rnd_1 ps k hk hps hp hh l out level c r G
 ·exact rnd_2 ps k hk hps hp hh l out level c r G
 ·exact rnd_22 ps k hk hps hp hh l out level c r G
 ·exact rnd_3 ps k hk hps hp hh l out level c r G
 ·exact rnd_16 ps k hk hps hp hh l out level c r G
 ·exact rnd_17 ps k hk hps hp hh l out level c r G
 ·exact rnd_4 ps k hk hps hp hh l out level c r G
 ·exact rnd_bin ps k hk hps hp hh l out level c r G o hc
 ·exact rnd_18 ps k hk hps hp hh l out level c r G
 ·exact rnd_19 ps k hk hps hp hh l out level c r G
 ·exact rnd_20 ps k hk hps hp hh l out level c r G
 ·exact rnd_21 ps k hk hps hp hh l out level c r G
theorem effC (ps : List Pr) (k : Nat) (hk : k < ps.length) (hps : ps.length ≤ 1048576) (hp : zCK ps k) (hh : zCw (ps.getD k default)) (l : List Ins) : zQ l ≤ 1048576 → effP ps k l := by
 induction l using Ins.indL with
 | h l ih =>
 intro hs out level c G r hr hc0 hc1 hl0 hl1
 have hrl := (List.getElem?_eq_some_iff.1 hr).1
 refine enterX Tryz.func46 L46_ok (Nat.le_of_ble_eq_true rfl) ?_
 have hln := zM l
 by_cases hlev : level ≤ 256
 ·repeat' (first | refine And.intro (by omega) ?_ | refine zD (zAF _) ?_ | simp -implicitDefEqProofs (disch := omega) only [L46, hr, zAO, zP, zCo, pr_c1s, splice, List.length_map, zAf, push_cast, ↓reduceIte, Nat.reduceEqDiff, reduceCtorEq, Nat.reduceAdd, Nat.reduceLeDiff, Int.reduceNeg, Bool.and_self])
  refine zAj (fun (st : Nat × Int) e' H' => EfI ps k l out level c r G st.1 st.2 e' H') (fun st => l.length - st.1) (0, 0) ?_ ?_
  ·exact ⟨rfl, rfl, rfl, rfl, rfl, rfl, rfl, rfl, rfl, rfl, by rw [zB hrl, hr]; simp [zQ], by simp, by simp, Fr1.app _, by simp, Nat.zero_le _, by simp, by simp [zQ]; omega, by simp [zAI]; omega, by simp⟩
  rintro ⟨j, h⟩ e' G' hI
  by_cases hlt : j < l.length
  ·have hk0 := zAo hlt
   have hx := ih _ hk0
   have hb := zAk l (j + 1)
   rw [zAh hlt, icnt_eq] at hb
   have hx1 := hx.1 (by omega)
   have hx2 := hx.2 (by omega)
   exact rnd_all ps k hk hps hp hh l out level c r G (l.getD j default).op j h e' G' (l.getD j default).a (l.getD j default).b (l.getD j default).body (l.getD j default).els hlt (by cases l.getD j default; rfl) hs hx1 hx2 hrl hc0 hl0 hlev hI
  ·obtain ⟨e0, e2, e3, e9, e10, e11, e12, e42, e43, e44, gr, g9, g10, fr, gl, hj, hhh, cc, lv, ef⟩ := hI
   simp only at *
   have e : j = l.length := by omega
   subst e
   rw [List.drop_length] at ef
   rw [List.take_length] at gr cc lv
   repeat' (simp -implicitDefEqProofs (disch := omega) only [e43, e44, e10, g10, zV, push_cast, ↓reduceIte, Nat.reduceEqDiff, Nat.reduceAdd, Nat.reduceLeDiff, Int.reduceNeg])
   exact ⟨h, rfl, ef, cc, lv, fr, gr⟩
 ·by_cases hl : l.length = 0
  ·have hl2 := List.length_eq_zero_iff.1 hl
   subst hl2
   have hL : (Ax.LX.c (.v (.int .i64 0))) = (Ax.LX.c (.v (.int .i64 0))) := rfl
   repeat' (first | refine And.intro (by omega) ?_ | refine zD (zAF _) ?_ | simp -implicitDefEqProofs (disch := omega) only [L46, hr, zAO, zP, zCo, pr_c1s, splice, List.length_map, List.map_nil, List.length_nil, zAB, push_cast, ↓reduceIte, Nat.reduceEqDiff, reduceCtorEq, Nat.reduceAdd, Nat.reduceLeDiff, Int.reduceNeg, Bool.and_self])
   refine zAj (fun (_ : Unit) e' H' => e' 10 = .ptr (G.length + 1) 0 0 ∧ e' 43 = int 0 ∧ e' 44 = int 0 ∧ H' = G ++ [.box (prR (ps.getD k default)), .box [int 0]]) (fun _ => 0) () ⟨rfl, rfl, rfl, rfl⟩ ?_
   rintro _ e' H' ⟨h10, h43, h44, rfl⟩
   repeat' (simp -implicitDefEqProofs (disch := omega) only [h10, h43, h44, push_cast, ↓reduceIte, Nat.reduceEqDiff, Nat.reduceAdd, Nat.reduceLeDiff, Int.reduceLT, Int.reduceNeg])
   exact ⟨0, rfl, by simp [zBT], by simp [zQ]; omega, by simp [zAI]; omega, Fr1.app _, by rw [zB hrl, hr]; simp [zQ]⟩
  ·repeat' (first | refine zN (zAW _) ?_ | simp -implicitDefEqProofs (disch := omega) only [L46, List.length_map, zAB, zX, push_cast, ↓reduceIte, Nat.reduceEqDiff, reduceCtorEq, Nat.reduceAdd, Int.reduceNeg])
   have h1 : 1 ≤ zAI l := by
    cases l with
    | nil => exact absurd rfl hl
    | cons x l => simp only [zAI]; rw [ilev_eq]; omega
   first | exact ⟨fun hg => by have := hg.2.2; omega, Fr1.refl⟩ | exact Fr1.refl
theorem nmEqC (m q : Pr) (r : Nat) (H : zC) (hr : H[r]? = some (.box (prR q))) : zBg 45 [.agg (prR m), .ptr r 0 0] H (bool (decide (m.name = q.name))) := by
 refine ACall.drop (R := fun x => x = bool (decide (m.name = q.name))) ?_
 refine enter Tryz.func45 L45_ok (Nat.le_of_ble_eq_true rfl) ?_
 have hlt : r < H.length := (List.getElem?_eq_some_iff.1 hr).1
 have hg : ∀ l, (H ++ l)[r]? = some (HO.box (prR q)) := fun l => by rw [List.getElem?_append_left hlt]; exact hr
 repeat' (simp -implicitDefEqProofs (disch := omega) only [L45, zAl, pr_c1s, zP, zBK, hg, push_cast, ↓reduceIte, Nat.reduceEqDiff, reduceCtorEq, Nat.reduceAdd, Nat.reduceLeDiff])
 exact ⟨_, rfl⟩
theorem nmIdxC (l : List Pr) (q : Pr) (hl : l.length ≤ 1048576) (r : Nat) (H : zC) (hr : H[r]? = some (.box (prR q))) : zBg 72 [.sl 6 (l.map prR), .fn (.func 45) [] [.ptr r 0 0]] H (int (idxI (l.findIdx? fun m => decide (m.name = q.name)))) := by
 refine enter Tryz.func72 L72_ok (Nat.le_of_ble_eq_true rfl) ?_
 repeat' (simp -implicitDefEqProofs (disch := omega) only [L72, push_cast, ↓reduceIte, reduceCtorEq, Nat.reduceAdd, Int.reduceNeg])
 refine zAj (fun (j : Nat) e' H' => e' 0 = .sl 6 (l.map prR) ∧ e' 1 = .fn (.func 45) [] [.ptr r 0 0] ∧ e' 7 = int l.length ∧ e' 8 = int j ∧ H = H' ∧ j ≤ l.length ∧ ∀ i, i < j → ¬ (l.getD i default).name = q.name) (fun j => l.length - j) 0 ?_ ?_
 ·exact ⟨rfl, rfl, rfl, rfl, rfl, Nat.zero_le _, by simp⟩
 rintro j e' H' ⟨h0, h1, h7, h8, rfl, hj, hb⟩
 by_cases hlt : j < l.length
 ·have hc := fun m => nmEqC m q r H hr
  cases hin : decide ((l.getD j default).name = q.name)
  ·have hc1 := hc (l.getD j default)
   rw [hin] at hc1
   repeat' (first | refine And.intro (by omega) ?_ | refine zA (hc1) ?_ | simp -implicitDefEqProofs (disch := omega) only [h0, h1, h7, h8, zAO, zP, zCo, zL, push_cast, ↓reduceIte, Nat.reduceEqDiff, reduceCtorEq, Nat.reduceAdd, Nat.reduceLeDiff, Int.reduceNeg])
   exact .mk (j + 1) ⟨h0, h1, h7, rfl, rfl, hlt, zBh hb (of_decide_eq_false hin)⟩ (by omega)
  ·have hc1 := hc (l.getD j default)
   rw [hin] at hc1
   repeat' (first | refine And.intro (by omega) ?_ | refine zA (hc1) ?_ | simp -implicitDefEqProofs (disch := omega) only [h0, h1, h7, h8, zAO, zP, zCo, zL, push_cast, ↓reduceIte, Nat.reduceEqDiff, reduceCtorEq, Nat.reduceAdd, Nat.reduceLeDiff, Int.reduceNeg])
   rw [find_some hlt hin fun i hi => decide_eq_false (hb i hi)]
   rfl
 ·rw [find_none (l := l) (p := fun m => decide (m.name = q.name)) fun i hi => decide_eq_false (hb i (by omega))]
  repeat' (simp -implicitDefEqProofs (disch := omega) only [h7, h8, zV, push_cast, ↓reduceIte, Int.reduceNeg])
  rfl
theorem nmHasC (l : List Pr) (q : Pr) (hl : l.length ≤ 1048576) (r : Nat) (H : zC) (hr : H[r]? = some (.box (prR q))) : zBg 44 [.sl 6 (l.map prR), .fn (.func 45) [] [.ptr r 0 0]] H (bool (l.any fun m => decide (m.name = q.name))) := by
 refine enter Tryz.func44 L44_ok (Nat.le_of_ble_eq_true rfl) ?_
 have hi : (l.any fun m => decide (m.name = q.name)) = decide (0 ≤ idxI (l.findIdx? fun m => decide (m.name = q.name))) := by
  cases h : l.findIdx? fun m => decide (m.name = q.name) with
  | none =>
   rw [List.findIdx?_eq_none_iff] at h
   refine (?_ : _ = false).trans (show false = decide (0 ≤ idxI none) from rfl)
   rw [List.any_eq_false]
   intro x hx
   rw [h x hx]; decide
  | some i =>
   refine (?_ : _ = true).trans (decide_eq_true (show 0 ≤ idxI (some i) by simp only [idxI]; omega)).symm
   rw [List.any_eq_true]
   obtain ⟨h1, h2, _⟩ := List.findIdx?_eq_some_iff_getElem.1 h
   exact ⟨_, List.getElem_mem h1, h2⟩
 rw [hi]
 have hb : -1 ≤ idxI (l.findIdx? fun m => decide (m.name = q.name)) := by
  cases l.findIdx? fun m => decide (m.name = q.name) <;> simp only [idxI] <;> omega
 repeat' (first | refine zA (nmIdxC l q hl r H hr) ?_ | simp -implicitDefEqProofs (disch := omega) only [L44, push_cast, ↓reduceIte, Nat.reduceEqDiff, reduceCtorEq, Nat.reduceAdd])
@[push_cast] theorem recE_one (m : Option Value) (d : Nat) (e : Env) : recE m [d] e = up e d (.v (Go.Ax.recV m)) := rfl
@[push_cast] theorem recE_nil (m : Option Value) (e : Env) : recE m [] e = e := rfl
@[push_cast] theorem recV_none : Go.Ax.recV none = .nilIface := rfl
@[push_cast] theorem recV_some (z : Value) : Go.Ax.recV (some z) = z := rfl
theorem validDefN (r : Nat) (H : zC) : ADef Tryz.prog 42 [.ptr r 0 0] none H fun H' => H' = H := by
 refine enterDef Tryz.func42 L42_ok (Nat.le_of_ble_eq_true rfl) ?_
 repeat' (simp -implicitDefEqProofs (disch := omega) only [L42, push_cast, ↓reduceIte, Nat.reduceEqDiff, reduceCtorEq, Nat.reduceAdd])
theorem validDefW (r : Nat) (H : zC) (b : Bool) (hr : H[r]? = some (.box [bool b])) : ADef Tryz.prog 42 [.ptr r 0 0] (some wrongV) H fun H' => H' = (H ++ [HO.box []]).set r (.box [bool false]) := by
 have hl := (List.getElem?_eq_some_iff.1 hr).1
 refine enterDef Tryz.func42 L42_ok (Nat.le_of_ble_eq_true rfl) ?_
 repeat' (simp -implicitDefEqProofs (disch := omega) only [L42, zB, zO, hr, splice, push_cast, ↓reduceIte, Nat.reduceEqDiff, reduceCtorEq, Nat.reduceAdd, Nat.reduceLeDiff, Nat.reduceLT, Bool.and_self])
structure VdI (ps : List Pr) (H : zC) (j : Nat) (own : Int) (e' : Env) (G : zC) : Prop where
 e1 : e' 1 = .ptr H.length 0 0
 e2 : e' 2 = .ptr (H.length + 1) 0 0
 e3 : e' 3 = .ptr (H.length + 2) 0 0
 e18 : e' 18 = zA6 ps
 e19 : e' 19 = int ps.length
 e20 : e' 20 = int j
 fr : ∀ i, i < H.length → G[i]? = H[i]?
 gl : H.length + 3 ≤ G.length
 g0 : G[H.length]? = some (.box [zA6 ps])
 g1 : G[H.length + 1]? = some (.box [bool false])
 g2 : G[H.length + 2]? = some (.box [zA6 ps, int own, int (zAU (ps.take j) : Nat)])
 hj : j ≤ ps.length
 all : ∀ i, i < j → prP ps i
abbrev VdR (ps : List Pr) (H : zC) (x : AV) (H' : zC) : Prop := x = bool (zCy ps) ∧ x.cl = true ∧ ∃ rest, H' = H ++ rest
theorem zCf (ps : List Pr) (H G : zC) (e : Env) (h2 : e 2 = .ptr (H.length + 1) 0 0) (fr : ∀ i, i < H.length → G[i]? = H[i]?) (gl : H.length + 2 ≤ G.length) (g1 : G[H.length + 1]? = some (.box [bool false])) (hn : ¬ validP ps) :
  postD Tryz.prog L14.res (VdR ps H) 42 [.ptr (H.length + 1) 0 0] (.pan wrongV) e G := by
 intro X ρ w vs hr hv
 refine (validDefW (H.length + 1) G false g1 X ρ w vs hr hv).mono ?_
 rintro en u' w' ⟨v, H', ρ', h1, h2', h3, h4, h5⟩
 refine ⟨v, H', ρ', h1, h2', ?_, h4, h5⟩
 subst h3
 have hg : ((G ++ [HO.box []]).set (H.length + 1) (.box [bool false]))[H.length + 1]? = some (.box [bool false]) := by
  rw [List.getElem?_set_self (by simp; omega)]
 obtain ⟨rest, hrest⟩ := heap_ext' (H := H) (G := (G ++ [HO.box []]).set (H.length + 1) (.box [bool false])) (by simp; omega) fun i hi => by
  rw [List.getElem?_set_ne (by omega), List.getElem?_append_left (by omega), fr i hi]
 have hvb := validB_f hn
 refine ⟨?_, ?_, ?_, rest, hrest⟩
 ·simp [L14, zAQ, resV, h2, rLoad, hg, rLoadO, isVer, Res.also, isBox]
 ·simp [L14, zAQ, resV, h2, rLoad, hg, rLoadO, isVer, Res.also, isBox, cellsV, hvb]
 ·simp [L14, zAQ, resV, h2, rLoad, hg, rLoadO, isVer, Res.also, isBox, cellsV, AV.cl]
theorem vd_ret (ps : List Pr) (H G : zC) (e : Env) (h2 : e 2 = .ptr (H.length + 1) 0 0) (fr : ∀ i, i < H.length → G[i]? = H[i]?) (gl : H.length + 2 ≤ G.length) (g1 : G[H.length + 1]? = some (.box [bool true])) (hn : validP ps) :
  postD Tryz.prog L14.res (VdR ps H) 42 [.ptr (H.length + 1) 0 0] .ret e G := by
 intro X ρ w vs hr hv
 refine (validDefN (H.length + 1) G X ρ w vs hr hv).mono ?_
 rintro en u' w' ⟨v, H', ρ', h1, h2', h3, h4, h5⟩
 refine ⟨v, H', ρ', h1, h2', ?_, h4, h5⟩
 subst h3
 obtain ⟨rest, hrest⟩ := heap_ext' (H := H) (G := H') (by omega) fr
 have hvb := zCx.2 hn
 refine ⟨?_, ?_, ?_, rest, hrest⟩
 ·simp [L14, zAQ, resV, h2, rLoad, g1, rLoadO, isVer, Res.also, isBox]
 ·simp [L14, zAQ, resV, h2, rLoad, g1, rLoadO, isVer, Res.also, isBox, cellsV, hvb]
 ·simp [L14, zAQ, resV, h2, rLoad, g1, rLoadO, isVer, Res.also, isBox, cellsV, AV.cl]
theorem enter_vd : Enter Tryz.prog 42 := ⟨_, Tryz.func42, by kernel_rfl, by kernel_rfl⟩
set_option maxHeartbeats 8000000 in
theorem codeValidC (ps : List Pr) (hs : CodeSml ps) (H : zC) : zBg 14 [.agg [zA6 ps]] H (bool (zCy ps)) := by
 obtain ⟨hs1, hs2, hs3⟩ := hs
 refine ACall.drop (R := fun x => x = bool (zCy ps)) ?_
 refine enterD Tryz.func14 L14_ok (Nat.le_of_ble_eq_true rfl) ?_
 show wpD _ L14.res (VdR ps H) _ _ _
 generalize hres : L14.res = res
 by_cases h8 : ps.length ≤ 8
 ·repeat' (simp -implicitDefEqProofs (disch := omega) only [L14, zAl, List.length_map, zAf, push_cast, ↓reduceIte, Nat.reduceEqDiff, Nat.reduceAdd, Nat.reduceLeDiff, Int.reduceNeg, Bool.and_self])
  refine ⟨_, _, _, rfl, enter_vd, ?_⟩
  repeat' (first | refine zD (zAF _) ?_ | simp -implicitDefEqProofs (disch := omega) only [zJ, zAl, rBuild, fillA, List.length_map, push_cast, ↓reduceIte, Nat.reduceEqDiff, Nat.reduceAdd, Nat.reduceLeDiff, Int.reduceNeg, Bool.and_self])
  refine zAj (fun (st : Nat × Int) e' G => VdI ps H st.1 st.2 e' G) (fun st => ps.length - st.1) (0, 0) ?_ ?_
  ·refine ⟨rfl, rfl, rfl, rfl, rfl, rfl, fun i hi => List.getElem?_append_left hi, by simp, by simp [get_add], by simp [get_add], by simp [get_add, zAU], by omega, fun i hi => by omega⟩
  rintro ⟨j, own⟩ e' G ⟨h1, h2, h3, h18, h19, h20, fr, gl, g0, g1, g2, hj, hall⟩
  simp only at h20 g2 hj hall
  by_cases hlt : j < ps.length
  ·obtain ⟨m1, m2, m3⟩ := hs3 _ (zAo hlt)
   have hfail : ¬ prP ps j → ¬ validP ps := fun hn hv => hn (hv.2 j hlt)
   repeat' (first | refine And.intro (by omega) ?_ | simp -implicitDefEqProofs (disch := omega) only [h3, h18, h19, h20, g2, zB, zO, zAO, zP, zBK, splice, List.length_map, zL, push_cast, ↓reduceIte, Nat.reduceEqDiff, Nat.reduceAdd, Nat.reduceLeDiff, Int.reduceNeg, Bool.and_self])
   have z0 : (G.set (H.length + 2) (HO.box [zA6 ps, int j, int (zAU (ps.take j) : Nat)]) ++ [HO.box (prR (ps.getD j default))])[H.length]? = some (.box [zA6 ps]) := by
    rw [List.getElem?_append_left (by simp; omega), List.getElem?_set_ne (by omega), g0]
   have z1 : (G.set (H.length + 2) (HO.box [zA6 ps, int j, int (zAU (ps.take j) : Nat)]) ++ [HO.box (prR (ps.getD j default))])[H.length + 1]? = some (.box [bool false]) := by
    rw [List.getElem?_append_left (by simp; omega), List.getElem?_set_ne (by omega), g1]
   have z2 : (G.set (H.length + 2) (HO.box [zA6 ps, int j, int (zAU (ps.take j) : Nat)]) ++ [HO.box (prR (ps.getD j default))])[H.length + 2]? = some (.box [zA6 ps, int j, int (zAU (ps.take j) : Nat)]) := by
    rw [List.getElem?_append_left (by simp; omega), List.getElem?_set_self (by omega)]
   have z5 : (G.set (H.length + 2) (HO.box [zA6 ps, int j, int (zAU (ps.take j) : Nat)]) ++ [HO.box (prR (ps.getD j default))])[G.length]? = some (.box (prR (ps.getD j default))) := by
    rw [List.getElem?_append_right (by simp)]; simp
   have zf : ∀ i, i < H.length → (G.set (H.length + 2) (HO.box [zA6 ps, int j, int (zAU (ps.take j) : Nat)]) ++ [HO.box (prR (ps.getD j default))])[i]? = H[i]? := fun i hi => by
    rw [List.getElem?_append_left (by simp; omega), List.getElem?_set_ne (by omega), fr i hi]
   have zl : H.length + 4 ≤ (G.set (H.length + 2) (HO.box [zA6 ps, int j, int (zAU (ps.take j) : Nat)]) ++ [HO.box (prR (ps.getD j default))]).length := by simp; omega
   have zl2 : G.length < (G.set (H.length + 2) (HO.box [zA6 ps, int j, int (zAU (ps.take j) : Nat)]) ++ [HO.box (prR (ps.getD j default))]).length := by simp
   have zr : H.length + 3 ≤ G.length := gl
   simp only [prR] at z0 z1 z2 z5 zf zl zl2
   generalize (G.set (H.length + 2) (HO.box [zA6 ps, int j, int (zAU (ps.take j) : Nat)]) ++ [HO.box [str (ps.getD j default).name, int (ps.getD j default).par, int (ps.getD j default).slots, int (ps.getD j default).res, .sl 1 ((ps.getD j default).outs.map iR), .sl 5 ((ps.getD j default).body.map zAt)]]) = Z at *
   generalize hrr : G.length = r at *
   clear fr gl g0 g1 g2 hrr
   have z5' : Z[r]? = some (.box (prR (ps.getD j default))) := z5
   cases hN : isName (ps.getD j default).name with
   | false =>
    repeat' (first | refine zA (nameLx (ps.getD j default).name _ (by omega)) ?_ | refine zN (zAW _) ?_ | simp -implicitDefEqProofs (disch := omega) only [z5, hN, push_cast, ↓reduceIte, Nat.reduceEqDiff, Nat.reduceAdd, Nat.reduceLeDiff, Int.reduceNeg])
    subst hres
    exact zCf ps H _ _ h2 zf (by omega) z1 (hfail fun hp => by rw [hp.1.1] at hN; cases hN)
   | true =>
    have cN : zBg 44 [.sl 6 ((ps.map prR).take (j - 0)), .fn (.func 45) [] [.ptr r 0 0]] Z (bool ((ps.take j).any fun m => decide (m.name = (ps.getD j default).name))) := by
     have := nmHasC (ps.take j) (ps.getD j default) (by simp; omega) r Z z5'
     rw [List.map_take] at this
     exact this
    cases hC : (ps.take j).any fun m => decide (m.name = (ps.getD j default).name) with
    | true =>
     rw [hC] at cN
     repeat' (first | refine And.intro (by omega) ?_ | refine zA (nameLx (ps.getD j default).name _ (by omega)) ?_ | refine zA (cN) ?_ | refine zN (zAW _) ?_ | simp -implicitDefEqProofs (disch := omega) only [h1, z0, z5, hN, List.length_map, push_cast, ↓reduceIte, Nat.reduceEqDiff, Nat.reduceAdd, Nat.reduceLeDiff, Int.reduceToNat, Int.reduceLE, Int.reduceNeg])
     subst hres
     refine zCf ps H _ _ h2 zf (by omega) z1 (hfail fun hp => ?_)
     obtain ⟨m, hm, hmn⟩ := List.any_eq_true.1 hC
     obtain ⟨i, hi, rfl⟩ := List.mem_iff_getElem.1 hm
     simp only [List.length_take] at hi
     have e : (ps.take j)[i] = ps.getD i default := by rw [List.getElem_take, List.getD_eq_getElem?_getD, List.getElem?_eq_getElem (by omega)]; rfl
     rw [e, decide_eq_true_eq] at hmn
     exact hp.1.2 i (by omega) hmn
    | false =>
     rw [hC] at cN
     have hne : ∀ i, i < j → ¬ (ps.getD i default).name = (ps.getD j default).name := fun i hi hh => by
      rw [List.any_eq_false] at hC
      refine hC (ps.getD i default) ?_ (decide_eq_true hh)
      rw [List.mem_iff_getElem]
      refine ⟨i, by simp; omega, ?_⟩
      rw [List.getElem_take, List.getD_eq_getElem?_getD, List.getElem?_eq_getElem (by omega)]; rfl
     by_cases hP1 : 0 ≤ (ps.getD j default).par ∧ (ps.getD j default).par ≤ (ps.getD j default).slots ∧ (ps.getD j default).slots ≤ 1024 ∧ -1 ≤ (ps.getD j default).res ∧ (ps.getD j default).res ≤ 128
     ·obtain ⟨q1, q2, q3, q4, q5⟩ := hP1
      by_cases hP2 : (ps.getD j default).outs.length ≤ 128 ∧ ((ps.getD j default).res = -1 ∨ (ps.getD j default).outs.length = 0)
      ·obtain ⟨q6, q7⟩ := hP2
       by_cases hrs : (ps.getD j default).res = -1
       ·repeat' (first | refine And.intro (by omega) ?_ | refine zA (nameLx (ps.getD j default).name _ (by omega)) ?_ | refine zA (cN) ?_ | refine zD (zAF _) ?_ | simp -implicitDefEqProofs (disch := omega) only [h1, z0, z5, hN, List.length_map, zAf, zAa, push_cast, ↓reduceIte, Nat.reduceEqDiff, Nat.reduceAdd, Nat.reduceLeDiff, Int.reduceToNat, Int.reduceLE, Int.reduceNeg])
        refine zAj (fun (m : Nat) e' G' => e' 1 = .ptr H.length 0 0 ∧ e' 2 = .ptr (H.length + 1) 0 0 ∧ e' 3 = .ptr (H.length + 2) 0 0 ∧ e' 5 = .ptr r 0 0 ∧ e' 18 = zA6 ps ∧ e' 19 = int ps.length ∧ e' 20 = int j ∧ e' 85 = .sl 1 ((ps.getD j default).outs.map iR) ∧ e' 86 = int (ps.getD j default).outs.length ∧ e' 87 = int m ∧ Z = G' ∧ m ≤ (ps.getD j default).outs.length ∧ ∀ m', m' < m → 0 ≤ (ps.getD j default).outs.getD m' default ∧ (ps.getD j default).outs.getD m' default < (ps.getD j default).slots) (fun m => (ps.getD j default).outs.length - m) 0 ?_ ?_
        ·exact ⟨h1, h2, h3, rfl, h18, h19, h20, rfl, rfl, rfl, rfl, Nat.zero_le _, fun m hm => by omega⟩
        clear h1 h2 h3 h18 h19 h20
        rintro m e' G' ⟨h1, h2, h3, h5, h18, h19, h20, h85, h86, h87, hGZ, hm, hout⟩
        subst hGZ
        by_cases hlt3 : m < (ps.getD j default).outs.length
        ·have hor : ((ps.getD j default).outs.map iR).getD m [] = [int ((ps.getD j default).outs.getD m default)] := zU hlt3
         by_cases hO : 0 ≤ (ps.getD j default).outs.getD m default ∧ (ps.getD j default).outs.getD m default < (ps.getD j default).slots
         ·repeat' (first | refine And.intro (by omega) ?_ | refine zD (zAF _) ?_ | simp -implicitDefEqProofs (disch := omega) only [h5, h85, h86, h87, z5, hor, List.length_map, zL, zAf, push_cast, ↓reduceIte, Nat.reduceEqDiff, Nat.reduceAdd, Nat.reduceLeDiff])
          exact .mk (m + 1) ⟨h1, h2, h3, h5, h18, h19, h20, h85, h86, rfl, rfl, hlt3, zBh hout hO⟩ (by omega)
         ·have hv : ¬ validP ps := hfail fun hp => hO (hp.2.1.2.2.2.2.2.2.2 _ (zAo hlt3))
          have hO' : ¬ 0 ≤ (ps.getD j default).outs.getD m default ∨ (0 ≤ (ps.getD j default).outs.getD m default ∧ ¬ (ps.getD j default).outs.getD m default < (ps.getD j default).slots) := by omega
          subst hres
          rcases hO' with hc | ⟨hc1, hc2⟩
          ·repeat' (first | refine And.intro (by omega) ?_ | refine zN (zAW _) ?_ | simp -implicitDefEqProofs (disch := omega) only [h85, h86, h87, hor, List.length_map, zL, zAB, push_cast, ↓reduceIte, Nat.reduceEqDiff, Nat.reduceAdd, Nat.reduceLeDiff])
           exact zCf ps H _ _ h2 zf (by omega) z1 hv
          ·repeat' (first | refine And.intro (by omega) ?_ | refine zN (zAW _) ?_ | simp -implicitDefEqProofs (disch := omega) only [h5, h85, h86, h87, z5, hor, List.length_map, zL, zV, zAf, push_cast, ↓reduceIte, Nat.reduceEqDiff, Nat.reduceAdd, Nat.reduceLeDiff])
           exact zCf ps H _ _ h2 zf (by omega) z1 hv
        ·have e : m = (ps.getD j default).outs.length := by omega
         subst e
         have hout' : ∀ s ∈ (ps.getD j default).outs, 0 ≤ s ∧ s < (ps.getD j default).slots := by
          intro s hs
          obtain ⟨m, hm, rfl⟩ := List.mem_iff_getElem.1 hs
          have := hout m hm
          have e : (ps.getD j default).outs.getD m default = (ps.getD j default).outs[m] := by rw [List.getD_eq_getElem?_getD, List.getElem?_eq_getElem hm]; rfl
          rw [e] at this
          exact this
         have hH : zCw (ps.getD j default) := ⟨q1, q2, q3, q4, q5, q6, q7.imp id List.length_eq_zero_iff.1, hout'⟩
         have hsn := zCk hlt
         have hcnt : zAU (ps.take j) ≤ 32768 := by
          cases j with
          | zero => simp [zAU]
          | succ j => exact (hall j (by omega)).2.2.1
         have cE := effC ps j hlt hs1 (prsOk_of hall) hH (ps.getD j default).body m3 true 1 (zAU (ps.take j) : Nat) Z (H.length + 2) z2 (by omega) (by omega) (by omega) (by omega)
         repeat' (simp -implicitDefEqProofs (disch := omega) only [h3, h5, h86, h87, z5, zV, push_cast, ↓reduceIte, Nat.reduceEqDiff, Nat.reduceAdd, Nat.reduceLeDiff])
         refine zG cE ?_ ?_
         ·rintro x G' ⟨e, rfl, hE, hc1, hc2, hfr, hg2⟩
          have y0 := (hfr.2 H.length (by omega) (by omega)).trans z0
          have y1 := (hfr.2 (H.length + 1) (by omega) (by omega)).trans z1
          have yf : ∀ i, i < H.length → G'[i]? = H[i]? := fun i hi => (hfr.2 i (by omega) (by omega)).trans (zf i hi)
          have yl := hfr.1
          by_cases he : e = 0
          ·subst he
           repeat' (first | refine zD (zAF _) ?_ | simp -implicitDefEqProofs (disch := omega) only [h20, push_cast, ↓reduceIte, Nat.reduceEqDiff])
           exact .mk (j + 1, (j : Int)) ⟨h1, h2, h3, h18, h19, rfl, yf, by omega, y0, y1, by rw [hg2, hsn]; simp, hlt, zBh hall ⟨⟨hN, hne⟩, hH, by omega, by omega, hE⟩⟩ (by dsimp only; omega)
          ·have hv : ¬ validP ps := hfail fun hp => by have := hp.2.2.2.2; rw [hE] at this; exact he (by simpa using this)
           repeat' (first | refine zN (zAW _) ?_ | simp -implicitDefEqProofs (disch := omega) only [zX, push_cast])
           subst hres
           exact zCf ps H _ _ h2 yf (by omega) y1 hv
         ·rintro z G' ⟨rfl, hng, hfr⟩
          have y1 := (hfr.2 (H.length + 1) (by omega) (by omega)).trans z1
          have yf : ∀ i, i < H.length → G'[i]? = H[i]? := fun i hi => (hfr.2 i (by omega) (by omega)).trans (zf i hi)
          have yl := hfr.1
          repeat' (simp -implicitDefEqProofs (disch := omega) only [push_cast])
          subst hres
          exact zCf ps H _ _ h2 yf (by omega) y1 (hfail fun hp => hng ⟨⟨0, hp.2.2.2.2⟩, by have := hp.2.2.1; omega, by have := hp.2.2.2.1; omega⟩)
       ·repeat' (first | refine And.intro (by omega) ?_ | refine zA (nameLx (ps.getD j default).name _ (by omega)) ?_ | refine zA (cN) ?_ | refine zD (zAF _) ?_ | simp -implicitDefEqProofs (disch := omega) only [h1, z0, z5, hN, List.length_map, zAf, zAa, zX, push_cast, ↓reduceIte, Nat.reduceEqDiff, Nat.reduceAdd, Nat.reduceLeDiff, Int.reduceToNat, Int.reduceLE, Int.reduceNeg])
        refine zAj (fun (m : Nat) e' G' => e' 1 = .ptr H.length 0 0 ∧ e' 2 = .ptr (H.length + 1) 0 0 ∧ e' 3 = .ptr (H.length + 2) 0 0 ∧ e' 5 = .ptr r 0 0 ∧ e' 18 = zA6 ps ∧ e' 19 = int ps.length ∧ e' 20 = int j ∧ e' 85 = .sl 1 ((ps.getD j default).outs.map iR) ∧ e' 86 = int (ps.getD j default).outs.length ∧ e' 87 = int m ∧ Z = G' ∧ m ≤ (ps.getD j default).outs.length ∧ ∀ m', m' < m → 0 ≤ (ps.getD j default).outs.getD m' default ∧ (ps.getD j default).outs.getD m' default < (ps.getD j default).slots) (fun m => (ps.getD j default).outs.length - m) 0 ?_ ?_
        ·exact ⟨h1, h2, h3, rfl, h18, h19, h20, rfl, rfl, rfl, rfl, Nat.zero_le _, fun m hm => by omega⟩
        clear h1 h2 h3 h18 h19 h20
        rintro m e' G' ⟨h1, h2, h3, h5, h18, h19, h20, h85, h86, h87, hGZ, hm, hout⟩
        subst hGZ
        by_cases hlt3 : m < (ps.getD j default).outs.length
        ·exfalso; omega
        ·have e : m = (ps.getD j default).outs.length := by omega
         subst e
         have hout' : ∀ s ∈ (ps.getD j default).outs, 0 ≤ s ∧ s < (ps.getD j default).slots := by
          intro s hs
          obtain ⟨m, hm, rfl⟩ := List.mem_iff_getElem.1 hs
          have := hout m hm
          have e : (ps.getD j default).outs.getD m default = (ps.getD j default).outs[m] := by rw [List.getD_eq_getElem?_getD, List.getElem?_eq_getElem hm]; rfl
          rw [e] at this
          exact this
         have hH : zCw (ps.getD j default) := ⟨q1, q2, q3, q4, q5, q6, q7.imp id List.length_eq_zero_iff.1, hout'⟩
         have hsn := zCk hlt
         have hcnt : zAU (ps.take j) ≤ 32768 := by
          cases j with
          | zero => simp [zAU]
          | succ j => exact (hall j (by omega)).2.2.1
         have cE := effC ps j hlt hs1 (prsOk_of hall) hH (ps.getD j default).body m3 true 1 (zAU (ps.take j) : Nat) Z (H.length + 2) z2 (by omega) (by omega) (by omega) (by omega)
         repeat' (simp -implicitDefEqProofs (disch := omega) only [h3, h5, h86, h87, z5, zV, push_cast, ↓reduceIte, Nat.reduceEqDiff, Nat.reduceAdd, Nat.reduceLeDiff])
         refine zG cE ?_ ?_
         ·rintro x G' ⟨e, rfl, hE, hc1, hc2, hfr, hg2⟩
          have y0 := (hfr.2 H.length (by omega) (by omega)).trans z0
          have y1 := (hfr.2 (H.length + 1) (by omega) (by omega)).trans z1
          have yf : ∀ i, i < H.length → G'[i]? = H[i]? := fun i hi => (hfr.2 i (by omega) (by omega)).trans (zf i hi)
          have yl := hfr.1
          by_cases he : e = 0
          ·subst he
           repeat' (first | refine zD (zAF _) ?_ | simp -implicitDefEqProofs (disch := omega) only [h20, push_cast, ↓reduceIte, Nat.reduceEqDiff])
           exact .mk (j + 1, (j : Int)) ⟨h1, h2, h3, h18, h19, rfl, yf, by omega, y0, y1, by rw [hg2, hsn]; simp, hlt, zBh hall ⟨⟨hN, hne⟩, hH, by omega, by omega, hE⟩⟩ (by dsimp only; omega)
          ·have hv : ¬ validP ps := hfail fun hp => by have := hp.2.2.2.2; rw [hE] at this; exact he (by simpa using this)
           repeat' (first | refine zN (zAW _) ?_ | simp -implicitDefEqProofs (disch := omega) only [zX, push_cast])
           subst hres
           exact zCf ps H _ _ h2 yf (by omega) y1 hv
         ·rintro z G' ⟨rfl, hng, hfr⟩
          have y1 := (hfr.2 (H.length + 1) (by omega) (by omega)).trans z1
          have yf : ∀ i, i < H.length → G'[i]? = H[i]? := fun i hi => (hfr.2 i (by omega) (by omega)).trans (zf i hi)
          have yl := hfr.1
          repeat' (simp -implicitDefEqProofs (disch := omega) only [push_cast])
          subst hres
          exact zCf ps H _ _ h2 yf (by omega) y1 (hfail fun hp => hng ⟨⟨0, hp.2.2.2.2⟩, by have := hp.2.2.1; omega, by have := hp.2.2.2.1; omega⟩)
      ·have hc : ¬ (ps.getD j default).outs.length ≤ 128 ∨ ((ps.getD j default).outs.length ≤ 128 ∧ ¬ (ps.getD j default).res = -1 ∧ ¬ (ps.getD j default).outs.length = 0) := by omega
       have hv : ¬ validP ps := hfail fun hp => hP2 ⟨hp.2.1.2.2.2.2.2.1, hp.2.1.2.2.2.2.2.2.1.imp id fun h => by rw [h]; rfl⟩
       rcases hc with hc | ⟨hc1, hc2, hc3⟩
       ·repeat' (first | refine And.intro (by omega) ?_ | refine zA (nameLx (ps.getD j default).name _ (by omega)) ?_ | refine zA (cN) ?_ | refine zD (zAF _) ?_ | refine zN (zAW _) ?_ | simp -implicitDefEqProofs (disch := omega) only [h1, z0, z5, hN, List.length_map, zAf, zAB, push_cast, ↓reduceIte, Nat.reduceEqDiff, Nat.reduceAdd, Nat.reduceLeDiff, Int.reduceToNat, Int.reduceLE, Int.reduceNeg])
        subst hres
        exact zCf ps H _ _ h2 zf (by omega) z1 hv
       ·repeat' (first | refine And.intro (by omega) ?_ | refine zA (nameLx (ps.getD j default).name _ (by omega)) ?_ | refine zA (cN) ?_ | refine zD (zAF _) ?_ | refine zN (zAW _) ?_ | simp -implicitDefEqProofs (disch := omega) only [h1, z0, z5, hN, List.length_map, zAf, zX, push_cast, ↓reduceIte, Nat.reduceEqDiff, Nat.reduceAdd, Nat.reduceLeDiff, Int.reduceToNat, Int.reduceLE, Int.reduceNeg])
        subst hres
        exact zCf ps H _ _ h2 zf (by omega) z1 hv
     ·have hc : ¬ 0 ≤ (ps.getD j default).par ∨ (0 ≤ (ps.getD j default).par ∧ ¬ (ps.getD j default).par ≤ (ps.getD j default).slots) ∨ (0 ≤ (ps.getD j default).par ∧ (ps.getD j default).par ≤ (ps.getD j default).slots ∧ ¬ (ps.getD j default).slots ≤ 1024) ∨ (0 ≤ (ps.getD j default).par ∧ (ps.getD j default).par ≤ (ps.getD j default).slots ∧ (ps.getD j default).slots ≤ 1024 ∧ ¬ -1 ≤ (ps.getD j default).res) ∨ (0 ≤ (ps.getD j default).par ∧ (ps.getD j default).par ≤ (ps.getD j default).slots ∧ (ps.getD j default).slots ≤ 1024 ∧ -1 ≤ (ps.getD j default).res ∧ ¬ (ps.getD j default).res ≤ 128) := by omega
      have hv : ¬ validP ps := hfail fun hp => hP1 ⟨hp.2.1.1, hp.2.1.2.1, hp.2.1.2.2.1, hp.2.1.2.2.2.1, hp.2.1.2.2.2.2.1⟩
      subst hres
      rcases hc with hc | ⟨hc1, hc2⟩ | ⟨hc1, hc2, hc3⟩ | ⟨hc1, hc2, hc3, hc4⟩ | ⟨hc1, hc2, hc3, hc4, hc5⟩
      ·repeat' (first | refine And.intro (by omega) ?_ | refine zA (nameLx (ps.getD j default).name _ (by omega)) ?_ | refine zA (cN) ?_ | refine zD (zAF _) ?_ | refine zN (zAW _) ?_ | simp -implicitDefEqProofs (disch := omega) only [h1, z0, z5, hN, List.length_map, zAB, push_cast, ↓reduceIte, Nat.reduceEqDiff, Nat.reduceAdd, Nat.reduceLeDiff, Int.reduceToNat, Int.reduceLE, Int.reduceNeg])
       exact zCf ps H _ _ h2 zf (by omega) z1 hv
      ·repeat' (first | refine And.intro (by omega) ?_ | refine zA (nameLx (ps.getD j default).name _ (by omega)) ?_ | refine zA (cN) ?_ | refine zD (zAF _) ?_ | refine zN (zAW _) ?_ | simp -implicitDefEqProofs (disch := omega) only [h1, z0, z5, hN, List.length_map, zAf, zAB, push_cast, ↓reduceIte, Nat.reduceEqDiff, Nat.reduceAdd, Nat.reduceLeDiff, Int.reduceToNat, Int.reduceLE, Int.reduceNeg])
       exact zCf ps H _ _ h2 zf (by omega) z1 hv
      ·repeat' (first | refine And.intro (by omega) ?_ | refine zA (nameLx (ps.getD j default).name _ (by omega)) ?_ | refine zA (cN) ?_ | refine zD (zAF _) ?_ | refine zN (zAW _) ?_ | simp -implicitDefEqProofs (disch := omega) only [h1, z0, z5, hN, List.length_map, zAf, zAB, push_cast, ↓reduceIte, Nat.reduceEqDiff, Nat.reduceAdd, Nat.reduceLeDiff, Int.reduceToNat, Int.reduceLE, Int.reduceNeg])
       exact zCf ps H _ _ h2 zf (by omega) z1 hv
      ·repeat' (first | refine And.intro (by omega) ?_ | refine zA (nameLx (ps.getD j default).name _ (by omega)) ?_ | refine zA (cN) ?_ | refine zD (zAF _) ?_ | refine zN (zAW _) ?_ | simp -implicitDefEqProofs (disch := omega) only [h1, z0, z5, hN, List.length_map, zAf, zAB, push_cast, ↓reduceIte, Nat.reduceEqDiff, Nat.reduceAdd, Nat.reduceLeDiff, Int.reduceToNat, Int.reduceLE, Int.reduceNeg])
       exact zCf ps H _ _ h2 zf (by omega) z1 hv
      ·repeat' (first | refine And.intro (by omega) ?_ | refine zA (nameLx (ps.getD j default).name _ (by omega)) ?_ | refine zA (cN) ?_ | refine zD (zAF _) ?_ | refine zN (zAW _) ?_ | simp -implicitDefEqProofs (disch := omega) only [h1, z0, z5, hN, List.length_map, zAf, zAB, push_cast, ↓reduceIte, Nat.reduceEqDiff, Nat.reduceAdd, Nat.reduceLeDiff, Int.reduceToNat, Int.reduceLE, Int.reduceNeg])
       exact zCf ps H _ _ h2 zf (by omega) z1 hv
  ·have e : j = ps.length := by omega
   subst e
   repeat' (simp -implicitDefEqProofs (disch := omega) only [h2, h19, h20, g1, splice, zV, push_cast, ↓reduceIte, Nat.reduceEqDiff, Nat.reduceAdd, Nat.reduceLeDiff, Int.reduceNeg, Bool.and_self])
   subst hres
   refine vd_ret ps H _ _ h2 (fun i hi => ?_) (by simpa using (by omega : H.length + 2 ≤ G.length)) (by rw [List.getElem?_set_self (by omega)]) ⟨h8, hall⟩
   rw [List.getElem?_set_ne (by omega), fr i hi]
 ·repeat' (simp -implicitDefEqProofs (disch := omega) only [L14, zAl, List.length_map, zAB, push_cast, ↓reduceIte, Nat.reduceEqDiff, Nat.reduceAdd, Nat.reduceLeDiff, Int.reduceNeg, Bool.and_self])
  refine ⟨_, _, _, rfl, enter_vd, ?_⟩
  repeat' (first | refine zN (zAW _) ?_ | simp -implicitDefEqProofs (disch := omega) only [push_cast, Int.reduceNeg])
  subst hres
  exact zCf ps H _ _ rfl (fun i hi => by rw [List.getElem?_append_left hi]) (by simp) (by simp [get_add]) fun hv => h8 hv.1
end Go.Proofs.YtbibhcmcjldhdaaGreatDoor
namespace Go.Proofs.YtbibhcmcjldhdaaGreatDoor
open Go Go.Ax Go.RowKit
set_option maxRecDepth 100000
set_option linter.unusedSimpArgs false
set_option linter.unusedVariables false
set_option maxHeartbeats 4000000
def pnums (q : Pr) : List Int := q.par :: q.slots :: q.res :: q.outs
def phead (q : Pr) : Ln := wProc :: q.name :: (pnums q).map Lib.itoa
def prT (q : Pr) : Wd := zC8 0 (phead q) ++ (lsT 1 q.body ++ zC8 0 [wEnd])
def codeT : List Pr → Wd
 | [] => []
 | q :: l => prT q ++ codeT l
theorem codeT_app : ∀ l m : List Pr, codeT (l ++ m) = codeT l ++ codeT m
 | [], m => by simp [codeT]
 | x :: l, m => by simp [codeT, codeT_app l m]
theorem codeT_step {xs : List Pr} {j : Nat} (h : j < xs.length) : codeT (xs.take (j + 1)) = codeT (xs.take j) ++ prT (xs.getD j default) := by
 rw [zBx h, codeT_app]
 simp [codeT]
theorem codeT_split {xs : List Pr} {j : Nat} (h : j < xs.length) : (codeT (xs.take j)).length + (prT (xs.getD j default)).length ≤ (codeT xs).length := by
 have e : xs = xs.take (j + 1) ++ xs.drop (j + 1) := (List.take_append_drop _ _).symm
 have := congrArg (fun l => (codeT l).length) e
 simp only [codeT_app, codeT_step h, List.length_append] at this
 omega
structure FmP (N : Int → Prop) (q : Pr) : Prop where
 nm : q.name.length ≤ 1048576
 os : q.outs.length ≤ 100000
 nums : ∀ n ∈ pnums q, N n
 body : FOks N q.body
 cnt : zQ q.body ≤ 900000
set_option maxHeartbeats 8000000 in
theorem formatFC {N : Int → Prop} (hN : ItoaOk N) (ps : List Pr) (hs : CodeSml ps) (hv : zCy ps = true) (hp : ∀ q ∈ ps, FmP N q) (hl : (codeT ps).length ≤ 50000000000000) (H : zC) : zBg 13 [.agg [zA6 ps]] H (str (codeT ps)) := by
 refine ACall.drop (R := fun x => x = str (codeT ps)) ?_
 refine enter Tryz.func13 L13f_ok (Nat.le_of_ble_eq_true rfl) ?_
 have cV := fun H => codeValidC ps hs H
 rw [hv] at cV
 repeat' (first | refine zA (cV _) ?_ | simp -implicitDefEqProofs (disch := omega) only [L13f, zAl, push_cast, ↓reduceIte, Nat.reduceEqDiff, Nat.reduceAdd, Nat.reduceLeDiff, Bool.and_self])
 refine zAj (fun (j : Nat) e' G => e' 3 = .ptr (H.length + 1) 0 0 ∧ e' 4 = .ptr (H.length + 2) 0 0 ∧ e' 5 = .ptr (H.length + 3) 0 0 ∧ e' 17 = zA6 ps ∧ e' 18 = int ps.length ∧ e' 19 = int j ∧ j ≤ ps.length ∧ BSt H.length (H.length + 1) (codeT (ps.take j)) G ∧ G[H.length + 2]? = some (lineV (H.length + 1)) ∧ G[H.length + 3]? = some (listV (H.length + 2) (H.length + 3)) ∧ H.length + 4 ≤ G.length ∧ ∀ i, i < H.length → G[i]? = H[i]?) (fun j => ps.length - j) 0 ?_ ?_
 ·refine ⟨rfl, rfl, rfl, rfl, rfl, rfl, Nat.zero_le _, ⟨by omega, .inl ⟨?_, rfl⟩⟩, ?_, ?_, by simp, fun i hi => List.getElem?_append_left hi⟩
  ·rw [get_add]; rfl
  ·rw [get_add]; rfl
  ·rw [get_add]; rfl
 rintro j e' G ⟨g3, g4, g5, g17, g18, g19, hj, hB, k1, k2, hG, hfr⟩
 by_cases hlt : j < ps.length
 rotate_left
 ·have e : j = ps.length := by omega
  subst e
  rw [List.take_length] at hB
  repeat' (simp -implicitDefEqProofs (disch := omega) only [g3, g18, g19, zV, push_cast, ↓reduceIte, Nat.reduceEqDiff])
  refine zAv (stringC H.length (H.length + 1) _ G hB (by omega)) ?_
  rintro x G2 ⟨rfl, hk⟩
  repeat' (simp -implicitDefEqProofs (disch := omega) only [push_cast])
  exact heap_ext' (by have := hk.1; omega) fun i hi => (hk.2.1 i hi).trans (hfr i hi)
 have hpl := hs.1
 have hmem := zAo hlt
 have hst := codeT_step hlt
 have hsp := codeT_split hlt
 obtain ⟨p1, p2, p3, p4, p5⟩ := hp _ hmem
 have hrow : (ps.map prR).getD j [] = prR (ps.getD j default) := zAO hlt
 generalize hqe : ps.getD j default = q at *
 have hrG := hB.lt
 repeat' (first | refine And.intro (by omega) ?_ | simp -implicitDefEqProofs (disch := omega) only [g17, g18, g19, hrow, prR, zL, push_cast, ↓reduceIte, Nat.reduceEqDiff, Nat.reduceAdd, Nat.reduceLeDiff, Nat.reduceLT, Int.reduceAdd, Bool.and_self])
 have hnl : (pnums q).length = q.outs.length + 3 := rfl
 have hnr : (pnums q).map iR = [int q.par] :: [int q.slots] :: [int q.res] :: q.outs.map iR := rfl
 have hph : phead q = wProc :: q.name :: (pnums q).map Lib.itoa := rfl
 generalize hnsd : pnums q = ns at *
 refine zAj (fun (k : Nat) e2 G2 => e2 3 = .ptr (H.length + 1) 0 0 ∧ e2 4 = .ptr (H.length + 2) 0 0 ∧ e2 5 = .ptr (H.length + 3) 0 0 ∧ e2 17 = zA6 ps ∧ e2 18 = int ps.length ∧ e2 19 = int j ∧ e2 7 = .ptr G.length 0 0 ∧ e2 8 = .os (G.length + 1) k 0 (k + 2) ∧ e2 35 = .os (G.length + 2) 1 0 ns.length ∧ e2 36 = int ns.length ∧ e2 37 = int k ∧ k ≤ ns.length ∧ G2 = G ++ .box [str q.name, int q.par, int q.slots, int q.res, .sl 1 (q.outs.map iR), .sl 5 (q.body.map zAt)] :: .arr k 1 ((wProc :: q.name :: (ns.take k).map Lib.itoa).map sR) :: .arr 1 1 (ns.map iR) :: []) (fun k => ns.length - k) 0 ?_ ?_
 ·refine ⟨g3, g4, g5, g17, g18, g19, rfl, rfl, ?_, ?_, rfl, Nat.zero_le _, ?_⟩
  ·show AV.os (G.length + 2) 1 0 (3 + q.outs.length) = AV.os (G.length + 2) 1 0 ns.length
   rw [hnl, Nat.add_comm 3]
  ·show int _ = int _
   congr 1
   omega
  ·rw [hnr]; rfl
 rintro k e2 G2 ⟨g3, g4, g5, g17, g18, g19, g7, g8, g35, g36, g37, hk, rfl⟩
 by_cases hkl : k < ns.length
 ·have hnk := p3 _ (zAo hkl)
  have hts := zBx (l := ns) (j := k) hkl
  have hfin : List.take (k + 2) ((wProc :: q.name :: (ns.take k).map Lib.itoa).map sR) ++ [sR (Lib.itoa (ns.getD k default))] = (wProc :: q.name :: (ns.take (k + 1)).map Lib.itoa).map sR := by
   rw [hts, List.take_of_length_le (by simp; omega)]
   simp
  have hrl2 : ((wProc :: q.name :: (ns.take k).map Lib.itoa).map sR).length = k + 2 := by simp; omega
  generalize hRk : (wProc :: q.name :: (ns.take k).map Lib.itoa).map sR = Rk at *
  repeat' (first | refine And.intro (by omega) ?_ | refine zA (hN.call _ hnk _) ?_ | simp -implicitDefEqProofs (disch := omega) only [g8, g35, g36, g37, zU, iR, hrl2, Nat.zero_add, zL, push_cast, ↓reduceIte, Nat.reduceEqDiff, reduceCtorEq, Nat.reduceLeDiff, Nat.reduceLT, Bool.and_self])
  exact .mk (k + 1) ⟨g3, g4, g5, g17, g18, g19, g7, rfl, g35, g36, rfl, hkl, congrArg (fun z => G ++ HO.box [str q.name, int q.par, int q.slots, int q.res, .sl 1 (q.outs.map iR), .sl 5 (q.body.map zAt)] :: HO.arr (k + 1) 1 z :: HO.arr 1 1 (ns.map iR) :: []) hfin⟩ (by omega)
 have hkn : k = ns.length := by omega
 have hall : List.take (k + 2) ((wProc :: q.name :: (ns.take k).map Lib.itoa).map sR) = (phead q).map sR := by
  rw [List.take_of_length_le (by simp; omega), List.take_of_length_le (by omega), hph]
 have hrl2 : ((wProc :: q.name :: (ns.take k).map Lib.itoa).map sR).length = k + 2 := by simp; omega
 have hcl : clRR ((wProc :: q.name :: (ns.take k).map Lib.itoa).map sR) = true := clRR_map (fun _ => rfl) _
 generalize hRk : (wProc :: q.name :: (ns.take k).map Lib.itoa).map sR = Rk at *
 have hGr : ∀ X, (G ++ X)[H.length + 2]? = some (lineV (H.length + 1)) := fun X => by rw [List.getElem?_append_left (by omega)]; exact k1
 have hGs : ∀ X, (G ++ X)[H.length + 3]? = some (listV (H.length + 2) (H.length + 3)) := fun X => by rw [List.getElem?_append_left (by omega)]; exact k2
 have hhl : (phead q).length = ns.length + 2 := by rw [hph]; simp
 have hhw := lnLen_le (ws := phead q) (k := 1048576) fun w hw => by
  rw [hph] at hw
  simp only [List.mem_cons, List.mem_map] at hw
  rcases hw with rfl | rfl | ⟨n, hn, rfl⟩
  ·simp [wProc]
  ·exact p1
  ·have := hN.len n (p3 n hn); omega
 have hhw2 : lnLen (phead q) ≤ 100005 * 1048577 := Nat.le_trans hhw (Nat.mul_le_mul_right _ (by omega))
 repeat' (simp -implicitDefEqProofs (disch := omega) only [g4, g8, g36, g37, hGr, hall, zV, push_cast, ↓reduceIte, Nat.reduceEqDiff, Nat.reduceAdd, Nat.reduceLeDiff])
 refine ⟨⟨by omega, hcl⟩, ?_⟩
 refine zAv (lineC H.length (H.length + 1) _ 0 (phead q) _ (hB.app _) (by simp; omega) (by omega) (by omega) (by omega)) ?_
 rintro x G1 ⟨rfl, hb1, hk3⟩
 have m1 := hk3.2.2 G.length [str q.name, int q.par, int q.slots, int q.res, .sl 1 (q.outs.map iR), .sl 5 (q.body.map zAt)] (by omega) (by simp)
 have hl3 := hk3.2.2 (H.length + 2) _ (by omega) (hGr _)
 have hs3 := hk3.2.2 (H.length + 3) _ (by omega) (hGs _)
 have hn1 := hk3.1
 simp only [List.length_append] at hn1
 have hI : prT q = zC8 0 (phead q) ++ (lsT 1 q.body ++ zC8 0 [wEnd]) := rfl
 rw [hI] at hst hsp
 simp only [List.length_append] at hsp
 have cb := listFC hN H.length (H.length + 1) (H.length + 2) (H.length + 3) (by omega) (by omega) (zQ q.body + 1) q.body 1 _ G1 (by omega) p4 (by omega) hb1 (by omega) hl3 hs3 (by simp only [List.length_append]; omega)
 repeat' (simp -implicitDefEqProofs (disch := omega) only [g5, g7, m1, hs3, push_cast, ↓reduceIte, Nat.reduceEqDiff, Nat.reduceAdd, Nat.reduceLeDiff])
 refine zAv cb ?_
 rintro x G2 ⟨rfl, hb2, hk4⟩
 have m2 := hk4.2.2 G.length [str q.name, int q.par, int q.slots, int q.res, .sl 1 (q.outs.map iR), .sl 5 (q.body.map zAt)] (by omega) m1
 have hl4 := hk4.2.2 (H.length + 2) _ (by omega) hl3
 have hs4 := hk4.2.2 (H.length + 3) _ (by omega) hs3
 have hn2 := hk4.1
 repeat' (simp -implicitDefEqProofs (disch := omega) only [g4, hl4, push_cast, ↓reduceIte, Nat.reduceEqDiff, reduceCtorEq, Nat.reduceAdd, Nat.reduceLeDiff, Nat.reduceLT, Bool.and_self])
 refine zAv (lineC H.length (H.length + 1) _ 0 [wEnd] G2 hb2 (by omega) (by omega) (by simp) (by simp only [List.length_append, lnLen, wEnd, List.length_cons, List.length_nil] at hsp ⊢; omega)) ?_
 rintro x G3 ⟨rfl, hb3, hk5⟩
 have hl5 := hk5.2.2 (H.length + 2) _ (by omega) hl4
 have hs5 := hk5.2.2 (H.length + 3) _ (by omega) hs4
 have hn3 := hk5.1
 repeat' (simp -implicitDefEqProofs (disch := omega) only [g19, push_cast, ↓reduceIte, Nat.reduceEqDiff])
 refine .mk (j + 1) ⟨g3, g4, g5, g17, g18, rfl, hlt, ?_, hl5, hs5, by omega, fun i hi => ?_⟩ (by omega)
 ·rw [hst]
  simpa only [List.append_assoc] using hb3
 ·rw [hk5.2.1 i hi, hk4.2.1 i hi, hk3.2.1 i hi, List.getElem?_append_left (by omega)]
  exact hfr i hi
def wC : AV := .agg [.sl 6 [[str [102], int 1, int 1, int 1, zBv, .sl 5 [[int 1, int 0, int 0, .sl 5 [], .sl 5 []], [int 0, int 0, int 0, .sl 5 [], .sl 5 []], [int 14, int 0, int 0, .sl 5 [], .sl 5 []], [int 18, int 0, int 0, .sl 5 [[int 1, int 0, int 0, .sl 5 [], .sl 5 []], [int 0, int 3, int 0, .sl 5 [], .sl 5 []], [int 12, int 0, int 0, .sl 5 [], .sl 5 []]], .sl 5 [[int 0, int 0, int 0, .sl 5 [], .sl 5 []]]], [int 21, int 0, int 0, .sl 5 [], .sl 5 []]]]]]
def wps : List Pr := [⟨[102], 1, 1, 1, [], [.mk 1 0 0 [] [], .mk 0 0 0 [] [], .mk 14 0 0 [] [], .mk 18 0 0 [.mk 1 0 0 [] [], .mk 0 3 0 [] [], .mk 12 0 0 [] []] [.mk 0 0 0 [] []], .mk 21 0 0 [] []]⟩]
theorem wSml : CodeSml wps := ⟨by decide, by decide, fun q hq => by
 simp only [wps, List.mem_singleton] at hq
 subst hq
 exact ⟨by decide, by decide, by decide⟩⟩
theorem wValid : zCy wps = true := zCx.2 ⟨by decide, fun k hk => by
 have hk : k < 1 := hk
 have : k = 0 := by omega
 subst this
 exact ⟨⟨by kernel_rfl, fun j hj => absurd hj (Nat.not_lt_zero j)⟩, ⟨by decide, by decide, by decide, by decide, by decide, by decide, .inr rfl, by intro s hs; cases hs⟩, by decide, by decide, by kernel_rfl⟩⟩
theorem AV.Le.row {sz : Nat} {xs ys : List (List AV)} (hl : xs.length = ys.length) (hs : ∀ (i : Nat) (x y : List AV), xs[i]? = some x → ys[i]? = some y → y.length = x.length ∧ ∀ (j : Nat) (a b : AV), x[j]? = some a → y[j]? = some b → AV.Le a b) : AV.Le (.sl sz xs) (.sl sz ys) := fun w M ρ n v hv => by
 cases hv with
 | slE =>
  cases ys with
  | nil => exact .slE _ _ _ _
  | cons _ _ => cases hl
 | slN _ _ _ b o cap c hm hb hcap hsz hcell hrep =>
  have hx : ∀ (i j : Nat) (x : List AV) (y : AV), ys[i]? = some x → x[j]? = some y → ∃ x' y', xs[i]? = some x' ∧ x'[j]? = some y' ∧ AV.Le y' y := by
   intro i j y b hy hb
   have hi := (List.getElem?_eq_some_iff.1 hy).1
   have hx := List.getElem?_eq_getElem (l := xs) (show i < xs.length by omega)
   obtain ⟨h1, h2⟩ := hs i _ y hx hy
   have hj := (List.getElem?_eq_some_iff.1 hb).1
   have hxj := List.getElem?_eq_getElem (l := xs[i]'(by omega)) (show j < (xs[i]'(by omega)).length by omega)
   exact ⟨_, _, hx, hxj, h2 j _ b hxj hb⟩
  rw [hl]
  refine .slN _ _ _ b o cap c hm hb (by omega) (fun y hy => ?_) (fun i j x y hx' hy => ?_) fun i j x y hx' hy => ?_
  ·obtain ⟨i, hi, rfl⟩ := List.mem_iff_getElem.1 hy
   have hx := List.getElem?_eq_getElem (l := xs) (show i < xs.length by omega)
   rw [(hs i _ _ hx (List.getElem?_eq_getElem hi)).1]
   exact hsz _ (List.getElem_mem _)
  ·obtain ⟨x', y', h1, h2, h3⟩ := hx i j x y hx' hy
   exact hcell i j x' y' h1 h2
  ·obtain ⟨x', y', h1, h2, h3⟩ := hx i j x y hx' hy
   exact h3 _ _ _ _ _ (hrep i j x' y' h1 h2)
theorem wLe : AV.Le wC (.agg [zA6 wps]) := by
 refine AV.Le.agg rfl fun i x y hx hy => ?_
 match i, hx, hy with
 | 0, rfl, rfl =>
  refine AV.Le.row rfl fun i x y hx hy => ?_
  match i, hx, hy with
  | 0, rfl, rfl =>
   refine ⟨rfl, fun j a b ha hb => ?_⟩
   match j, ha, hb with
   | 0, rfl, rfl => exact AV.Le.refl _
   | 1, rfl, rfl => exact AV.Le.refl _
   | 2, rfl, rfl => exact AV.Le.refl _
   | 3, rfl, rfl => exact AV.Le.refl _
   | 4, rfl, rfl => exact AV.Le.nil _
   | 5, rfl, rfl => exact AV.Le.refl _
theorem wArgs {k : FuncId} {H : zC} {R : AV → zC → Prop} (h : ACall Tryz.prog k [.agg [zA6 wps]] H R) : ACall Tryz.prog k [wC] H R := by
 refine ACall.args h rfl fun i x y hx hy => ?_
 match i, hx, hy with
 | 0, rfl, rfl => exact wLe
end Go.Proofs.YtbibhcmcjldhdaaGreatDoor
namespace Go.Proofs.YtbibhcmcjldhdaaGreatDoor
open Go Go.Ax
set_option maxRecDepth 100000
set_option maxHeartbeats 4000000
noncomputable def ciTbl : Tr (Option LFn) := (tN (tN (tN (tN tL (tN tL (tN (tN tL (tE Tryz.f215 [] tL tL)) tL))) (tN (tN (tN tL (tN (tE Tryz.f163 [⟨29, 5, (.pre 10 (.frz (.t 10)))⟩] tL tL) tL)) tL) tL)) (tN (tN (tN (tN tL (tN (tE Tryz.f161 [] tL tL) tL)) tL) tL) tL)) (tN (tN (tE Tryz.f8 [] (tN (tN tL (tN (tE Tryz.f160 [] tL tL) tL)) tL) (tN (tE Tryz.f40 [] tL tL) (tN tL (tE Tryz.f120 [] tL tL)))) (tN (tN tL (tN (tN tL (tE Tryz.f212 [] tL tL)) tL)) tL)) (tN (tN (tN (tN (tE Tryz.f66 [] tL tL) (tN (tE Tryz.f162 [⟨7, 12, .tail⟩, ⟨8, 12, .tail⟩, ⟨9, 12, .tail⟩, ⟨10, 12, .tail⟩, ⟨17, 12, .tail⟩, ⟨18, 12, .tail⟩, ⟨23, 12, .tail⟩] tL tL) tL)) tL) tL) (tN (tN tL (tN (tN tL (tE Tryz.f214 [] tL tL)) tL)) tL))))
theorem ciTbl_ok : TblOk Tryz.prog ciTbl := tblOk_of' (hN (hN (hN (hN hL (hN hL (hN (hN hL (hE Tryz.func215 hL hL)) hL))) (hN (hN (hN hL (hN (hE Tryz.func163 hL hL) hL)) hL) hL)) (hN (hN (hN (hN hL (hN (hE Tryz.func161 hL hL) hL)) hL) hL) hL)) (hN (hN (hE Tryz.func8 (hN (hN hL (hN (hE Tryz.func160 hL hL) hL)) hL) (hN (hE Tryz.func40 hL hL) (hN hL (hE Tryz.func120 hL hL)))) (hN (hN hL (hN (hN hL (hE Tryz.func212 hL hL)) hL)) hL)) (hN (hN (hN (hN (hE Tryz.func66 hL hL) (hN (hE Tryz.func162 hL hL) hL)) hL) hL) (hN (hN hL (hN (hN hL (hE Tryz.func214 hL hL)) hL)) hL))))
def cwI0 : Fact := ⟨40, [int 0], str [48]⟩
theorem cwI0_ok : zBN Tryz.prog cwI0 := zA5 (l := []) (fun q hq => by simp at hq) ciTbl_ok (m := 200) (d := 60) (by kernel_rfl) (by kernel_rfl) (by kernel_rfl)
def cwI1 : Fact := ⟨40, [int 1], str [49]⟩
theorem cwI1_ok : zBN Tryz.prog cwI1 := zA5 (l := []) (fun q hq => by simp at hq) ciTbl_ok (m := 200) (d := 60) (by kernel_rfl) (by kernel_rfl) (by kernel_rfl)
def cwI3 : Fact := ⟨40, [int 3], str [51]⟩
theorem cwI3_ok : zBN Tryz.prog cwI3 := zA5 (l := []) (fun q hq => by simp at hq) ciTbl_ok (m := 200) (d := 60) (by kernel_rfl) (by kernel_rfl) (by kernel_rfl)
def wN (n : Int) : Prop := n = 0 ∨ n = 1 ∨ n = 3
theorem wI0 : Lib.itoa 0 = [48] := by kernel_rfl
theorem wI1 : Lib.itoa 1 = [49] := by kernel_rfl
theorem wI3 : Lib.itoa 3 = [51] := by kernel_rfl
theorem wItoa : ItoaOk wN := ⟨fun n h H => by
  rcases h with rfl | rfl | rfl
  ·rw [wI0]; exact cwI0_ok H
  ·rw [wI1]; exact cwI1_ok H
  ·rw [wI3]; exact cwI3_ok H,
 fun n h => by
  rcases h with rfl | rfl | rfl
  ·rw [wI0]; decide
  ·rw [wI1]; decide
  ·rw [wI3]; decide⟩
theorem wFm : ∀ q ∈ wps, FmP wN q := fun q hq => by
 simp only [wps, List.mem_singleton] at hq
 subst hq
 refine ⟨by decide, by decide, fun n hn => ?_, ?_, by decide⟩
 ·simp only [pnums, List.mem_cons, List.not_mem_nil, or_false] at hn
  unfold wN; omega
 ·simp only [FOks, FOk, numsOf, argsN]
  simp [wN]
def wT : List UInt8 := [112, 114, 111, 99, 32, 102, 32, 49, 32, 49, 32, 49, 10, 32, 32, 108, 111, 97, 100, 32, 48, 10, 32, 32, 112, 117, 115, 104, 32, 48, 10, 32, 32, 103, 114, 101, 97, 116, 101, 114, 10, 32, 32, 105, 102, 10, 32, 32, 32, 32, 108, 111, 97, 100, 32, 48, 10, 32, 32, 32, 32, 112, 117, 115, 104, 32, 51, 10, 32, 32, 32, 32, 108, 101, 115, 115, 10, 32, 32, 101, 108, 115, 101, 10, 32, 32, 32, 32, 112, 117, 115, 104, 32, 48, 10, 32, 32, 101, 110, 100, 10, 32, 32, 114, 101, 116, 117, 114, 110, 10, 101, 110, 100, 10]
theorem wText : codeT wps = wT := by kernel_rfl
def cwVal : Fact := ⟨14, [wC], bool true⟩
theorem cwVal_ok : zBN Tryz.prog cwVal := fun H => wArgs (by have h := codeValidC wps wSml H; rw [wValid] at h; exact h)
def cwFmt : Fact := ⟨13, [wC], str wT⟩
theorem cwFmt_ok : zBN Tryz.prog cwFmt := fun H => wArgs (by have h := formatFC wItoa wps wSml wValid wFm (by rw [wText]; decide) H; rw [wText] at h; exact h)
def cwComp : Fact := ⟨20, [.agg [int 2, str [], int 0, int 48, .sl 5 [[int 5, str [102], int 0, int 48, .sl 5 [[int 6, str [], int 6, int 14, .sl 5 [[int 7, str [120], int 7, int 13, .sl 5 [[int 9, str [105, 110, 116], int 10, int 13, .sl 5 []]]]]], [int 9, str [98, 111, 111, 108], int 16, int 20, .sl 5 []], [int 11, str [], int 21, int 48, .sl 5 [[int 17, str [], int 23, int 46, .sl 5 [[int 29, str [97, 110, 100], int 30, int 45, .sl 5 [[int 29, str [62], int 30, int 35, .sl 5 [[int 20, str [120], int 30, int 31, .sl 5 []], [int 24, str [48], int 34, int 35, .sl 5 []]]], [int 29, str [60], int 40, int 45, .sl 5 [[int 20, str [120], int 40, int 41, .sl 5 []], [int 24, str [51], int 44, int 45, .sl 5 []]]]]]]]]]]]], .sl 3 [[int 0, int 0, str []], [int 0, int 0, str []], [int 0, int 0, str []], [int 0, int 0, str []], [int 0, int 0, str []], [int 0, int 0, str []], [int 0, int 0, str []], [int 0, int 0, str []], [int 2, int 0, str []], [int 2, int 0, str []], [int 1, int 0, str []], [int 1, int 0, str []], [int 2, int 0, str []], [int 1, int 0, str []], [int 1, int 0, str []]], .sl 1 [[int (-1)], [int (-1)], [int (-1)], [int 0], [int (-1)], [int (-1)], [int (-1)], [int (-1)], [int (-1)], [int (-1)], [int 0], [int (-1)], [int (-1)], [int 0], [int (-1)]], .sl 2 [], .sl 9 [[str [102], int 1, int 1, int 2, int 0, str [], .sl 8 [[str [120], int 1, int 0, str [], int 0, int 3, bool false, bool false]], int 1, zBv]]]], .tup [.agg [.sl 6 [[str [102], int 1, int 1, int 1, zBv, .sl 5 [[int 1, int 0, int 0, .sl 5 [], .sl 5 []], [int 0, int 0, int 0, .sl 5 [], .sl 5 []], [int 14, int 0, int 0, .sl 5 [], .sl 5 []], [int 18, int 0, int 0, .sl 5 [[int 1, int 0, int 0, .sl 5 [], .sl 5 []], [int 0, int 3, int 0, .sl 5 [], .sl 5 []], [int 12, int 0, int 0, .sl 5 [], .sl 5 []]], .sl 5 [[int 0, int 0, int 0, .sl 5 [], .sl 5 []]]], [int 21, int 0, int 0, .sl 5 [], .sl 5 []]]]]], int 0]⟩
theorem cwComp_ok : zBN Tryz.prog cwComp := zA5 (l := [cwVal]) (fun q hq => by
  simp only [List.mem_cons, List.not_mem_nil, or_false] at hq
  subst hq; exact cwVal_ok) zBM (m := 200) (d := 60) (by kernel_rfl) (by kernel_rfl) (by kernel_rfl)
def cwAw : Fact := ⟨8, [], bool true⟩
theorem cwAw_ok : zBN Tryz.prog cwAw := zA5 (l := [cw10_Check, cwComp, cwFmt]) (fun q hq => by
  simp only [List.mem_cons, List.not_mem_nil, or_false] at hq
  rcases hq with rfl | rfl | rfl
  ·exact cw10_Check_ok
  ·exact cwComp_ok
  ·exact cwFmt_ok) ciTbl_ok (m := 200) (d := 60) (by kernel_rfl) (by kernel_rfl) (by kernel_rfl)
theorem zDe (H : zC) : zBg 8 [] H (bool true) := cwAw_ok H
set_option linter.unusedSimpArgs false
set_option linter.unusedVariables false
theorem costCC (ps : List Pr) (hs : CodeSml ps) (p L : Int) (H : zC) : zBg 9 [.agg [zA6 ps], int p, int L] H (costA ps p L) := by
 obtain ⟨hs1, hs2, hs3⟩ := hs
 have cV := fun H => codeValidC ps ⟨hs1, hs2, hs3⟩ H
 have hcl : ∀ x, x = costA ps p L → x.cl = true := fun x hx => by subst hx; unfold costA; split <;> (try split) <;> (try split) <;> simp [AV.cl, clL]
 refine ACall.drop (R := fun x => x = costA ps p L) ?_
 refine enter Tryz.func9 L9_ok (Nat.le_of_ble_eq_true rfl) ?_
 cases hv : zCy ps with
 | false =>
  rw [hv] at cV
  have hA : costA ps p L = .tup [int 0, int 1] := by unfold costA; rw [if_pos hv]
  rw [hA]
  repeat' (first | refine zA (cV _) ?_ | simp -implicitDefEqProofs (disch := omega) only [L9, zAl, push_cast, ↓reduceIte, Nat.reduceEqDiff, Nat.reduceAdd, Nat.reduceLeDiff, Bool.and_self])
  first | exact ⟨_, rfl⟩ | exact ⟨rfl, by simp [AV.cl, clL], _, rfl⟩
 | true =>
  rw [hv] at cV
  have hv2 := zCx.1 hv
  by_cases hp : p < 0 ∨ ps.length ≤ p
  ·have hA : costA ps p L = .tup [int 0, int 7] := by unfold costA; rw [if_neg (by simp [hv]), if_pos hp]
   rw [hA]
   rcases hp with hp | hp
   ·repeat' (first | refine zA (cV _) ?_ | simp -implicitDefEqProofs (disch := omega) only [L9, zAl, zL, push_cast, ↓reduceIte, Nat.reduceEqDiff, reduceCtorEq, Nat.reduceAdd, Nat.reduceLeDiff, Bool.and_self])
    first | exact ⟨_, rfl⟩ | exact ⟨rfl, by simp [AV.cl, clL], _, rfl⟩
   ·by_cases hp0 : p < 0
    ·omega
    ·repeat' (first | refine zA (cV _) ?_ | simp -implicitDefEqProofs (disch := omega) only [L9, zAl, List.length_map, zV, zAf, push_cast, ↓reduceIte, Nat.reduceEqDiff, reduceCtorEq, Nat.reduceAdd, Nat.reduceLeDiff, Bool.and_self])
     first | exact ⟨_, rfl⟩ | exact ⟨rfl, by simp [AV.cl, clL], _, rfl⟩
  ·by_cases hL : L < 0 ∨ 8 < L
   ·have hA : costA ps p L = .tup [int 0, int 2] := by unfold costA; rw [if_neg (by simp [hv]), if_neg hp, if_pos hL]
    rw [hA]
    rcases hL with hL | hL
    ·repeat' (first | refine zA (cV _) ?_ | simp -implicitDefEqProofs (disch := omega) only [L9, zAl, List.length_map, zL, zV, zAB, push_cast, ↓reduceIte, Nat.reduceEqDiff, reduceCtorEq, Nat.reduceAdd, Nat.reduceLeDiff, Bool.and_self])
     first | exact ⟨_, rfl⟩ | exact ⟨rfl, by simp [AV.cl, clL], _, rfl⟩
    ·by_cases hL0 : L < 0
     ·omega
     ·repeat' (first | refine zA (cV _) ?_ | simp -implicitDefEqProofs (disch := omega) only [L9, zAl, List.length_map, zL, zV, zAB, push_cast, ↓reduceIte, Nat.reduceEqDiff, reduceCtorEq, Nat.reduceAdd, Nat.reduceLeDiff, Bool.and_self])
      first | exact ⟨_, rfl⟩ | exact ⟨rfl, by simp [AV.cl, clL], _, rfl⟩
   ·have hA : costA ps p L = .tup [int (costF ps p.toNat L), int 0] := by unfold costA; rw [if_neg (by simp [hv]), if_neg hp, if_neg hL]
    rw [hA]
    have hlen8 := hv2.1
    have hL1 : 0 ≤ L ∧ L ≤ 8 := by omega
    have hp1 : 0 ≤ p ∧ p < ps.length := by omega
    repeat' (first | refine And.intro (by omega) ?_ | refine zA (cV _) ?_ | simp -implicitDefEqProofs (disch := omega) only [L9, zAl, List.length_map, zV, zAB, push_cast, ↓reduceIte, Nat.reduceEqDiff, reduceCtorEq, Nat.reduceAdd, Nat.reduceLeDiff, Nat.reduceLT, Int.reduceToNat, Int.reduceLE, Bool.and_self])
    have hbl : (1 : Int) * 1 = 1 := rfl
    refine zAj (fun (st : Nat × Nat × zC) e' G => e' 1 = int p ∧ e' 2 = int L ∧ e' 3 = .ptr H.length 0 0 ∧ e' 8 = .os (H.length + 1) st.2.1 0 st.1 ∧ e' 36 = .sl 6 ((ps.map prR).take (p.toNat + 1)) ∧ e' 37 = int (p.toNat + 1 : Nat) ∧ e' 38 = int st.1 ∧ G = st.2.2 ∧ H.length + 2 ≤ G.length ∧ (∀ i, i < H.length → G[i]? = H[i]?) ∧ G[H.length + 1]? = some (.arr st.2.1 1 ((zBs ps L st.1).map iR)) ∧ st.1 ≤ p.toNat + 1) (fun st => p.toNat + 1 - st.1) (0, 0, H ++ [.box [zA6 ps], .arr 0 1 []]) ?_ ?_
    ·refine ⟨rfl, rfl, rfl, rfl, ?_, ?_, rfl, rfl, by simp, fun i hi => List.getElem?_append_left hi, by simp [get_add, zBs], by dsimp only; omega⟩
     ·show AV.sl 6 (List.take ((p + 1).toNat - 0) (List.map prR ps)) = _
      rw [show (p + 1).toNat - 0 = p.toNat + 1 by omega]
     ·show int ((List.take ((p + 1).toNat - 0) (List.map prR ps)).length : Nat) = _
      rw [show (p + 1).toNat - 0 = p.toNat + 1 by omega, List.length_take, List.length_map, Nat.min_eq_left (by omega)]
    rintro ⟨j, v, _⟩ e' G ⟨h1, h2, h3, h8, h36, h37, h38, rfl, gl, fr, g1, hj⟩
    simp only at h8 h38 gl fr g1 hj
    have hcl := costsF_len ps L j
    have htk : ((zBs ps L j).map iR).take j = (zBs ps L j).map iR := all_take _ (by simp [hcl])
    by_cases hlt : j < p.toNat + 1
    ·obtain ⟨m1, m2, m3⟩ := hs3 _ (zAo (show j < ps.length by omega))
     have hrow : ((ps.map prR).take (p.toNat + 1)).getD j [] = prR (ps.getD j default) := by
      rw [← zAO (show j < ps.length by omega)]
      simp only [List.getD_eq_getElem?_getD, List.getElem?_take, hlt, if_true]
     have hll : ((ps.map prR).take (p.toNat + 1)).length = p.toNat + 1 := by simp; omega
     have cc := fun G' hG => costsC (zBs ps L j) L (zCa ps hL1.1 hL1.2 j) hL1.1 hL1.2 (by omega) (ps.getD j default).body m3 (by rw [hcl]; exact zCU _ _ _ _ (hv2.2 j (by omega)).2.2.2.2) G' (H.length + 1) v hG
     rw [hcl] at cc
     have hgx : ∀ x : zC, (G ++ x)[H.length + 1]? = some (.arr v 1 ((zBs ps L j).map iR)) := fun x => by rw [List.getElem?_append_left (by omega)]; exact g1
     repeat' (first | refine And.intro (by omega) ?_ | refine zA (cc _ (hgx _)) ?_ | simp -implicitDefEqProofs (disch := omega) only [h2, h8, h36, h37, h38, hrow, hll, hgx, zO, zP, zCo, pr_c1s, zBm, splice, List.length_map, hcl, htk, zL, push_cast, ↓reduceIte, Nat.reduceEqDiff, reduceCtorEq, Nat.reduceAdd, Nat.reduceLeDiff, Nat.reduceLT, Bool.and_self])
     refine .mk (j + 1, v + 1, _) ⟨h1, h2, h3, rfl, h36, h37, rfl, rfl, by simp; omega, fun i hi => ?_, ?_, by dsimp only; omega⟩ (by dsimp only; omega)
     ·rw [List.getElem?_append_left (by simp; omega), List.getElem?_set_ne (by omega), fr i hi]
     ·rw [List.getElem?_append_left (by simp; omega), List.getElem?_set_self (by omega)]
      simp only [zBs, List.map_append, List.map_cons, List.map_nil, iR]
    ·have e : j = p.toNat + 1 := by omega
     subst e
     have hg : ((zBs ps L (p.toNat + 1)).map iR).getD p.toNat [] = [int (costF ps p.toNat L)] := by
      rw [zU (by omega), costsF_get ps L (by omega)]; rfl
     repeat' (first | refine And.intro (by omega) ?_ | simp -implicitDefEqProofs (disch := omega) only [h1, h8, h37, h38, g1, List.length_map, hcl, hg, Nat.zero_add, zV, push_cast, ↓reduceIte, Nat.reduceEqDiff, Nat.reduceLeDiff, Bool.and_self])
     obtain ⟨rest, hrest⟩ := heap_ext' (H := H) (G := G) (by omega) fr
     first | exact ⟨rest, hrest⟩ | exact ⟨rfl, by simp [AV.cl, clL], rest, hrest⟩
theorem compilerCosts (ps : List Pr) (hs : CodeSml ps) (p L : Int) (H : zC) : zBg 3 [.agg [zA6 ps], int p, int L] H (bool true) := by
 refine ACall.drop (R := fun x => x = bool true) ?_
 refine enter Tryz.func3 L3_ok (Nat.le_of_ble_eq_true rfl) ?_
 obtain ⟨b, cS⟩ := smallCR ps hs (H ++ [HO.box [zA6 ps]])
 have cV := fun H => codeValidR ps hs H
 cases b with
 | false =>
  repeat' (first | refine zA (cS) ?_ | refine zA (zDe _) ?_ | simp -implicitDefEqProofs (disch := omega) only [L3, zJ, zAl, push_cast, ↓reduceIte, Nat.reduceEqDiff, Nat.reduceAdd, Nat.reduceLeDiff, Bool.and_self])
  all_goals exact ⟨_, rfl⟩
 | true =>
 by_cases h2 : validP ps
 rotate_left
 ·rw [validB_f h2] at cV
  repeat' (first | refine zA (cS) ?_ | refine zA (cV _) ?_ | refine zA (zDe _) ?_ | simp -implicitDefEqProofs (disch := omega) only [L3, zJ, zAl, push_cast, ↓reduceIte, Nat.reduceEqDiff, Nat.reduceAdd, Nat.reduceLeDiff, Bool.and_self])
  all_goals exact ⟨_, rfl⟩
 rw [zCx.2 h2] at cV
 have h8 := h2.1
 by_cases h3 : p < 0 ∨ ps.length ≤ p ∨ L < 0 ∨ 8 ≤ L
 ·by_cases h31 : p < 0
  ·repeat' (first | refine zA (cS) ?_ | refine zA (cV _) ?_ | refine zA (zDe _) ?_ | simp -implicitDefEqProofs (disch := omega) only [L3, zJ, zAl, zL, push_cast, ↓reduceIte, Nat.reduceEqDiff, reduceCtorEq, Nat.reduceAdd, Nat.reduceLeDiff, Bool.and_self])
   all_goals exact ⟨_, rfl⟩
  by_cases h32 : ps.length ≤ p
  ·repeat' (first | refine zA (cS) ?_ | refine zA (cV _) ?_ | refine zA (zDe _) ?_ | simp -implicitDefEqProofs (disch := omega) only [L3, zJ, zAl, List.length_map, zV, zAf, push_cast, ↓reduceIte, Nat.reduceEqDiff, reduceCtorEq, Nat.reduceAdd, Nat.reduceLeDiff, Bool.and_self])
   all_goals exact ⟨_, rfl⟩
  by_cases h33 : L < 0
  ·repeat' (first | refine zA (cS) ?_ | refine zA (cV _) ?_ | refine zA (zDe _) ?_ | simp -implicitDefEqProofs (disch := omega) only [L3, zJ, zAl, List.length_map, zL, zV, zAB, push_cast, ↓reduceIte, Nat.reduceEqDiff, reduceCtorEq, Nat.reduceAdd, Nat.reduceLeDiff, Bool.and_self])
   all_goals exact ⟨_, rfl⟩
  ·repeat' (first | refine zA (cS) ?_ | refine zA (cV _) ?_ | refine zA (zDe _) ?_ | simp -implicitDefEqProofs (disch := omega) only [L3, zJ, zAl, List.length_map, zV, zAf, zAB, push_cast, ↓reduceIte, Nat.reduceEqDiff, reduceCtorEq, Nat.reduceAdd, Nat.reduceLeDiff, Bool.and_self])
   all_goals exact ⟨_, rfl⟩
 have hgd : (ps.map prR).getD p.toNat [] = prR (ps.getD p.toNat default) := zAO (by omega)
 have cA := fun H => costCC ps hs p L H
 have cB := fun H => costCC ps hs p (L + 1) H
 have e1 : costA ps p L = .tup [int (costF ps p.toNat L), int 0] := by unfold costA; rw [if_neg (by simp [zCx.2 h2]), if_neg (by omega), if_neg (by omega)]
 have e2 : costA ps p (L + 1) = .tup [int (costF ps p.toNat (L + 1)), int 0] := by unfold costA; rw [if_neg (by simp [zCx.2 h2]), if_neg (by omega), if_neg (by omega)]
 rw [e1] at cA
 rw [e2] at cB
 obtain ⟨m1, m2, m3⟩ := hs.3 _ (zAo (show p.toNat < ps.length by omega))
 have hln := zM (ps.getD p.toNat default).body
 obtain ⟨l1, l2, l3⟩ := costF_law ps p.toNat (L := L) (by omega) (by omega) (by omega)
 generalize costF ps p.toNat L = x at *
 generalize costF ps p.toNat (L + 1) = y at *
 repeat' (first | refine And.intro (by omega) ?_ | refine zA (cS) ?_ | refine zA (cV _) ?_ | refine zA (cA _) ?_ | refine zA (cB _) ?_ | refine zA (zDe _) ?_ | simp -implicitDefEqProofs (disch := omega) only [L3, zJ, zAl, hgd, zP, zBm, List.length_map, zV, zAf, zAB, push_cast, ↓reduceIte, Nat.reduceEqDiff, reduceCtorEq, Nat.reduceAdd, Nat.reduceLeDiff, Nat.reduceLT, Bool.and_self])
 all_goals exact ⟨_, rfl⟩
end Go.Proofs.YtbibhcmcjldhdaaGreatDoor
namespace Go.Ax
open Go Go.RowKit Go.WideShapes Go.ChangeShapes
open Go.Proofs.YtbibhcmcjldhdaaGreatDoor
set_option linter.unusedSimpArgs false
set_option linter.unusedVariables false
theorem law_laid_upto {C : Checked} {k : FuncId} {fn : Func} {s : ChangeSpec} {F : Stop.Interp} {conds : List PathCond} {laid : List (String × DataW Unit)} {tb : TypeId} {S : List TypeId} {os : Os} {H : Type} {enc : TypeId × Value → H} {ts : List TypeId}
  (own : ownKnob C.prog.godebug = none) (started : os.Started) (noInit : C.prog.inits.idxOf? k = none) (hfn : C.prog.funcs[k]? = some fn)
  (witness : ∃ (w : World) (tape : Tape) (i : Input), w.os = os ∧ (w.forCall tape i).Shaped C.prog ∧ i.vars = [] ∧ Input.okWide C.prog (w.forCall tape i) .any w.heap.size k i ∧
   (Rows.OpenSpec.upto s).preRow enc C.prog fn conds false laid (w.forCall tape i).memory i.args ∧ (({} : Assume)).holds C.prog (lone (Frame.enter C.prog k i.args .normal) [] (w.forCall tape i)))
  (hv : s.vars = []) (hts : fn.params.toList = ts) (hf : fn.resultTypes = #[tb]) (htb : C.prog.underlying tb = some .bool) (hs : ∀ ds : List (DataW H), ds.length = ts.length → s.fn H ds = ⟨[.lit (.bool true)], ds, []⟩)
  (hgl : intVars C.prog = true) (hl : laidOutB C.prog = true) (hr : ts.all (fun t => C.prog.readableRec t && decide (t < C.prog.types.size) && S.contains t) = true) (hS : plainB C.prog S = true)
  (law : ∀ l, ValAll C.prog ts l → zAY l ≤ 1048576 → ∃ R : zC → Prop, ACall C.prog k (topAll C.prog ts l) [] fun x H' => x = bool true ∧ R H') :
  ReturnsInHanded {} C os k .any ((Rows.OpenSpec.upto s).preRow enc C.prog fn conds false laid) (((Rows.OpenSpec.upto s).at F).post enc C.prog fn false true false false) := by
 refine returnsInHanded_of_row (s := Rows.OpenSpec.upto s) own started noInit hfn witness ?_
 intro W base args ds gs before hval hW _ hcnd _ hL hsh _
 have hkk := hcnd _ rfl
 have hW' := hW
 obtain ⟨p, q, hA, hV, rfl, hfz, hnd⟩ := hW
 have hV' : DataW.TrodVars enc C.prog W (fun _ => true) s.vars gs q := hV
 rw [hv] at hV'
 obtain ⟨rfl, rfl⟩ := trodVars_none hV'
 have hall : ∀ t ∈ ts, C.prog.readableRec t = true ∧ t < C.prog.types.size ∧ t ∈ S := fun t ht => by
  have := List.all_eq_true.1 hr t ht
  simpa [and_assoc] using this
 rw [hts] at hA
 obtain ⟨l, hl1, hlb, hl2, hl3⟩ := open_allB hS (fun t ht => (hall t ht).2.2) (fun j t v ht hvv => ⟨_, _, hval j t v (by rw [← Array.getElem?_toList, hts]; exact ht) (by rw [← Array.getElem?_toList]; exact hvv)⟩) hA
 have hbd : zAY l ≤ 1048576 := by
  have h : Rows.uptoBulkAll (ds ++ []) ≤ 1048576 := of_decide_eq_true hkk
  rw [List.append_nil] at h
  exact Nat.le_trans hlb h
 obtain ⟨R, hlaw⟩ := law l hl1 hbd
 have hrep : RepL W X0 (fun _ => {}) 0 (topAll C.prog ts l) args := ⟨by simpa using hl2, fun i x u hx hu => hl3 i x u hx (by rw [Array.getElem?_toList]; exact hu)⟩
 refine (hlaw.top hrep (glbs_shaped hgl hsh)).mono fun e W' ⟨v, x, H', ρ', he, hx, hrx, hb⟩ => ?_
 obtain ⟨rfl, _⟩ := hx
 have hvv := zAP hrx
 subst hvv
 subst he
 have hlt : ∀ x ∈ p ++ [], x.block < W.heap.size := fun x hx => hW'.lt x hx
 have hdl : ds.length = ts.length := by
  have aux : ∀ {ts : List TypeId} {vs : List Value} {ds : List (DataW H)} {ps : List MemPlace}, DataW.TrodAll enc C.prog W 0 (fun _ => true) true ts vs ds ps → ds.length = ts.length := by
   intro ts
   induction ts with
   | nil => intro vs ds ps h; obtain ⟨_, rfl, _⟩ := trodAll_nil h; rfl
   | cons t ts ih => intro vs ds ps h; obtain ⟨v, vs1, d, ds1, a, b, rfl, rfl, rfl, h1, h2⟩ := trodAll_cons h; simp [ih h2]
  exact aux hA
 refine ⟨_, rfl, post_law (s := s) hW' hv hf htb (hs ds hdl) (fun sp hsp => ?_) hb⟩
 rw [hts, List.append_nil]
 exact stays_all hl (fun t ht => ⟨(hall t ht).1, (hall t ht).2.1⟩) hA (fun x hx => hb.same (hlt x (by simpa using hx))) (fun x hx => hsp x (by simpa using hx))
mutual
def flatV : DataW Unit → List Value
 | .lit (.int k n) => [.int k n]
 | .agg ps => flatVs ps
 | _ => []
def flatVs : List (DataW Unit) → List Value
 | [] => []
 | d :: l => flatV d ++ flatVs l
end
noncomputable def layIn (P : Program) : List (String × DataW Unit) → World → World
 | [], w => w
 | (n, d) :: l, w => layIn P l (match P.globalNamed n with
  | none => w
  | some g => { w with heap := w.heap.modify g fun
   | .cells _ t frozen => .cells (flatV d).toArray t frozen
   | o => o })
end Go.Ax
