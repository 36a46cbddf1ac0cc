/- Types, part 4: the reference's scalars, sizes, equal lists. -/
import Derived.Test.YtdgmlepakippmaaTy3
namespace Go.Proofs.Ytdgmlepakippmaa
open Go Go.Ax
set_option maxRecDepth 100000
set_option linter.unusedSimpArgs false
set_option linter.unusedVariables false

theorem ite_scR (f : Fd) : (if f.ty.k = 2 then [int 2, int 0, str []] else [int 1, int 0, str []]) = scR f := by
  unfold scR scF
  split <;> rfl
theorem scalV_len (rs : List Rc) (l : List Ty) : scalV rs l = nilS ∨ ∃ ts : List Ty, scalV rs l = .sl 3 (ts.map tyR) := by
  unfold scalV
  split
  · exact .inr ⟨_, rfl⟩
  · exact .inl rfl
def sizeF (rs : List Rc) (t : Ty) : Nat := if validF t rs = true then (scal1 rs t).length else 0
theorem sizeF_no {rs : List Rc} {t : Ty} (h : validF t rs = false) : sizeF rs t = 0 := by unfold sizeF; rw [h]; rfl
theorem sizeF_yes {rs : List Rc} {t : Ty} (h : validF t rs = true) : sizeF rs t = (scal1 rs t).length := by unfold sizeF; rw [h]; rfl
theorem scalV_1 {rs : List Rc} {t : Ty} (h : validF t rs = true) : scalV rs [t] = .sl 3 ((scal1 rs t).map tyR) := by simp [scalV, h]
theorem scalV_0 {rs : List Rc} {t : Ty} (h : validF t rs = false) : scalV rs [t] = nilS := by simp [scalV, h]
theorem ty_ext {a b : Ty} : a = b ↔ a.k = b.k ∧ a.len = b.len ∧ a.rc = b.rc := by cases a; cases b; simp
end Go.Proofs.Ytdgmlepakippmaa
