/- The library's functions, met by the contracts of the shelf, as calls over values without addresses: strings.Contains, strings.Join. -/
import Derived.Test.YtdgmlepakippmaaShelf
import Derived.Test.YtdgmlepakippmaaAx22
import Derived.KernelRfl
namespace Go.Proofs.Ytdgmlepakippmaa
open Go Go.Ax Go.RowKit
set_option maxRecDepth 100000
set_option linter.unusedSimpArgs false
set_option linter.unusedVariables false

theorem repL_two {w : World} {M : Nat → Prop} {ρ : Nat → Ax.Loc} {n : Nat} {x y : AV} {vs : Array Value} (h : RepL w M ρ n [x, y] vs) : ∃ a b, vs = #[a, b] ∧ Rep w M ρ n x a ∧ Rep w M ρ n y b := by
  obtain ⟨h1, h2⟩ := h
  match vs, h1 with
  | ⟨[a, b]⟩, _ => exact ⟨a, b, rfl, h2 0 x a rfl rfl, h2 1 y b rfl rfl⟩

theorem bs_mkS (l : List UInt8) : (mkS l).data.toList = l := rfl
theorem size_mkS (l : List UInt8) : (mkS l).size = l.length := rfl

theorem containsC (s p : List UInt8) (hs : s.length < 4294967281) (H : AHeap) : ACall Try.prog 36 [str s, str p] H fun x H' => x = bool (Lib.contains s p) ∧ H' = H := by
  refine ⟨⟨_, Try.func36, by kernel_rfl, by kernel_rfl⟩, fun X ρ w vs hrel hargs => ?_⟩
  obtain ⟨a, b, rfl, ha, hb⟩ := repL_two hargs
  have ha := rep_vx ha
  have hb := rep_vx hb
  subst ha
  subst hb
  obtain ⟨-, m, hm⟩ := hrel.gl 0 (by simp [glbs])
  refine (Try.strings_Contains (mkS s) (mkS p) m w (by rw [size_mkS]; exact hs) hm).mono ?_
  rintro e w' ⟨rfl, rfl⟩
  exact ⟨_, _, H, ρ, rfl, ⟨rfl, rfl⟩, hrel, .v _ _, Fut.refl _ _ _⟩

theorem joinC (xs : List (List UInt8)) (sep : List UInt8) (hn : xs.length ≤ 140737488355328) (hl : (Lib.join xs sep).length ≤ 140737488355328) (H : AHeap) :
    ACall Try.prog 30 [.sl 1 (xs.map fun x => [str x]), str sep] H fun x H' => x = str (Lib.join xs sep) ∧ H' = H := by
  refine ⟨⟨_, Try.func30, by kernel_rfl, by kernel_rfl⟩, fun X ρ w vs hrel hargs => ?_⟩
  obtain ⟨a, b, rfl, ha, hb⟩ := repL_two hargs
  have hb := rep_vx hb
  subst hb
  cases xs with
  | nil =>
    simp only [List.map_nil] at ha
    have : ∃ ad cap, a = .slice ad 0 cap := by
      cases ha with
      | slE => exact ⟨_, _, rfl⟩
      | slN => exact ⟨_, _, rfl⟩
    obtain ⟨ad, cap, rfl⟩ := this
    refine (Try.strings_Join_none ad cap (mkS sep) w).mono ?_
    rintro e w' ⟨rfl, rfl⟩
    exact ⟨_, _, H, ρ, rfl, ⟨rfl, rfl⟩, hrel, .v _ _, Fut.refl _ _ _⟩
  | cons x0 xr =>
    generalize hxs : x0 :: xr = xs at *
    have hne : xs.map (fun x => [str x]) ≠ [] := by rw [← hxs]; simp
    generalize hys : xs.map (fun x => [str x]) = ys at *
    cases ha with
    | slE => exact absurd rfl hne
    | slN _ _ _ b o cap c hm hb hcap hsz hcell hrep =>
      have hlen : ys.length = xs.length := by rw [← hys]; simp
      have hmm : (xs.map mkS).map (fun x => x.data.toList) = xs := by simp [Function.comp_def, bs_mkS]
      have hcells : ∀ (j : Nat) x, (xs.map mkS)[j]? = some x → w.cell? ⟨b, o + j, none⟩ = some (.string x) := by
        intro j x hx
        simp only [List.getElem?_map, Option.map_eq_some_iff] at hx
        obtain ⟨y, hy, rfl⟩ := hx
        have hyj : ys[j]? = some [str y] := by rw [← hys]; simp [hy]
        have h1 := hcell j 0 _ (str y) hyj rfl
        have h2 := rep_vx (hrep j 0 _ (str y) hyj rfl)
        simp only [Nat.mul_one, Nat.add_zero] at h1
        rw [h1.1, h2]
      have := Try.strings_Join b o cap (xs.map mkS) (mkS sep) w hcells hb (by simpa using hn) (by simp; omega) (by rw [hmm]; exact hl)
      rw [hmm, List.length_map, ← hlen] at this
      refine this.mono ?_
      rintro e w' ⟨rfl, hbel⟩
      obtain ⟨f1, f2⟩ := hrel.more ⟨hbel.os, hbel.tape, hbel.output, hbel.size⟩ hbel.block
      exact ⟨_, _, H, ρ, rfl, ⟨rfl, rfl⟩, f1, .v _ _, f2⟩
end Go.Proofs.Ytdgmlepakippmaa
