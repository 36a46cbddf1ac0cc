/- Parts, merged by a program (wip/tools/merge.py): Ax20d Ax21 Ax22 Lx1 Lx2 Ax23 Lx3 Lx4 Lx5 Lx6 Vd1 Fv Shelf Vl1 Ft Ax24. -/
import Derived.Test.YteidffcimidinaaM2
import Derived.RangeFuncIn
import Derived.RangeFuncLeaves
import Derived.RangeFuncRecord
import Derived.Test.YteidffcimidinaaChecked
import Derived.Shelf.Strings.Builder1
import Derived.Shelf.Strings.Builder2
import Derived.Shelf.Strings.OnBuilder
import Derived.Shelf.Small.Wraps
import Derived.Shelf.Strings.Search1
import Derived.Shelf.Strings.Search2
import Derived.Shelf.Strings.Search3
import Derived.Shelf.LaysM
import Derived.Shelf.Strings.Shaped
import Derived.Shelf.Bits.Mul64
import Derived.Ground.Names2Prog
import Derived.Shelf.Slices.SearchI
import Derived.Test.YteidffcimidinaaProg
import Derived.KernelRfl
import Derived.Below
import Derived.ChangeSame
/- Drawn regions in which insertions into a map come in any order. -/
namespace Go.Ax
open Go Go.RowKit
set_option linter.unusedSimpArgs false
set_option linter.unusedVariables false

section
variable {B : List Deferred} {P : Program} {w w0 : World} {X : Nat → Prop} {ρ ρ0 : Nat → Loc} {H H' ext : AHeap} {e : Env} {a : Act} {n n0 : Nat}
variable {ops : Array Oper} {hd : List LO} {xs : Nat → AV}

theorem perm_filter_ne {i : Nat} : ∀ {l : List Nat}, i ∈ l → l.Nodup → (i :: l.filter (· != i)).Perm l
  | x :: l, hi, hn => by
    obtain ⟨n1, n2⟩ := List.nodup_cons.1 hn
    by_cases hx : x = i
    · subst hx
      have : (x :: l).filter (· != x) = l := by
        rw [List.filter_cons_of_neg (by simp)]
        exact List.filter_eq_self.2 fun a ha => by simp; intro e; subst e; exact n1 ha
      rw [this]
    · have hi' : i ∈ l := by rcases List.mem_cons.1 hi with h | h; exact absurd h.symm hx; exact h
      rw [List.filter_cons_of_pos (by simpa using hx)]
      exact (List.Perm.swap x i _).trans (List.Perm.cons x (perm_filter_ne hi' n2))

theorem many_sound {r : Option Nat} {m0 : Nat} {hs : List Hn} {reg h p1 p2 : Nat} {post : List LO} {K : Env → AHeap → Prop} {Q : Exit → Act → World → Prop} (hE : edgesOk ops = true) (hD : Pr P n hs reg ops hd h p1 p2)
    (hT : ∀ j, h ≤ j → j < p2 → (tlAt P n hs reg ops j).g = none ∧ (∀ o, ops[j]? = some o → lowOne P n (hasImm hs reg j) ops o = some (tlAt P n hs reg ops j)) ∧ (j < p1 → fresh (tlAt P n hs reg ops j).op = true) ∧ (p1 ≤ j → isIns (tlAt P n hs reg ops j).op = true ∧ (tlAt P n hs reg ops j).d = none))
    (h1 : h ≤ p1) (h2 : p1 ≤ p2) (h3 : p2 ≤ ops.size) (hlen : hd.length = h) (hget : ∀ k o, k < h → ops[k]? = some o → ∃ imm, lowOne P n imm ops o = some (hd.getD k default)) (hpost : lowOps P n hs reg ops p2 (ops.toList.drop p2) = some post)
    (hQ : ∀ e' H' a' w', K e' H' → St B X w0 ρ0 n0 n e' H' a' w' → Q .normal a' w') :
    ∀ (fuel k : Nat) (rm : List Nat) (ws : List (Option Nat × AV)) (H : AHeap) (a : Act) (w : World) (listed : Array Bool), h ≤ k → k ≤ p1 → fuel = left listed ops.size → listed.size = ops.size →
      (∀ j, h ≤ j → j < p1 → listed.getD j true = decide (j < k)) → (∀ j, p1 ≤ j → j < p2 → (listed.getD j true = false ↔ j ∈ rm)) → (∀ j, p2 ≤ j → j < ops.size → listed.getD j true = false) → (∀ j ∈ rm, p1 ≤ j ∧ j < p2) → rm.Nodup → Closed ops listed →
      (∀ σ : List Nat, σ.Perm rm → aops P ((List.range' k (p1 - k)).map (tlAt P n hs reg ops) ++ σ.map (tlAt P n hs reg ops) ++ post) (wr ws (ED hd xs e (fun _ => true) h)) H K) →
      (∀ i, i < h → listed.getD i false = false → stepQ P (hd.getD i default) (ED hd xs e (fun _ => true) i) H (xs i)) →
      (∀ i, i < h → listed.getD i false = false → ∀ t x, (some t, x) ∈ ws → t ∉ (hd.getD i default).rd ∧ (hd.getD i default).d ≠ some t) →
      St B X w0 ρ0 n0 n (wr ws (ED hd xs e (fun j => listed.getD j false) h)) H a w → wpAnyIn (WR r) m0 P .any ops Q fuel listed a w := by
  have hend : ∀ (fuel : Nat) (ws : List (Option Nat × AV)) (H : AHeap) (a : Act) (w : World) (listed : Array Bool), fuel = left listed ops.size → listed.size = ops.size →
      (∀ j, h ≤ j → j < p1 → listed.getD j true = decide (j < p1)) → (∀ j, p1 ≤ j → j < p2 → (listed.getD j true = false ↔ j ∈ ([] : List Nat))) → (∀ j, p2 ≤ j → j < ops.size → listed.getD j true = false) → Closed ops listed →
      (∀ σ : List Nat, σ.Perm [] → aops P ((List.range' p1 (p1 - p1)).map (tlAt P n hs reg ops) ++ σ.map (tlAt P n hs reg ops) ++ post) (wr ws (ED hd xs e (fun _ => true) h)) H K) →
      (∀ i, i < h → listed.getD i false = false → stepQ P (hd.getD i default) (ED hd xs e (fun _ => true) i) H (xs i)) →
      (∀ i, i < h → listed.getD i false = false → ∀ t x, (some t, x) ∈ ws → t ∉ (hd.getD i default).rd ∧ (hd.getD i default).d ≠ some t) →
      St B X w0 ρ0 n0 n (wr ws (ED hd xs e (fun j => listed.getD j false) h)) H a w → wpAnyIn (WR r) m0 P .any ops Q fuel listed a w := by
    intro fuel ws H a w listed hf hsz ht1 ht2 ht3 hc hK hx hw hst
    refine mixed_sound (p1 := p1) (p := p2) hE hD (by omega) h1 (by omega) hlen hget hQ fuel p2 post ws H a w listed (Nat.le_refl _) h3 hf hsz (fun j hj1 hj2 => ?_) hc hpost (by simpa using hK [] (List.Perm.refl _)) hx hw hst
    by_cases hj : j < p1
    · rw [ht1 j hj1 hj]; simp; omega
    · by_cases hj3 : j < p2
      · cases hb : listed.getD j true with
        | true => simp [hj3]
        | false => have := (ht2 j (by omega) hj3).1 hb; simp at this
      · rw [ht3 j (by omega) hj2]; simp; omega
  have hopen : ∀ (k : Nat) (rm : List Nat) (listed : Array Bool), h ≤ k → k ≤ p1 → (∀ j, h ≤ j → j < p1 → listed.getD j true = decide (j < k)) → (∀ j, p1 ≤ j → j < p2 → (listed.getD j true = false ↔ j ∈ rm)) → (∀ j ∈ rm, p1 ≤ j ∧ j < p2) → ¬ (k = p1 ∧ rm = []) →
      ∃ q, h ≤ q ∧ q < p2 ∧ listed.getD q true = false ∧ (q < p1 → q = k) := by
    intro k rm listed hk hk1 ht1 ht2 hrm hn
    by_cases hkp : k < p1
    · exact ⟨k, hk, by omega, by rw [ht1 k hk hkp]; simp, fun _ => rfl⟩
    · have : rm ≠ [] := fun h0 => hn ⟨by omega, h0⟩
      obtain ⟨q, l, rfl⟩ := List.exists_cons_of_ne_nil this
      have hq := hrm q (by simp)
      exact ⟨q, by omega, hq.2, (ht2 q hq.1 hq.2).2 (by simp), fun hh => by omega⟩
  intro fuel
  induction fuel with
  | zero =>
    intro k rm ws H a w listed hk hk1 hf hsz ht1 ht2 ht3 hrm hnd hc hK hx hw hst
    by_cases hdone : k = p1 ∧ rm = []
    · obtain ⟨rfl, rfl⟩ := hdone
      exact hend 0 ws H a w listed hf hsz ht1 ht2 ht3 hc hK hx hw hst
    · obtain ⟨q, g1, g2, g3, _⟩ := hopen k rm listed hk hk1 ht1 ht2 hrm hdone
      have := left_pos g3 ops.size (by omega)
      omega
  | succ fuel ih =>
    intro k rm ws H a w listed hk hk1 hf hsz ht1 ht2 ht3 hrm hnd hc hK hx hw hst
    by_cases hdone : k = p1 ∧ rm = []
    · obtain ⟨rfl, rfl⟩ := hdone
      exact hend (fuel + 1) ws H a w listed hf hsz ht1 ht2 ht3 hc hK hx hw hst
    · obtain ⟨q, q1, q2, q3, q4⟩ := hopen k rm listed hk hk1 ht1 ht2 hrm hdone
      obtain ⟨i0, hi0, hi0u, hi0l⟩ := least_un ⟨q, (show q < ops.size by omega), q3⟩
      have hr0 : i0 ∈ Region.ready .any ops listed := ready_of hE (by omega) hi0u fun j hj => by rw [getD_ft (by omega)]; exact hi0l j hj
      refine ⟨fun h0 => by rw [h0] at hr0; simp at hr0, fun i hi => ?_⟩
      obtain ⟨hiu, oi, hoi, hiall⟩ := mem_ready.1 hi
      have his : i < ops.size := (Array.getElem?_eq_some_iff.1 hoi).1
      have hidf : listed.getD i false = false := by rw [getD_ft (by omega)]; exact hiu
      have hcf1 : ∀ a b : LO, ∀ t, a.d = some t → t ∈ b.rd → confl a b = true := by
        intro a b t h1 h2
        cases hb : confl a b with
        | true => rfl
        | false => exact absurd h2 ((conflF hb).1 t h1)
      have hcf2 : ∀ a b : LO, ∀ t, b.d = some t → t ∈ a.rd → confl a b = true := by
        intro a b t h1 h2
        cases hb : confl a b with
        | true => rfl
        | false => exact absurd h2 ((conflF hb).2.1 t h1)
      have hcf3 : ∀ a b : LO, ∀ t, a.d = some t → b.d = some t → confl a b = true := by
        intro a b t h1 h2
        cases hb : confl a b with
        | true => rfl
        | false => exact absurd h2 ((conflF hb).2.2 t h1)
      have hcount : fuel = left (listed.setIfInBounds i true) ops.size := by
        have := left_set hiu ops.size
        rw [if_pos his] at this
        omega
      by_cases hih : i < h
      · -- one of the first h
        have hbef : ∀ j, j < i → confl (hd.getD j default) (hd.getD i default) = true → listed.getD j false = true := by
          intro j hj hcf
          rcases hD j i his hj with g6 | g6 | g6 | g6
          · exact closed_before hc i oi j hoi g6 hiall
          · rw [g6.2] at hcf; cases hcf
          · omega
          · omega
        have hbeh : ∀ j, i < j → j < h → confl (hd.getD i default) (hd.getD j default) = true → listed.getD j false = false := by
          intro j hj hjh hcf
          rcases hD i j (show j < ops.size by omega) hj with g6 | g6 | g6 | g6
          · cases hb : listed.getD j false with
            | false => rfl
            | true =>
              obtain ⟨oj, hoj⟩ : ∃ oj, ops[j]? = some oj := ⟨ops[j]'(by omega), by simp [show j < ops.size by omega]⟩
              have := closed_before hc j oj i hoj g6 (hc j oj hoj hb)
              rw [hidf] at this
              cases this
          · rw [g6.2] at hcf; cases hcf
          · omega
          · omega
        have hwi := hw i hih hidf
        have hA : ∀ t ∈ (hd.getD i default).rd, ED hd xs e (fun _ => true) i t = wr ws (ED hd xs e (fun j => listed.getD j false) h) t := by
          intro t htr
          rw [wr_ne ws _ fun x hx => (hwi t x hx).1 htr, ED_skip (i := i) h (by omega) fun j h1 h2 h3 => by
            by_cases hji : j = i
            · rw [hji]; exact hidf
            · exact hbeh j (by omega) h2 (hcf2 _ _ t h3 htr)]
          exact ED_congr i fun j h1 h2 => (hbef j h1 (hcf1 _ _ t h2 htr)).symm
        have hB0 : ups (ED hd xs e (fun j => listed.getD j false) h) (hd.getD i default).d (xs i) = ED hd xs e (fun j => (listed.setIfInBounds i true).getD j false) h := by
          funext t
          by_cases hdt : (hd.getD i default).d = some t
          · rw [ED_skip (i := i + 1) h (by omega) fun j h1 h2 h3 => by
              rw [set_get, if_neg (by omega)]
              exact hbeh j (by omega) h2 (hcf3 _ _ t hdt h3)]
            rw [hdt, ups_eq]
            have hset : (listed.setIfInBounds i true).getD i false = true := by rw [set_get, if_pos ⟨rfl, by omega⟩]
            simp only [ED]
            rw [if_pos hset, hdt, ups_eq]
          · rw [ups_ne hdt]
            exact ED_congr h fun j h1 h2 => by
              rw [set_get, if_neg]
              rintro ⟨rfl, _⟩
              exact hdt h2
        have hB : ups (wr ws (ED hd xs e (fun j => listed.getD j false) h)) (hd.getD i default).d (xs i) = wr ws (ED hd xs e (fun j => (listed.setIfInBounds i true).getD j false) h) := by
          rw [wr_ups ws _ fun t ht x hx => (hwi t x hx).2 ht, hB0]
        have hstep := stepQ_congr hA (hx i hih hidf)
        obtain ⟨imm, hlow⟩ := hget i oi hih hoi
        have hone : aops P [hd.getD i default] (wr ws (ED hd xs e (fun j => listed.getD j false) h)) H fun e' H' => e' = wr ws (ED hd xs e (fun j => (listed.setIfInBounds i true).getD j false) h) ∧ H' = H := by
          refine aops_of ?_
          rcases hstep with ⟨g1, g2⟩ | ⟨g1, g2⟩
          · refine .inl ⟨g1, ?_⟩
            have := aop_of_aopq g2
            simp only [aops]
            refine aop_mono this ?_
            rintro y H' ⟨rfl, rfl⟩
            exact ⟨hB, rfl⟩
          · refine .inr ⟨g1, ?_⟩
            rw [← g2]
            exact ⟨hB, rfl⟩
        have hnx := op_step (r := r) (m0 := m0) hlow hone hst (next := wpAnyIn (WR r) m0 P .any ops Q fuel (listed.setIfInBounds i true)) (Q := Q) fun e'' H'' a'' w'' hK'' hs'' => by
          obtain ⟨rfl, rfl⟩ := hK''
          have hsub : ∀ j, j < h → (listed.setIfInBounds i true).getD j false = false → listed.getD j false = false := fun j hj hl => by
            rw [set_get] at hl
            split at hl
            · cases hl
            · exact hl
          exact ih k rm ws _ a'' w'' _ hk hk1 hcount (by simpa using hsz) (fun j g1 g2 => by rw [set_get, if_neg (by omega)]; exact ht1 j g1 g2) (fun j g1 g2 => by rw [set_get, if_neg (by omega)]; exact ht2 j g1 g2) (fun j g1 g2 => by rw [set_get, if_neg (by omega)]; exact ht3 j g1 g2) hrm hnd (hc.set hi) hK (fun j hj hl => hx j hj (hsub j hj hl)) (fun j hj hl => hw j hj (hsub j hj hl)) hs''
        unfold wpOpIn
        rw [hoi]
        simp only
        exact hnx
      · -- one of those behind
        have hqf : listed.getD q false = false := by rw [getD_ft (by omega)]; exact q3
        have hip : i < p2 := by
          refine Classical.byContradiction fun hge => ?_
          rcases hD q i his (by omega) with g | g | g | g
          · have := closed_before hc i oi q hoi g hiall
            rw [hqf] at this; cases this
          · omega
          · omega
          · omega
        have hkq : k < p1 → i = k := by
          intro hkp
          have hkf : listed.getD k false = false := by rw [getD_ft (by omega), ht1 k hk hkp]; simp
          have hik : k ≤ i := by
            by_cases hi1 : i < p1
            · have := ht1 i (by omega) hi1
              rw [hiu] at this
              have := this.symm
              simp at this
              exact this
            · omega
          refine Classical.byContradiction fun hne => ?_
          rcases hD k i his (by omega) with g | g | g | g
          · have := closed_before hc i oi k hoi g hiall
            rw [hkf] at this; cases this
          · omega
          · omega
          · omega
        obtain ⟨tg, tlow, tf, ti⟩ := hT i (by omega) hip
        have hlow := tlow oi hoi
        generalize hlo : tlAt P n hs reg ops i = lo at tg tf ti hlow
        have hfr : ∀ j, j < h → listed.getD j false = false → presAt hs reg i = [] ∧ quietK (hd.getD j default).op = true ∧ confl (hd.getD j default) lo = false ∧ comm (hd.getD j default).op lo.op = true := by
          intro j hj hl
          rw [← hlo]
          rcases hD j i his (by omega) with g | g | g | g
          · have := closed_before hc i oi j hoi g hiall
            rw [hl] at this
            cases this
          · omega
          · exact g.2.2
          · omega
        have hdet : det lo.op = true := by
          by_cases hi1 : i < p1
          · simp [det, tf hi1]
          · simp [det, (ti (by omega)).1]
        have hR : ∀ t ∈ lo.rd, wr ws (ED hd xs e (fun _ => true) h) t = wr ws (ED hd xs e (fun j => listed.getD j false) h) t := by
          intro t htr
          have : ∀ (l : List (Option Nat × AV)) (e1 e2 : Env), e1 t = e2 t → wr l e1 t = wr l e2 t := by
            intro l
            induction l with
            | nil => intro e1 e2 h; exact h
            | cons p l ihl =>
              intro e1 e2 h
              obtain ⟨d, x⟩ := p
              refine ihl _ _ ?_
              by_cases hdt : d = some t
              · rw [hdt, ups_eq, ups_eq]
              · rw [ups_ne hdt, ups_ne hdt]; exact h
          refine this ws _ _ (ED_congr h fun j hj hdj => ?_)
          cases hb : listed.getD j false with
          | true => rfl
          | false =>
            have := (conflF (hfr j hj hb).2.2.1).1 t hdj
            exact absurd htr this
        have hares : ares lo.op (wr ws (ED hd xs e (fun _ => true) h)) H = ares lo.op (wr ws (ED hd xs e (fun j => listed.getD j false) h)) H := ares_congr fun t ht => hR t (by simp [LO.rd, ht])
        -- the next state
        have go : ∀ (k' : Nat) (rm' : List Nat), rm'.Nodup → h ≤ k' → k' ≤ p1 → (∀ j, h ≤ j → j < p1 → (listed.setIfInBounds i true).getD j true = decide (j < k')) → (∀ j, p1 ≤ j → j < p2 → ((listed.setIfInBounds i true).getD j true = false ↔ j ∈ rm')) → (∀ j ∈ rm', p1 ≤ j ∧ j < p2) →
            (∀ σ : List Nat, σ.Perm rm' → aops P (lo :: ((List.range' k' (p1 - k')).map (tlAt P n hs reg ops) ++ σ.map (tlAt P n hs reg ops) ++ post)) (wr ws (ED hd xs e (fun _ => true) h)) H K) →
            wpOpIn (WR r) m0 P ops Q i (wpAnyIn (WR r) m0 P .any ops Q fuel (listed.setIfInBounds i true)) a w := by
          intro k' rm' hnd' hk' hk1' ht1' ht2' hrm' hK'
          have hK2 : ∀ σ : List Nat, σ.Perm rm' → (ares lo.op (wr ws (ED hd xs e (fun _ => true) h)) H).ok ∧ aops P ((List.range' k' (p1 - k')).map (tlAt P n hs reg ops) ++ σ.map (tlAt P n hs reg ops) ++ post) (ups (wr ws (ED hd xs e (fun _ => true) h)) lo.d (ares lo.op (wr ws (ED hd xs e (fun _ => true) h)) H).x) (ares lo.op (wr ws (ED hd xs e (fun _ => true) h)) H).H K := by
            intro σ hσ
            have := hK' σ hσ
            simp only [aops, tg] at this
            rwa [det_aop hdet] at this
          have hok := (hK2 rm' (List.Perm.refl _)).1
          have hone : aops P [lo] (wr ws (ED hd xs e (fun j => listed.getD j false) h)) H fun e' H' => e' = ups (wr ws (ED hd xs e (fun j => listed.getD j false) h)) lo.d (ares lo.op (wr ws (ED hd xs e (fun _ => true) h)) H).x ∧ H' = (ares lo.op (wr ws (ED hd xs e (fun _ => true) h)) H).H := by
            simp only [aops, tg]
            rw [det_aop hdet, ← hares]
            exact ⟨hok, rfl, rfl⟩
          have hnx := op_step (r := r) (m0 := m0) hlow hone hst (next := wpAnyIn (WR r) m0 P .any ops Q fuel (listed.setIfInBounds i true)) (Q := Q) fun e'' H'' a'' w'' hK'' hs'' => by
            obtain ⟨rfl, rfl⟩ := hK''
            have hsame : ∀ j, j < h → (listed.setIfInBounds i true).getD j false = listed.getD j false := fun j hj => by rw [set_get, if_neg (by omega)]
            have hED : ED hd xs e (fun j => (listed.setIfInBounds i true).getD j false) h = ED hd xs e (fun j => listed.getD j false) h := by
              funext t
              exact ED_congr h fun j hj _ => hsame j hj
            refine ih k' rm' (ws ++ [(lo.d, (ares lo.op (wr ws (ED hd xs e (fun _ => true) h)) H).x)]) _ a'' w'' _ hk' hk1' hcount (by simpa using hsz) ht1' ht2' (fun j g1 g2 => by rw [set_get, if_neg (by omega)]; exact ht3 j g1 g2) hrm' hnd' (hc.set hi) (fun σ hσ => by rw [wr_snoc]; exact (hK2 σ hσ).2) (fun j hj hl => ?_) (fun j hj hl t y hy => ?_) (by rw [wr_snoc, hED]; exact hs'')
            · rw [hsame j hj] at hl
              exact comm_keeps (hfr j hj hl).2.1 (hfr j hj hl).2.2.2 (fun _ => rfl) hok (hx j hj hl)
            · rw [hsame j hj] at hl
              rcases List.mem_append.1 hy with hy | hy
              · exact hw j hj hl t y hy
              · simp only [List.mem_singleton, Prod.mk.injEq] at hy
                have hcf := conflF (hfr j hj hl).2.2.1
                exact ⟨hcf.2.1 t hy.1.symm, fun hdj => hcf.2.2 t hdj hy.1.symm⟩
          unfold wpOpIn
          rw [hoi]
          simp only
          exact hnx
        by_cases hi1 : i < p1
        · have hkp : k < p1 := by
            refine Classical.byContradiction fun hge => ?_
            have := ht1 i (by omega) hi1
            rw [hiu] at this
            have := this.symm
            simp at this
            omega
          obtain rfl := hkq hkp
          refine go (i + 1) rm hnd (by omega) (by omega) (fun j g1 g2 => ?_) (fun j g1 g2 => by rw [set_get, if_neg (by omega)]; exact ht2 j g1 g2) hrm fun σ hσ => ?_
          · rw [set_get]
            by_cases hji : j = i
            · rw [if_pos ⟨hji, by omega⟩]; simp; omega
            · rw [if_neg fun hh => hji hh.1, ht1 j g1 g2]
              have : (j < i) = (j < i + 1) := by simp; omega
              simp only [this]
          · have := hK σ hσ
            rw [show p1 - i = (p1 - (i + 1)) + 1 by omega, List.range'_succ, List.map_cons, hlo] at this
            simpa using this
        · have hkp : k = p1 := by
            refine Classical.byContradiction fun hne => ?_
            have := hkq (by omega)
            omega
          subst hkp
          have him : i ∈ rm := (ht2 i (by omega) hip).1 hiu
          refine go k (rm.filter (· != i)) (hnd.filter _) hk (Nat.le_refl _) (fun j g1 g2 => by rw [set_get, if_neg (by omega)]; exact ht1 j g1 g2) (fun j g1 g2 => ?_) (fun j hj => hrm j (List.mem_filter.1 hj).1) fun σ hσ => ?_
          · rw [set_get, List.mem_filter]
            by_cases hji : j = i
            · rw [if_pos ⟨hji, by omega⟩]; simp [hji]
            · rw [if_neg fun hh => hji hh.1, ht2 j g1 g2]; simp [hji]
          · have hp : (i :: σ).Perm rm := by
              refine ((List.Perm.cons i hσ).trans ?_)
              exact perm_filter_ne him (hnd)
            have := hK (i :: σ) hp
            rw [List.map_cons, hlo] at this
            simpa using this

theorem draw_sound3 {r : Option Nat} {m0 : Nat} {hs : List Hn} {id h p1 p2 : Nat} {post : List LO} {K : Env → AHeap → Prop} {Q : Exit → Act → World → Prop} (hhd : lowHd P n hs id ops 0 (ops.toList.take h) = some hd) (hpost : lowOps P n hs id ops p2 (ops.toList.drop p2) = some post)
    (hD : drawOk3 P n hs id ops hd h p1 p2 = true) (hE : edgesOk ops = true) (q1 : h ≤ p1) (q2 : p1 ≤ p2) (q3 : p2 ≤ ops.size)
    (hK : aopsq P hd e H fun e' => ∀ σ : List LO, σ.Perm ((List.range' p1 (p2 - p1)).map (tlAt P n hs id ops)) → aops P ((List.range' h (p1 - h)).map (tlAt P n hs id ops) ++ σ ++ post) e' H K) (hst : St B X w0 ρ0 n0 n e H a w)
    (hQ : ∀ e' H' a' w', K e' H' → St B X w0 ρ0 n0 n e' H' a' w' → Q .normal a' w') : wpAnyIn (WR r) m0 P .any ops Q ops.size (Array.replicate ops.size false) a { w with drawn := w.drawn + 1 } := by
  obtain ⟨g1, g2⟩ := lowHd_get _ _ _ hhd
  have hlen : hd.length = h := by rw [g1]; simp; omega
  obtain ⟨xs, g3, g4⟩ := aopsq_chain hd hK
  rw [hlen] at g3 g4
  obtain ⟨d1, d2⟩ := drawOk3_pr hD
  have h0 : ∀ j, (Array.replicate ops.size false).getD j false = false := fun j => getD_replicate_false _ _
  have h1 : ∀ j, j < ops.size → (Array.replicate ops.size false).getD j true = false := fun j hj => by rw [← getD_ft (by simpa using hj)]; exact h0 j
  refine many_sound hE d1 d2 q1 q2 q3 hlen (fun k o hk ho => g2 k o ?_) hpost hQ ops.size h (List.range' p1 (p2 - p1)) [] H a _ _ (Nat.le_refl _) q1 ?_ (by simp) (fun j h2 hj => ?_) (fun j h2 hj => ?_) (fun j h2 hj => h1 j hj) (fun j hj => ?_) List.nodup_range' ?_ (fun σ hσ => g3 _ (hσ.map _)) (fun i hi _ => g4 i hi) (fun i _ _ t x hx => by simp at hx) ?_
  · rw [List.getElem?_take, if_pos hk]; simpa using ho
  · have := left_eq (listed := Array.replicate ops.size false) (h := 0) ops.size fun j hj => by rw [h1 j hj]; simp
    omega
  · rw [h1 j (by omega)]; simp; omega
  · rw [h1 j (by omega)]; simp [List.mem_range']; exact ⟨j - p1, by omega, by omega⟩
  · obtain ⟨i, hi, rfl⟩ := List.mem_range'.1 hj; omega
  · intro j oj hj hl
    rw [h0 j] at hl
    cases hl
  · have : ED hd xs e (fun j => (Array.replicate ops.size false).getD j false) h = e := by
      funext t
      rw [ED_skip (i := 0) h (Nat.zero_le _) fun j _ _ _ => h0 j]
      rfl
    show St B X w0 ρ0 n0 n (ED hd xs e (fun j => (Array.replicate ops.size false).getD j false) h) H a _
    rw [this]
    exact hst.still ⟨rfl, rfl, rfl, Nat.le_refl _⟩ rfl
end
end Go.Ax

/- Whole functions: what the steps say of a function's lowered form holds of every call of it. -/
namespace Go.Ax
open Go Go.RowKit
set_option linter.unusedSimpArgs false
set_option linter.unusedVariables false

section
variable {B : List Deferred} {P : Program} {w w0 : World} {X : Nat → Prop} {ρ ρ0 : Nat → Loc} {H : AHeap} {e : Env} {a : Act} {n n0 : Nat}

/-- The ways out of a piece of code. -/
def outE : Out → Exit
  | .normal => .normal
  | .exit id => .exit id
  | .ret => .ret
  | .pan v => .panic [{ v, recovered := false }]

theorem mark_ev {x : LX} {b : Bool} (h : ev e x = bool b) : markX e x b = e := by
  cases x with
  | t k => exact up_eq h
  | c _ => rfl

theorem least' {p : Nat → Prop} (h : ∃ n, p n) : ∃ n, p n ∧ ∀ m, p m → n ≤ m := by
  obtain ⟨n, hn⟩ := h
  induction n using Nat.strongRecOn with
  | _ n ih =>
    by_cases hh : ∃ m, m < n ∧ p m
    · obtain ⟨m, hm, hp⟩ := hh; exact ih m hm hp
    · exact ⟨n, hn, fun m hm => Nat.le_of_not_lt fun hlt => hh ⟨m, hlt, hm⟩⟩

open Classical in
theorem wpIn_loop_ghost {F : Fence} {m0 : Nat} {c : Code} {Q : Exit → Act → World → Prop} (I : Nat → Act → World → Prop) (k : Nat) (h0 : I k a w)
    (round : ∀ k a w, I k a w → c.wpIn F m0 P (Exit.then (fun a' w' => ∃ k', k' < k ∧ I k' a' w') Q) a w) : (Code.loop c).wpIn F m0 P Q a w := by
  refine wpIn_loop (fun a w => ∃ k, I k a w) (fun a w => if hx : ∃ k, I k a w then Classical.choose (least' hx) else 0) ⟨k, h0⟩ ?_
  intro a w hs
  obtain ⟨hI, hl⟩ := Classical.choose_spec (least' hs)
  refine wpIn_mono (round _ a w hI) fun e a' w' hh => ?_
  cases e with
  | normal =>
    obtain ⟨k', hk, hI'⟩ := hh
    refine ⟨⟨k', hI'⟩, ?_⟩
    rw [dif_pos ⟨k', hI'⟩, dif_pos hs]
    exact Nat.lt_of_le_of_lt ((Classical.choose_spec (least' ⟨k', hI'⟩)).2 _ hI') hk
  | _ => exact hh

/-- The slots of a round: those of the record, the loop's variables set. -/
theorem upL_rep {M : Nat → Prop} {N k : Nat} : ∀ (ps : List Nat) (xs : List AV) (us : List Value) {e : Env} {tmps : Array Value}, xs.length = us.length → xs.length = ps.length → tmps.size = N → (∀ p ∈ ps, p < N) →
    (∀ t, t < N → Rep w M ρ k (e t) (tmps.getD t undef)) → (∀ (i : Nat) (x : AV) (u : Value), xs[i]? = some x → us[i]? = some u → Rep w M ρ k x u) →
    ((ps.zip us).foldl (fun tmps (t, a) => tmps.setIfInBounds t a) tmps).size = N ∧ ∀ t, t < N → Rep w M ρ k (upL e ps xs t) (((ps.zip us).foldl (fun tmps (t, a) => tmps.setIfInBounds t a) tmps).getD t undef)
  | [], xs, us, e, tmps, h1, h2, h3, _, h4, _ => by
    cases xs with
    | nil => exact ⟨h3, h4⟩
    | cons x xs => simp at h2
  | p :: ps, [], us, e, tmps, h1, h2, h3, _, h4, _ => by simp at h2
  | p :: ps, x :: xs, [], e, tmps, h1, h2, h3, _, h4, _ => by simp at h1
  | p :: ps, x :: xs, u :: us, e, tmps, h1, h2, h3, hp, h4, h5 => by
    simp only [List.zip_cons_cons, List.foldl_cons, upL]
    refine upL_rep ps xs us (by simpa using h1) (by simpa using h2) (by simpa using h3) (fun q hq => hp q (by simp [hq])) (fun t ht => ?_) (fun i x u hx hu => h5 (i + 1) x u (by simpa using hx) (by simpa using hu))
    simp only [up]
    by_cases htp : t = p
    · subst htp
      rw [if_pos rfl]
      have : (tmps.setIfInBounds t u).getD t undef = u := by simp [Array.getD_eq_getD_getElem?, h3, ht]
      rw [this]
      exact h5 0 x u rfl rfl
    · rw [if_neg htp]
      have : (tmps.setIfInBounds p u).getD t undef = tmps.getD t undef := by
        simp only [Array.getD_eq_getD_getElem?]
        rw [Array.getElem?_setIfInBounds_ne (fun e => htp e.symm)]
      rw [this]
      exact h4 t ht

theorem same_put (w : World) (b : Nat) (o : Obj) : Same w (w.putObj b o) := ⟨rfl, rfl, rfl, by simp⟩

/-- The record of a range over a function is set. -/
theorem HRel.setLp (h : HRel w X ρ H) {r l : Nat} {lr : Go.Loop} {e0 : Env} {st : LpSt} (st' : LpSt) (hr : H[r]? = some (.lp l lr e0 st)) :
    ∃ ρ', HRel (w.putObj l (.loop (lpRec lr st'))) X ρ' (H.set r (.lp l lr e0 st')) ∧ Fut w ρ H.length (w.putObj l (.loop (lpRec lr st'))) ρ' (H.set r (.lp l lr e0 st')).length := by
  have hlt : r < H.length := (List.getElem?_eq_some_iff.1 hr).1
  obtain ⟨h1, h2, h3, h4⟩ := h.objs r _ hr
  have hb := (h.lt r l 0 hlt h2).1
  obtain ⟨ρ', _, g2, g3⟩ := h.setAt (w' := w.putObj l (.loop (lpRec lr st'))) hlt (ρ r) (.lp l lr e0 st') (same_put _ _ _) (.inl rfl) (fun b o hbl => .inl ⟨o, hbl⟩)
    (fun b _ hne => World.putObj_heap_other fun e => by subst e; exact hne 0 h2)
    (fun ρ' _ hf => ⟨h1, h2, World.putObj_heap_same hb, fun t u hu => (h4 t u hu).nextN hf⟩)
  exact ⟨ρ', g2, g3⟩
theorem HRel.setDead (h : HRel w X ρ H) {r l : Nat} {lr : Go.Loop} {e0 : Env} {st : LpSt} (o : Obj) (hr : H[r]? = some (.lp l lr e0 st)) :
    ∃ ρ', HRel (w.putObj l o) X ρ' (H.set r .dead) ∧ Fut w ρ H.length (w.putObj l o) ρ' (H.set r .dead).length := by
  have hlt : r < H.length := (List.getElem?_eq_some_iff.1 hr).1
  obtain ⟨h1, h2, h3, h4⟩ := h.objs r _ hr
  obtain ⟨ρ', _, g2, g3⟩ := h.setAt (w' := w.putObj l o) hlt (ρ r) .dead (same_put _ _ _) (.inl rfl) (fun b o hbl => .inl ⟨o, hbl⟩)
    (fun b _ hne => World.putObj_heap_other fun e => by subst e; exact hne 0 h2) (fun ρ' _ hf => trivial)
  exact ⟨ρ', g2, g3⟩

theorem code_sound {hs : List Hn} : ∀ (c : Code) {B : List Deferred} {X : Nat → Prop} {w0 : World} {ρ0 : Nat → Loc} {n0 : Nat} {rd : Option Nat} {m0 : Nat} {lc : LCode} {e : Env} {H : AHeap} {a : Act} {w : World} {K : Out → Env → AHeap → Prop} {Q : Exit → Act → World → Prop}, lowC P n hs c = some lc → (rd = none ∨ nr lc = true) → awp P lc e H K → St B X w0 ρ0 n0 n e H a w →
    (∀ o e' H' a' w', K o e' H' → St B X w0 ρ0 n0 n e' H' a' w' → Q (outE o) a' w') → c.wpIn (WR rd) m0 P Q a w := by
  intro c
  induction c with
  | skip =>
    intro B X w0 ρ0 n0 rd m0 lc e H a w K Q hl hrd h hst hQ
    simp only [lowC, Option.some.injEq] at hl
    subst hl
    exact wpIn_skip (hQ .normal _ _ _ _ h hst)
  | region id ops b =>
    intro B X w0 ρ0 n0 rd m0 lc e H a w K Q hl hrd h hst hQ
    cases b with
    | false =>
      simp only [lowC] at hl
      split at hl
      · exact wpIn_region_list (opsP_sound (fun e' H' a' w' hk hs' => hQ .normal _ _ _ _ hk hs') (fun v e' H' a' w' hk hs' => hQ (.pan v) _ _ _ _ hk hs') _ _ _ _ _ _ _ hl h hst)
      obtain ⟨los, h1, rfl⟩ := opt_map hl
      exact wpIn_region_list (ops_sound (fun e' H' a' w' hk hs' => hQ .normal _ _ _ _ hk hs') _ _ _ _ _ _ _ h1 h hst)
    | true =>
      simp only [lowC] at hl
      split at hl
      · rename_i p1 p2 _
        split at hl
        · rename_i hd post h1 h2
          split at hl
          · rename_i hc
            simp only [Bool.and_eq_true, decide_eq_true_eq] at hc
            obtain ⟨⟨⟨⟨⟨c1, c2⟩, c3⟩, c4⟩, c5⟩, c6⟩ := hc
            simp only [Option.some.injEq] at hl
            subst hl
            refine perm_region (hs := hs) c3 ?_
            exact draw_sound3 h1 h2 c1 c2 c4 c5 c6 h hst fun e' H' a' w' hk hs' => hQ .normal _ _ _ _ hk hs'
          · cases hl
        · cases hl
      · split at hl
        · rename_i hd tl h1 h2
          split at hl
          · rename_i hc
            simp only [Bool.and_eq_true, Bool.or_eq_true, decide_eq_true_eq] at hc
            obtain ⟨⟨⟨c1, c2⟩, c3⟩, c4⟩ := hc
            simp only [Option.some.injEq] at hl
            subst hl
            refine perm_region (hs := hs) c3 ?_
            rcases c1 with c1 | c1
            · exact draw_sound h1 h2 c1 c2 c3 c4 h hst fun e' H' a' w' hk hs' => hQ .normal _ _ _ _ hk hs'
            · exact draw_sound2 h1 h2 c1 c2 c3 c4 h hst fun e' H' a' w' hk hs' => hQ .normal _ _ _ _ hk hs'
          · cases hl
        · cases hl
  | seq x y ihx ihy =>
    intro B X w0 ρ0 n0 rd m0 lc e H a w K Q hl hrd h hst hQ
    simp only [lowC] at hl
    split at hl
    · rename_i lx ly h1 h2
      simp only [Option.some.injEq] at hl
      subst hl
      simp only [nr, Bool.and_eq_true] at hrd
      refine wpIn_seq (ihx h1 (hrd.imp id (·.1)) h hst fun o e' H' a' w' hk hs' => ?_)
      cases o with
      | normal => exact ihy h2 (hrd.imp id (·.2)) hk hs' hQ
      | exit id => exact hQ (.exit id) _ _ _ _ hk hs'
      | ret => exact hQ .ret _ _ _ _ hk hs'
      | pan v => exact hQ (.pan v) _ _ _ _ hk hs'
    · cases hl
  | cond c x y ihx ihy =>
    intro B X w0 ρ0 n0 rd m0 lc e H a w K Q hl hrd h hst hQ
    simp only [lowC] at hl
    split at hl
    · rename_i lcx lx ly h0 h1 h2
      simp only [Option.some.injEq] at hl
      subst hl
      simp only [nr, Bool.and_eq_true] at hrd
      simp only [awp] at h
      have hst' := hst
      obtain ⟨_, ρ, _, he, _⟩ := hst'
      have hr := ev_rep he h0
      split at h
      · rename_i t ht
        rw [ht] at hr
        have hv := rep_v hr
        refine wpIn_cond hv ?_
        cases t with
        | true =>
          rw [if_pos rfl, mark_ev ht] at h
          exact ihx h1 (hrd.imp id (·.1)) h hst hQ
        | false =>
          rw [if_neg (by simp), mark_ev ht] at h
          exact ihy h2 (hrd.imp id (·.2)) h hst hQ
      · exact h.elim
    · cases hl
  | block id c ih =>
    intro B X w0 ρ0 n0 rd m0 lc e H a w K Q hl hrd h hst hQ
    simp only [lowC] at hl
    obtain ⟨lb, h1, rfl⟩ := opt_map hl
    simp only [nr] at hrd
    refine wpIn_block (ih h1 hrd h hst fun o e' H' a' w' hk hs' => ?_)
    cases o with
    | normal => exact hQ .normal _ _ _ _ hk hs'
    | exit j =>
      simp only at hk
      simp only [outE, Exit.inBlock]
      split
      · rename_i hj; rw [if_pos hj] at hk; exact hQ .normal _ _ _ _ hk hs'
      · rename_i hj; rw [if_neg hj] at hk; exact hQ (.exit j) _ _ _ _ hk hs'
    | ret => exact hQ .ret _ _ _ _ hk hs'
    | pan v => exact hQ (.pan v) _ _ _ _ hk hs'
  | loop c ih =>
    intro B X w0 ρ0 n0 rd m0 lc e H a w K Q hl hrd h hst hQ
    simp only [lowC] at hl
    obtain ⟨lb, h1, rfl⟩ := opt_map hl
    simp only [nr] at hrd
    obtain ⟨I, μ, h2, h3⟩ := h
    refine wpIn_loop_ghost (fun k a w => ∃ e H, I e H ∧ μ e H = k ∧ St B X w0 ρ0 n0 n e H a w) (μ e H) ⟨e, H, h2, rfl, hst⟩ ?_
    rintro k a w ⟨e, H, hI, rfl, hst⟩
    refine ih h1 hrd (h3 e H hI) hst fun o e' H' a' w' hk hs' => ?_
    cases o with
    | normal => exact ⟨_, hk.2, e', H', hk.1, rfl, hs'⟩
    | exit id => exact hQ (.exit id) _ _ _ _ hk hs'
    | ret => exact hQ .ret _ _ _ _ hk hs'
    | pan v => exact hQ (.pan v) _ _ _ _ hk hs'
  | exit id =>
    intro B X w0 ρ0 n0 rd m0 lc e H a w K Q hl hrd h hst hQ
    simp only [lowC, Option.some.injEq] at hl
    subst hl
    exact wpIn_exit (hQ (.exit id) _ _ _ _ h hst)
  | ret =>
    intro B X w0 ρ0 n0 rd m0 lc e H a w K Q hl hrd h hst hQ
    simp only [lowC, Option.some.injEq] at hl
    subst hl
    exact wpIn_ret (hQ .ret _ _ _ _ h hst)
  | rangeFunc g ps asg bdy iha ihb =>
    intro B X w0 ρ0 n0 rd m0 lc e H a w K Q hl hrd h hst hQ
    simp only [lowC] at hl
    split at hl
    · rename_i g' la lb hg ha hb
      split at hl
      · rename_i hc
        simp only [Bool.and_eq_true, List.all_eq_true, decide_eq_true_eq] at hc
        obtain ⟨⟨nra, nrb⟩, hps⟩ := hc
        simp only [Option.some.injEq] at hl
        subst hl
        obtain rfl : rd = none := hrd.resolve_right (by simp [nr])
        simp only [awp] at h
        obtain ⟨hn, ρ, hrel, he, hf, hm⟩ := hst
        have rf := ev_rep he hg
        split at h
        · rename_i k first caps hev
          rw [hev] at rf
          generalize hfe : a.eval g = fv at rf
          cases rf with
          | fn _ _ _ _ fs us h1 h2 h3 h4 =>
            refine wpIn_rangeFunc fun fn _ => ?_
            obtain ⟨lr, hlr⟩ : ∃ lr : Go.Loop, lr = { state := .ready, pending := none, fn, tmps := a.tmps, params := ps, assign := asg, body := bdy, defers := w.heap.size } := ⟨_, rfl⟩
            have hlr0 : (lr.state = .ready ∧ lr.pending = none) ∧ (lr.tmps = a.tmps ∧ lr.params = ps) ∧ lr.assign = asg ∧ lr.body = bdy := by subst hlr; exact ⟨⟨rfl, rfl⟩, ⟨rfl, rfl⟩, rfl, rfl⟩
            obtain ⟨⟨l1, l2⟩, ⟨l3, l4⟩, l5, l6⟩ := hlr0
            have hlb : ∀ st o, lpRec { lpRec lr st with state := .done, pending := some (lpJump o) } .ready = lpRec lr (.done o) := by intro st o; cases st <;> rfl
            obtain ⟨w1, hw1⟩ : ∃ w1, (w.alloc (.deferred (some []))).alloc (.loop lr) = w1 := ⟨_, rfl⟩
            -- the two blocks are laid
            obtain ⟨a1, a2⟩ := hrel.more (Same.alloc w (.deferred (some []))) (heap_old w _)
            obtain ⟨ρ1, p1, p2, p3⟩ := a1.push (w' := w1) { blk := some (w.heap.size + 1, 0) } (.lp (w.heap.size + 1) lr e .ready) (by rw [← hw1]; exact Same.alloc _ _) (fun b o hbl => by simp at hbl; obtain ⟨rfl, _⟩ := hbl; rw [← hw1]; simp) (by rw [← hw1]; exact heap_old _ _)
              (fun ρ' hf' hl' => ⟨rfl, rfl, by rw [← hw1]; have := World.alloc_heap_new (w.alloc (.deferred (some []))) (.loop lr); rwa [World.size_alloc] at this, fun t u hu => by
                rw [l3] at hu
                have htl : t < n := by rw [← hn]; exact (Array.getElem?_eq_some_iff.1 hu).1
                have := he t htl
                rw [show a.tmps.getD t undef = u by simp [Array.getD_eq_getD_getElem?, hu]] at this
                exact (this.nextN a2).nextN hf'⟩)
            have hfw := a2.trans p3
            have hD1 : w1.heap[w.heap.size]? = some (.deferred (some [])) := by rw [← hw1]; exact (Below.heap_alloc _ _ _ (by simp)).trans (World.alloc_heap_new w _)
            have hDs : w.heap.size < w1.heap.size := by rw [← hw1]; simp; omega
            have hDo : ¬ Own ρ1 (H ++ [HO.lp (w.heap.size + 1) lr e .ready]).length w.heap.size := by
              rintro ⟨r, o, hr, hbl⟩
              by_cases hrl : r = H.length
              · subst hrl; rw [p1] at hbl; simp at hbl
              · have hr' : r < H.length := by simp at hr; omega
                rcases p3.loc r hr' with h' | h'
                · rw [h'] at hbl
                  have := (hrel.lt r _ _ hr' hbl).1
                  omega
                · have h9 : ∃ b o, (ρ1 r).blk = some (b, o) := ⟨_, _, hbl⟩
                  have := p2.lt r _ _ hr hbl
                  rcases p3.own _ ⟨r, o, hr, hbl⟩ with ⟨r', o', hr2, hbl2⟩ | h'
                  · have := (hrel.lt r' _ _ hr2 hbl2).1; omega
                  · rw [World.size_alloc] at h'; omega
            have hmk : Mk B w0 w1 ρ1 (H ++ [HO.lp (w.heap.size + 1) lr e .ready]).length (mark w.heap.size :: a.defers) := by
              obtain ⟨ds, d1, d2, d3⟩ := hm.fut hfw
              obtain ⟨ds', d1', d2', d3'⟩ := hm
              have hdd : ds = ds' := by
                rw [d1] at d1'
                replace d1' := List.append_cancel_right d1'
                clear d2 d3 d2' d3' d1
                induction ds generalizing ds' with
                | nil => cases ds' with
                  | nil => rfl
                  | cons _ _ => simp at d1'
                | cons D ds ih => cases ds' with
                  | nil => simp at d1'
                  | cons D' ds' => simp [mark] at d1'; rw [d1'.1, ih ds' (by simpa [mark] using d1'.2)]
              subst hdd
              refine ⟨w.heap.size :: ds, by rw [List.map_cons, List.cons_append, d1], List.nodup_cons.2 ⟨fun hin => ?_, d2⟩, fun D hD => ?_⟩
              · have := (d3' _ hin).2.1; omega
              · rcases List.mem_cons.1 hD with rfl | hD
                · exact ⟨hf.size, hDs, hDo, hD1⟩
                · exact d3 D hD
            -- the rounds
            have hY : ∀ (args : List AV) (H1 : AHeap) (r : Nat) (R : AV → AHeap → Prop), args.length = ps.toList.length → H1[r]? = some (.lp (w.heap.size + 1) lr e .ready) →
                (awp P la (upL e ps.toList args) H1 fun o e1 H2 => match o with
                  | .normal => H2[r]? = some (.lp (w.heap.size + 1) lr e .ready) ∧ awp P lb e1 (H2.set r (.lp (w.heap.size + 1) lr e .busy)) (rndQ (w.heap.size + 1) lr e r R)
                  | _ => False) → AYield P (w.heap.size + 1) args H1 R := by
              intro args H1 r R hal hr1 hrun X' ρ' w' vs hrel' hargs'
              obtain ⟨_, _, q3, q4⟩ := hrel'.objs r _ hr1
              have q3' : w'.heap[w.heap.size + 1]? = some (.loop lr) := q3
              refine ⟨lr.fn, _, lr.assign, lr.body, run_yield q3' (by rw [← hargs'.1, hal, l4]; simp), roundIn_of_wpIn trivial ?_⟩
              rw [l5, l6, l3, l4, ← Array.foldl_toList, Array.toList_zip]
              obtain ⟨u1, u2⟩ := upL_rep (w := w') (M := Mut X' ρ' H1.length) (ρ := ρ') (k := H1.length) (N := n) (e := e) (tmps := a.tmps) ps.toList args vs.toList (by simpa using hargs'.1) hal hn (fun p hp => hps p hp)
                (fun t ht => q4 t _ (by rw [l3]; simp [Array.getD_eq_getD_getElem?, hn, ht])) (fun i x u hx hu => hargs'.2 i x u hx (by simpa using hu))
              refine iha (B := []) (X := X') (w0 := w') (ρ0 := ρ') (n0 := H1.length) (rd := some (w.heap.size + 1)) ha (.inr nra) hrun ⟨u1, ρ', hrel', u2, Fut.refl _ _ _, Mk.nil⟩ ?_
              intro o e1 H2 a1 w1' hk hs1
              cases o with
              | normal =>
                obtain ⟨hr2, hk2⟩ := hk
                obtain ⟨s1, ρ2, s2, s3, s4, s5⟩ := hs1
                have q5 : w1'.heap[w.heap.size + 1]? = some (.loop lr) := (s2.objs r _ hr2).2.2.1
                obtain ⟨ρ3, t2, t3⟩ := s2.setLp .busy hr2
                refine ⟨_, run_beginRound q5 l1, ihb (B := []) (X := X') (w0 := w') (ρ0 := ρ') (n0 := H1.length) (rd := some (w.heap.size + 1)) hb (.inr nrb) hk2 ⟨s1, ρ3, t2, fun t ht => (s3 t ht).nextN t3, s4.trans t3, s5.fut t3⟩ ?_⟩
                intro o e2 H3 a2 w2' hk3 hs3
                obtain ⟨hr3, hR⟩ := hk3
                obtain ⟨_, ρ4, v2, _, v4, _⟩ := hs3
                have q6 : w2'.heap[w.heap.size + 1]? = some (.loop (lpRec lr .busy)) := (v2.objs r _ hr3).2.2.1
                cases o with
                | normal =>
                  obtain ⟨ρ5, x2, x3⟩ := v2.setLp .ready hr3
                  have hrec : ({ lpRec lr .busy with state := if (none : Option Code).isNone then LoopState.ready else .done, pending := none } : Go.Loop) = lpRec lr .ready := by
                    cases lr; simp only at l1 l2; subst l1; subst l2; rfl
                  refine ⟨_, _, run_endRound none q6, ?_⟩
                  rw [hrec]
                  exact ⟨_, bool true, _, ρ5, rfl, hR, x2, .v _ _, v4.trans x3⟩
                | exit id =>
                  obtain ⟨ρ5, x2, x3⟩ := v2.setLp (.done (some id)) hr3
                  exact ⟨_, _, run_endRound (some (.exit id)) q6, _, bool false, _, ρ5, rfl, hR, x2, .v _ _, v4.trans x3⟩
                | ret =>
                  obtain ⟨ρ5, x2, x3⟩ := v2.setLp (.done none) hr3
                  exact ⟨_, _, run_endRound (some .ret) q6, _, bool false, _, ρ5, rfl, hR, x2, .v _ _, v4.trans x3⟩
                | pan v => exact hR.elim
              | exit id => exact hk.elim
              | ret => exact hk.elim
              | pan v => exact hk.elim
            obtain ⟨⟨fn', hfn, hbody, hname⟩, hcall⟩ := h (w.heap.size + 1) lr hY
            refine ⟨w.heap.size + 1, [mark w.heap.size], w1, { target := .fn (.func k) us, args := fs ++ #[.func (.yield (w.heap.size + 1)) #[] #[]] }, w1, k, fs ++ #[.func (.yield (w.heap.size + 1)) #[] #[]] ++ us, w1, ?_, ?_, ?_, ?_, wr_depth, ?_⟩
            · rw [← hw1, hlr]; exact run_enterLoop_outer _ _ _ _ _
            · simp only [resolve, hfe, Deferred.ofValue, Sem.run_bind, Sem.run_pure, Result.andThen_ok]
              simp [Act.eval]
            · intro f' _; trivial
            · simp only [Sem.run_bind, Sem.run_pure, Result.andThen_ok, invoke, callFunc, run_program, hfn, hname, Bool.false_eq_true, if_false, hbody]
            · refine callsIn_wr ((hcall X ρ1 w1 _ p2 ⟨by simp [h1, h2]; omega, ?_⟩).mono ?_)
              · intro i x u hx hu
                rw [List.append_assoc, List.getElem?_append] at hx
                rw [Array.append_assoc, Array.getElem?_append] at hu
                by_cases hi : i < first.length
                · rw [if_pos hi] at hx
                  rw [if_pos (by omega)] at hu
                  exact (h3 i x u hx hu).nextN hfw
                · rw [if_neg hi, List.getElem?_append] at hx
                  rw [if_neg (by omega), Array.getElem?_append] at hu
                  by_cases hj : i - first.length < 1
                  · rw [if_pos (by simpa using hj)] at hx
                    rw [if_pos (by simp; omega)] at hu
                    have e1 : i - first.length = 0 := by omega
                    have e2 : i - fs.size = 0 := by omega
                    rw [e1] at hx
                    rw [e2] at hu
                    simp at hx hu
                    subst hx; subst hu
                    exact .v _ _
                  · rw [if_neg (by simpa using hj)] at hx
                    rw [if_neg (by simp; omega)] at hu
                    simp only [List.length_cons, List.length_nil, List.size_toArray] at hx hu
                    exact (h4 (i - first.length - 1) x u hx (by rw [← h1] at hu; exact hu)).nextN hfw
              · rintro en w3 ⟨v, x, H', ρ', rfl, ⟨st, hst1, hout⟩, g1, g2, g3⟩
                have q7 : w3.heap[w.heap.size + 1]? = some (.loop (lpRec lr st)) := (g1.objs _ _ hst1).2.2.1
                obtain ⟨ρ4, g4, g5⟩ := g1.setDead (.loop { lpRec lr st with state := .exhausted }) hst1
                have hfut := hfw.trans (g3.trans g5)
                have hSt : St B X w0 ρ0 n0 n e (H'.set H.length .dead) { a with defers := [mark w.heap.size] ++ a.defers } (w3.putObj (w.heap.size + 1) (.loop { lpRec lr st with state := .exhausted })) :=
                  ⟨hn, ρ4, g4, fun t ht => (he t ht).nextN hfut, hf.trans hfut, hmk.fut (g3.trans g5)⟩
                cases st with
                | ready => exact ⟨_, _, run_endLoop q7 (by show lr.state ≠ _; rw [l1]; simp), by show (match lr.pending with | none => _ | some c => _); rw [l2]; exact hQ .normal _ _ _ _ hout hSt⟩
                | busy => exact hout.elim
                | done o =>
                  cases o with
                  | none => exact ⟨_, _, run_endLoop q7 (by simp [lpRec]), wpIn_ret (hQ .ret _ _ _ _ hout hSt)⟩
                  | some id => exact ⟨_, _, run_endLoop q7 (by simp [lpRec]), wpIn_exit (hQ (.exit id) _ _ _ _ hout hSt)⟩
        · exact h.elim
      · cases hl
    · cases hl
  | _ => intro B X w0 ρ0 n0 rd m0 lc e H a w K Q hl; simp [lowC] at hl

theorem envOf_get : ∀ (l : List AV) (i t : Nat), envOf l i t = if i ≤ t then (l[t - i]?).getD .any else .any
  | [], i, t => by simp [envOf, e0]
  | x :: l, i, t => by
    simp only [envOf, up]
    by_cases h : t = i
    · subst h; simp
    · rw [if_neg h, envOf_get l (i + 1) t]
      by_cases h2 : i ≤ t
      · rw [if_pos (by omega), if_pos h2, show t - i = t - (i + 1) + 1 by omega]
        simp
      · rw [if_neg (by omega), if_neg h2]

/-- The run comes to what the result says, and the world stands still. -/
def Still (P : Program) (s : Sem Value) (w : World) (X : Nat → Prop) (ρ : Nat → Loc) (H : AHeap) (r : Res) : Prop :=
  r.ok → r.H = H ∧ ∃ u, s.run P w = .ok u w ∧ Rep w (Mut X ρ H.length) ρ H.length r.x u
theorem still_pure {s : Sem Value} {p : Prop} {x : AV} (f : p → ∃ u, s.run P w = .ok u w ∧ Rep w (Mut X ρ H.length) ρ H.length x u) : Still P s w X ρ H ⟨p, x, H⟩ := fun hp => ⟨rfl, f hp⟩
theorem still_also {s : Sem Value} {p : Prop} {r : Res} (f : p → Still P s w X ρ H r) : Still P s w X ρ H (r.also p) := fun ⟨hp, hr⟩ => f hp hr

theorem res_load {t : TypeId} {ag : Bool} {n : Nat} (hag : tyAg P t = some ag) (hsz : tySz P t = some n) (h : HRel w X ρ H) {p : AV} {u : Value} (hp : Rep w (Mut X ρ H.length) ρ H.length p u) :
    Still P (do loadVar t (← asAddr u)) w X ρ H (rLoad ag n p H) := by
  have at_ : ∀ a : Addr, (do loadVar t (← asAddr (.pointer (some a)))) = loadVar t a := fun a => rfl
  cases p with
  | vp cs off =>
    simp only [rLoad]
    refine still_pure fun ⟨h1, h2⟩ => ?_
    cases hp with
    | vp _ _ _ b o c hm hb hcell hrep =>
      rw [at_]
      refine loadVar_ok hag hsz (cs := cs.drop off) (by simp; omega) h2 (fun j => c (off + j)) (fun j hj => ?_) (fun j y hj hy => ?_)
      · have hlt : off + j < cs.length := by omega
        have := hcell (off + j) cs[off + j] (by simp [hlt])
        rw [Nat.add_assoc]
        exact this.1
      · rw [List.getElem?_drop] at hy
        exact (hrep _ _ hy).mono (Nat.zero_le _)
  | ptr r ver off =>
    simp only [rLoad]
    refine still_also fun ⟨hb, hv⟩ => ?_
    obtain ⟨cs, ho⟩ := isBox_some hb
    rw [ho] at hv ⊢
    simp only [isVer] at hv
    simp only [rLoadO]
    refine still_pure fun ⟨h1, h2⟩ => ?_
    obtain ⟨hr, b, c, e, fr, hblk, rfl, hh, hl, hfr, _, hrep⟩ := ptr_box h hp ho hv
    rw [at_]
    refine loadVar_ok hag hsz (cs := cs.drop off) (by simp; omega) h2 (fun j => c.getD (off + j) undef) (fun j hj => ?_) (fun j y hj hy => ?_)
    · rw [cell_of_blk hh]
      have hlt : off + j < c.size := by omega
      simp [hlt]
    · rw [List.getElem?_drop] at hy
      have hlt : off + j < c.size := by omega
      exact (hrep _ _ _ hy (by simp [hlt])).1
  | pe r ver i off =>
    simp only [rLoad]
    refine still_also fun ⟨hb, hv⟩ => ?_
    obtain ⟨v, sz, xs, ho⟩ := isArr_some hb
    rw [ho] at hv ⊢
    simp only [isVer] at hv
    simp only [rLoadO]
    refine still_pure fun ⟨h0, h1, h2⟩ => ?_
    obtain ⟨hr, b, o, c, e, fr, hblk, rfl, hh, hext, hfr, hle, hrow, hsz0, _, _, hrep⟩ := pe_arr h hp ho hv h0
    rw [at_]
    have hx : xs[i]? = some (xs.getD i []) := by simp [h0]
    have hxl : (xs.getD i []).length = sz := hrow _ (List.mem_of_getElem? hx)
    have hlt : ∀ j, j < n → o + i * sz + (off + j) < c.size := fun j hj => by
      have := mul_lt_of (sz := sz) (j := off + j) h0 (by omega)
      omega
    refine loadVar_ok hag hsz (cs := (xs.getD i []).drop off) (by simp only [List.length_drop]; omega) h2 (fun j => c.getD (o + i * sz + (off + j)) undef) (fun j hj => ?_) (fun j y hj hy => ?_)
    · rw [cell_of_blk hh]
      have := hlt j hj
      rw [show o + (i * sz + off) + j = o + i * sz + (off + j) by omega]
      simp [this]
    · rw [List.getElem?_drop] at hy
      exact (hrep i (off + j) _ _ _ hx hy (by simp [hlt j hj])).1.mono (Nat.zero_le _)
  | _ => exact fun h => h.elim

def resS (tmps : Array Value) : ResultVar → Sem Value
  | .tmp t => pure (tmps.getD t undef)
  | .cell a t => do loadVar t (← asAddr (tmps.getD a undef))

theorem res_each (h : HRel w X ρ H) (he : ER w X ρ H n e a) : ∀ (l : List ResultVar) (rs : List RV), lowRs P n l = some rs → (∀ r ∈ rs, (resV e H r).ok) →
    ∃ us : List Value, (l.mapM (resS a.tmps)).run P w = .ok us w ∧ us.length = rs.length ∧ (∀ r ∈ rs, (resV e H r).H = H) ∧ ∀ (i : Nat) (r : RV) (u : Value), rs[i]? = some r → us[i]? = some u → Rep w (Mut X ρ H.length) ρ H.length (resV e H r).x u
  | [], rs, hl, _ => by
    simp only [lowRs, Option.some.injEq] at hl
    subst hl
    exact ⟨[], by simp, rfl, by simp, by simp⟩
  | .tmp t :: l, rs, hl, hok => by
    simp only [lowRs] at hl
    split at hl
    · rename_i m hm
      split at hl
      · rename_i ht
        simp only [Option.some.injEq] at hl
        subst hl
        obtain ⟨us, h1, h2, h3, h4⟩ := res_each h he l m hm fun r hr => hok r (by simp [hr])
        refine ⟨a.tmps.getD t undef :: us, by simp [resS, h1], by simp [h2], ?_, ?_⟩
        · intro r hr
          simp only [List.mem_cons] at hr
          rcases hr with rfl | hr
          · rfl
          · exact h3 r hr
        · intro i r u hr hu
          cases i with
          | zero => simp only [List.getElem?_cons_zero, Option.some.injEq] at hr hu; subst hr; subst hu; exact he t ht
          | succ i => exact h4 i r u (by simpa using hr) (by simpa using hu)
      · cases hl
    · cases hl
  | .cell t ty :: l, rs, hl, hok => by
    simp only [lowRs] at hl
    split at hl
    · rename_i m ag sz hm hag hsz
      split at hl
      · rename_i ht
        simp only [Option.some.injEq] at hl
        subst hl
        obtain ⟨us, h1, h2, h3, h4⟩ := res_each h he l m hm fun r hr => hok r (by simp [hr])
        obtain ⟨g0, u0, g1, g2⟩ := res_load hag hsz h (he t ht) (hok (.cell t ag sz) (by simp))
        refine ⟨u0 :: us, ?_, by simp [h2], ?_, ?_⟩
        · have g1' : (resS a.tmps (.cell t ty)).run P w = .ok u0 w := g1
          simp only [List.mapM_cons, Sem.run_bind]
          rw [g1']
          simp [h1]
        · intro r hr
          simp only [List.mem_cons] at hr
          rcases hr with rfl | hr
          · exact g0
          · exact h3 r hr
        · intro i r u hr hu
          cases i with
          | zero => simp only [List.getElem?_cons_zero, Option.some.injEq] at hr hu; subst hr; subst hu; exact g2
          | succ i => exact h4 i r u (by simpa using hr) (by simpa using hu)
      · cases hl
    · cases hl

theorem results_ok {fn : Func} {rs : List RV} (hl : lowRs P n fn.results.toList = some rs) (h : HRel w X ρ H) (he : ER w X ρ H n e a) (hok : (resVs e H rs).ok) :
    (resVs e H rs).H = H ∧ ∃ v, (results fn a.tmps).run P w = .ok v w ∧ Rep w (Mut X ρ H.length) ρ H.length (resVs e H rs).x v := by
  have hall : ∀ r ∈ rs, (resV e H r).ok := by
    unfold resVs at hok
    split at hok
    · intro r hr; simp at hr; subst hr; exact hok
    · exact hok
  obtain ⟨us, h1, h2, h3, h4⟩ := res_each h he _ _ hl hall
  have hrun : (results fn a.tmps).run P w = .ok (if hh : us.toArray.size = 1 then us.toArray[0] else .tuple us.toArray) w := by
    unfold results
    rw [Array.mapM_eq_mapM_toList]
    simp only [Sem.run_bind]
    have h5 : (List.toArray <$> fn.results.toList.mapM (resS a.tmps)).run P w = .ok us.toArray w := by
      rw [map_eq_pure_bind]
      simp [h1]
    change ((Sem.run P (List.toArray <$> fn.results.toList.mapM (resS a.tmps)) w).andThen _) = _
    rw [h5]
    simp
  rw [hrun]
  match rs, h2, h3, h4 with
  | [r], h2, h3, h4 =>
    match us, h2, h4 with
    | [u], _, h4 => exact ⟨h3 r (by simp), u, rfl, h4 0 r u rfl rfl⟩
  | [], h2, h3, h4 =>
    match us, h2 with
    | [], _ => exact ⟨rfl, _, by simp; rfl, .tup _ _ _ rfl (by simp)⟩
  | r :: r' :: rs, h2, h3, h4 =>
    refine ⟨rfl, _, rfl, ?_⟩
    rw [dif_neg (by simp [h2])]
    refine .tup _ _ _ (by simp [h2]) fun i x u hx hu => ?_
    rw [List.getElem?_map] at hx
    cases hr : (r :: r' :: rs)[i]? with
    | none => rw [hr] at hx; cases hx
    | some r0 =>
      rw [hr] at hx
      simp at hx
      subst hx
      exact h4 i r0 u hr (by simpa using hu)

/-- A block of deferred calls is shut: what stands for values goes on standing. -/
theorem cell_poke {D : Nat} {o : Option (List Deferred)} {o' : Obj} (hD : w.heap[D]? = some (.deferred o)) {x : Addr} {u : Value} (h : w.cell? x = some u) : (w.putObj D o').cell? x = some u := by
  by_cases hb : x.block = D
  · exfalso
    obtain ⟨b, i, sp⟩ := x
    simp only at hb
    subst hb
    simp [World.cell?, hD] at h
  · obtain ⟨b, i, sp⟩ := x
    rw [← h]
    unfold World.cell?
    rw [World.putObj_heap_other hb]
theorem Rep.poke {D : Nat} {o : Option (List Deferred)} {o' : Obj} (hD : w.heap[D]? = some (.deferred o)) {M : Nat → Prop} {k : Nat} {x : AV} {u : Value} (h : Rep w M ρ k x u) : Rep (w.putObj D o') M ρ k x u := by
  induction h with
  | any => exact .any _ _
  | v => exact .v _ _
  | agg n cs us hl _ ih => exact .agg _ _ _ hl ih
  | tup n cs us hl _ ih => exact .tup _ _ _ hl ih
  | nc => exact .nc _ _
  | bnil => exact .bnil _ _
  | slE => exact .slE _ _ _ _
  | slN n sz xs b o cap c hm hb hcap hsz hcell _ ih => exact .slN _ _ _ _ _ _ c hm (by simpa using hb) hcap hsz (fun i j x y hx hy => ⟨cell_poke hD (hcell i j x y hx hy).1, (hcell i j x y hx hy).2⟩) ih
  | vp n cs off b o c hm hb hcell _ ih => exact .vp _ _ _ _ _ c hm (by simpa using hb) (fun j y hy => ⟨cell_poke hD (hcell j y hy).1, (hcell j y hy).2⟩) ih
  | fn n f first caps fs us h1 h2 _ _ ih1 ih2 => exact .fn _ _ _ _ _ _ h1 h2 ih1 ih2
  | mp n ks vs b es clock hm hb hh hks hvs _ ih => exact .mp _ _ _ _ es clock hm (by simpa using hb) (by rw [World.putObj_heap_other (fun e => by subst e; rw [hD] at hh; cases hh)]; exact hh) hks hvs ih
  | os n r ver off len u hr hle h1 hp => exact .os _ _ _ _ _ _ hr hle h1 hp
  | ptr n r ver off u hr hle h1 hp => exact .ptr _ _ _ _ _ hr hle h1 hp
  | pe n r ver i off u hr hle h1 hp => exact .pe _ _ _ _ _ _ hr hle h1 hp
  | om n r ver u hr hle h1 hp => exact .om _ _ _ _ hr hle h1 hp
theorem ObjOk.poke {D : Nat} {o0 : Option (List Deferred)} {o' : Obj} (hD : w.heap[D]? = some (.deferred o0)) {M : Nat → Prop} {k : Nat} {l : Loc} {o : HO} (h : ObjOk w M ρ k l o) : ObjOk (w.putObj D o') M ρ k l o := by
  have hk : ∀ b ob, w.heap[b]? = some ob → (∀ d, ob ≠ Obj.deferred d) → (w.putObj D o').heap[b]? = some ob := fun b ob hb hne => by
    rw [World.putObj_heap_other (fun e => by subst e; rw [hD] at hb; cases hb; exact hne _ rfl)]; exact hb
  cases o with
  | dead => trivial
  | box cs =>
    obtain ⟨h1, b, c, e, fr, h2, h3, h4, h5, h6⟩ := h
    exact ⟨h1, b, c, e, fr, h2, hk _ _ h3 (by simp), h4, h5, fun j y u hy hu => ⟨(h6 j y u hy hu).1.poke hD, (h6 j y u hy hu).2⟩⟩
  | arr ver sz xs =>
    obtain ⟨h1, h2, h3, h4, h5, h6⟩ := h
    refine ⟨h1, h2, h3, h4, h5, ?_⟩
    split
    · rename_i hl; rw [hl] at h6; exact h6
    · rename_i b o hl
      rw [hl] at h6
      obtain ⟨c, e, fr, g1, g2, g3, g4⟩ := h6
      exact ⟨c, e, fr, hk _ _ g1 (by simp), g2, g3, fun i j x y u hx hy hu => ⟨(g4 i j x y u hx hy hu).1.poke hD, (g4 i j x y u hx hy hu).2⟩⟩
  | map ver ks vs =>
    obtain ⟨h1, b, es, clock, h2, h3, h4, h5, h6⟩ := h
    exact ⟨h1, b, es, clock, h2, hk _ _ h3 (by simp), h4, h5, fun i x e hx he => (h6 i x e hx he).poke hD⟩
  | iter s pos =>
    obtain ⟨h1, b, h2, h3⟩ := h
    exact ⟨h1, b, h2, hk _ _ h3 (by simp)⟩
  | lp b lr e st =>
    obtain ⟨h1, h2, h3, h4⟩ := h
    exact ⟨h1, h2, hk _ _ h3 (by simp), fun t u hu => (h4 t u hu).poke hD⟩
  | barr t ver bl =>
    obtain ⟨h1, h2, h3, h4⟩ := h
    refine ⟨h1, h2, h3, ?_⟩
    split
    · rename_i hl; rw [hl] at h4; exact h4
    · rename_i b o hl
      rw [hl] at h4
      obtain ⟨c, fr, g1, g2, g3, g4⟩ := h4
      exact ⟨c, fr, hk _ _ g1 (by simp), g2, g3, g4⟩
theorem HRel.poke {D : Nat} {o0 : Option (List Deferred)} {o' : Obj} (hD : w.heap[D]? = some (.deferred o0)) (h : HRel w X ρ H) : HRel (w.putObj D o') X ρ H :=
  ⟨fun r o hr => (h.objs r o hr).poke hD, h.inj, fun r b o hr hb => by simpa using h.lt r b o hr hb, fun b hb => by simpa using h.xlt b hb, fun g hg => ⟨(h.gl g hg).1, by obtain ⟨m, hm⟩ := (h.gl g hg).2; exact ⟨m, cell_poke hD hm⟩⟩⟩
theorem Fut.poke {D : Nat} {o' : Obj} (h : Fut w0 ρ0 n0 w ρ n) (hD : w0.heap.size ≤ D) : Fut w0 ρ0 n0 (w.putObj D o') ρ n :=
  ⟨h.os, h.tape, h.output, by simpa using h.size, fun b hb ho => by rw [World.putObj_heap_other (by omega)]; exact h.keep b hb ho, h.own, h.len, h.loc⟩

def pokes : List Nat → World → World
  | [], w => w
  | D :: ds, w => pokes ds (w.putObj D (.deferred none))
theorem leaves_marks {fn : Func} {tmps : Array Value} {R : Ending → World → Prop} {u : FrameMode} (hu : u ≠ .run) {B : List Deferred} : ∀ (ds : List Nat) (w : World), ds.Nodup → (∀ D ∈ ds, w.heap[D]? = some (.deferred (some []))) → LeavesInM Fence.wide 0 P fn tmps R B u (pokes ds w) →
    LeavesInM Fence.wide 0 P fn tmps R (ds.map mark ++ B) u w
  | [], w, _, _, h => h
  | D :: ds, w, hn, hd, h => by
    obtain ⟨n1, n2⟩ := List.nodup_cons.1 hn
    refine ⟨hu, .inl ⟨D, _, rfl, run_takeDeferred (hd D (by simp)), leaves_marks hu ds _ n2 (fun D' hD' => ?_) h⟩⟩
    rw [World.putObj_heap_other (fun e => by subst e; exact n1 hD')]
    exact hd D' (by simp [hD'])
theorem pokes_ok : ∀ (ds : List Nat) {w : World}, ds.Nodup → (∀ D ∈ ds, w0.heap.size ≤ D ∧ w.heap[D]? = some (.deferred (some []))) → HRel w X ρ H → ER w X ρ H n e a → Fut w0 ρ0 n0 w ρ H.length →
    HRel (pokes ds w) X ρ H ∧ ER (pokes ds w) X ρ H n e a ∧ Fut w0 ρ0 n0 (pokes ds w) ρ H.length
  | [], w, _, _, h1, h2, h3 => ⟨h1, h2, h3⟩
  | D :: ds, w, hn, hd, h1, h2, h3 => by
    obtain ⟨n1, n2⟩ := List.nodup_cons.1 hn
    have hD := hd D (by simp)
    refine pokes_ok ds n2 (fun D' hD' => ⟨(hd D' (by simp [hD'])).1, ?_⟩) (h1.poke hD.2) (fun t ht => (h2 t ht).poke hD.2) (h3.poke hD.1)
    rw [World.putObj_heap_other (fun e => by subst e; exact n1 hD')]
    exact (hd D' (by simp [hD'])).2

/-- What a run of the lowered form says holds of every call. -/
theorem enterX {k : FuncId} {fn : Func} {hs : List Hn} {L : LFn} {args : List AV} {R : AV → AHeap → Prop} {Z : Value → AHeap → Prop} (hf : P.funcs[k]? = some fn) (hl : lowFn P fn hs = some L) (ha : args.length ≤ L.n)
    (h : runK P [.code L.body] (retQX L.res R Z) .normal (envOf args 0) H) : ACallX P k args H R Z := by
  unfold lowFn at hl
  cases hb : fn.body with
  | none => simp [hb] at hl
  | some c =>
    cases hr : lowRs P fn.ntmps fn.results.toList with
    | none => simp [hb, hr] at hl
    | some rs =>
      simp only [hb, hr] at hl
      split at hl
      · rename_i b hc
        split at hl
        · rename_i hcond
          simp only [Option.some.injEq] at hl
          subst hl
          refine ⟨⟨fn, hf, by simp [hb], hcond.2⟩, fun X ρ w vs hrel hargs => (callsIn_wide (n := 0)).1 (callsIn_of_wp_marks hf hb trivial ?_)⟩
          have hvs : vs.size ≤ fn.ntmps := by rw [← hargs.1]; exact ha
          refine code_sound (B := []) (X := X) (w0 := w) (ρ0 := ρ) (n0 := H.length) (rd := none) (m0 := 0) (H := H) (e := envOf args 0) c hc (.inl rfl) h ⟨by simp; omega, ρ, hrel, fun t ht => ?_, Fut.refl _ _ _, Mk.nil⟩ ?_
          · rw [envOf_get, if_pos (Nat.zero_le _), Nat.sub_zero]
            by_cases htl : t < vs.size
            · have hx : args[t]? = some (args[t]'(by rw [hargs.1]; exact htl)) := by simp
              rw [hx, Option.getD_some]
              refine hargs.2 t _ _ hx ?_
              simp [Array.getD_eq_getD_getElem?, Array.getElem?_append, htl]
            · rw [List.getElem?_eq_none (by rw [hargs.1]; omega)]
              exact .any _ _
          · intro o e' H' a' w' hk hst
            obtain ⟨hn, ρ', g1, g2, g3, ds, d1, d2, d3⟩ := hst
            obtain ⟨f1, f2, f3⟩ := pokes_ok ds d2 (fun D hD => ⟨(d3 D hD).1, (d3 D hD).2.2.2⟩) g1 g2 g3
            have fin : (resVs e' H' rs).ok ∧ R (resVs e' H' rs).x H' → LeavesInM Fence.wide 0 P fn a'.tmps (fun en w' => (∃ v x H' ρ', en = .returned v ∧ R x H' ∧ HRel w' X ρ' H' ∧ Rep w' (Mut X ρ' H'.length) ρ' H'.length x v ∧ Fut w ρ H.length w' ρ' H'.length) ∨
                ∃ z H' ρ', en = .panicked [{ v := z, recovered := false }] ∧ Z z H' ∧ HRel w' X ρ' H' ∧ Fut w ρ H.length w' ρ' H'.length) a'.defers .returning w' := by
              rintro ⟨k1, k2⟩
              obtain ⟨_, v, k3, k4⟩ := results_ok hr f1 f2 k1
              rw [d1]
              exact leaves_marks (by simp) ds w' d2 (fun D hD => (d3 D hD).2.2.2) ⟨v, k3, .inl ⟨v, _, H', ρ', rfl, k2, f1, k4, f3⟩⟩
            cases o with
            | normal => exact fin hk
            | exit id => exact hk.elim
            | ret => exact fin hk
            | pan z =>
              show LeavesInM Fence.wide 0 P fn a'.tmps _ a'.defers (.panicking [{ v := z, recovered := false }]) w'
              rw [d1]
              exact leaves_marks (by simp) ds w' d2 (fun D hD => (d3 D hD).2.2.2) (.inr ⟨z, H', ρ', rfl, hk, f1, f3⟩)
        · cases hl
      · cases hl
theorem enter {k : FuncId} {fn : Func} {hs : List Hn} {L : LFn} {args : List AV} {R : AV → AHeap → Prop} (hf : P.funcs[k]? = some fn) (hl : lowFn P fn hs = some L) (ha : args.length ≤ L.n)
    (h : runK P [.code L.body] (retQ L.res R) .normal (envOf args 0) H) : ACall P k args H R :=
  (enterX hf hl ha (by
    have : retQ L.res R = retQX L.res R fun _ _ => False := by
      funext o e H
      cases o <;> rfl
    rw [← this]
    exact h)).calm
end
end Go.Ax

/- What a call has made and does not hand back may be forgotten. -/
namespace Go.Ax
open Go Go.RowKit

section
variable {P : Program} {w w' : World} {X M M' M'' : Nat → Prop} {ρ ρ' : Nat → Loc} {H : AHeap} {n n' : Nat}

theorem Rep.narrow {x : AV} {u : Value} (h : Rep w M' ρ 0 x u) (hM : ∀ b, M'' b → M' b) : Rep w M'' ρ 0 x u :=
  h.fut (n0 := 0) (Fut.refl _ _ _) (fun b _ hb hb' => hb (hM b hb')) (fun b _ ⟨r, o, hr, _⟩ => by omega) (Nat.le_refl _)

/-- It names objects of the first n alone, if it did so once. -/
theorem Rep.scope {x : AV} {u0 : Value} (h0 : Rep w M ρ n x u0) (hM : ∀ b, M'' b → M' b) : ∀ {u : Value}, Rep w' M' ρ' n' x u → Rep w' M'' ρ' n x u := by
  induction h0 with
  | any => intro u _; exact .any _ _
  | v => intro u h; cases h; exact .v _ _
  | agg n cs us hl _ ih =>
    intro u h
    cases h with
    | agg _ _ us' hl' h' =>
      refine .agg _ _ _ hl' fun i x u hx hu => ?_
      have hlt : i < us.size := by rw [← hl]; exact (List.getElem?_eq_some_iff.1 hx).1
      exact ih i x us[i] hx (by simp [hlt]) (h' i x u hx hu)
  | tup n cs us hl _ ih =>
    intro u h
    cases h with
    | tup _ _ us' hl' h' =>
      refine .tup _ _ _ hl' fun i x u hx hu => ?_
      have hlt : i < us.size := by rw [← hl]; exact (List.getElem?_eq_some_iff.1 hx).1
      exact ih i x us[i] hx (by simp [hlt]) (h' i x u hx hu)
  | nc => intro u h; cases h; exact .nc _ _
  | bnil => intro u h; cases h; exact .bnil _ _
  | slE =>
    intro u h
    cases h with
    | slE => exact .slE _ _ _ _
    | slN _ _ _ b o cap c hm hb hcap hsz hcell hc => exact .slN _ _ _ _ _ _ c (fun h => hm (hM _ h)) hb hcap hsz hcell fun i j x y hx hy => (hc i j x y hx hy).narrow hM
  | slN =>
    intro u h
    cases h with
    | slE => exact .slE _ _ _ _
    | slN _ _ _ b o cap c hm hb hcap hsz hcell hc => exact .slN _ _ _ _ _ _ c (fun h => hm (hM _ h)) hb hcap hsz hcell fun i j x y hx hy => (hc i j x y hx hy).narrow hM
  | vp =>
    intro u h
    cases h with
    | vp _ _ _ b o c hm hb hcell hc => exact .vp _ _ _ _ _ c (fun h => hm (hM _ h)) hb hcell fun j y hy => (hc j y hy).narrow hM
  | fn n f first caps fs us h1 h2 _ _ ih1 ih2 =>
    intro u h
    cases h with
    | fn _ _ _ _ fs' us' g1 g2 g3 g4 =>
      refine .fn _ _ _ _ _ _ g1 g2 (fun i x u hx hu => ?_) (fun i x u hx hu => ?_)
      · have hlt : i < fs.size := by rw [← h1]; exact (List.getElem?_eq_some_iff.1 hx).1
        exact ih1 i x fs[i] hx (by simp [hlt]) (g3 i x u hx hu)
      · have hlt : i < us.size := by rw [← h2]; exact (List.getElem?_eq_some_iff.1 hx).1
        exact ih2 i x us[i] hx (by simp [hlt]) (g4 i x u hx hu)
  | mp =>
    intro u h
    cases h with
    | mp _ _ _ b es clock hm hb hh hks hvs hc => exact .mp _ _ _ _ es clock (fun h => hm (hM _ h)) hb hh hks hvs fun i x e hx he => (hc i x e hx he).narrow hM
  | os n r ver off len u hr _ _ _ =>
    intro u h
    cases h with
    | os _ _ _ _ _ _ _ hle h1 hp => exact .os _ _ _ _ _ _ hr hle h1 hp
  | ptr n r ver off u hr _ _ _ =>
    intro u h
    cases h with
    | ptr _ _ _ _ _ _ hle h1 hp => exact .ptr _ _ _ _ _ hr hle h1 hp
  | pe n r ver i off u hr _ _ _ =>
    intro u h
    cases h with
    | pe _ _ _ _ _ _ _ hle h1 hp => exact .pe _ _ _ _ _ _ hr hle h1 hp
  | om n r ver u hr _ _ _ =>
    intro u h
    cases h with
    | om _ _ _ _ _ hle h1 hp => exact .om _ _ _ _ hr hle h1 hp

theorem ObjOk.scope {l l' : Loc} {o : HO} (h0 : ObjOk w M ρ n l o) (hM : ∀ b, M'' b → M' b) (h : ObjOk w' M' ρ' n' l' o) : ObjOk w' M'' ρ' n l' o := by
  cases o with
  | dead => trivial
  | box cs =>
    obtain ⟨_, _, c0, _, _, _, _, hl0, _, h06⟩ := h0
    obtain ⟨h1, b, c, e, fr, h2, h3, h4, h5, h6⟩ := h
    refine ⟨h1, b, c, e, fr, h2, h3, h4, h5, fun j y u hy hu => ⟨?_, (h6 j y u hy hu).2⟩⟩
    have hlt : j < c0.size := by rw [← hl0]; exact (List.getElem?_eq_some_iff.1 hy).1
    exact (h06 j y c0[j] hy (by simp [hlt])).1.scope hM (h6 j y u hy hu).1
  | arr ver sz xs =>
    obtain ⟨h1, h2, h3, h4, h5, h6⟩ := h
    refine ⟨h1, h2, h3, h4, h5, ?_⟩
    split
    · rename_i hl; rw [hl] at h6; exact h6
    · rename_i b o hl
      rw [hl] at h6
      obtain ⟨c, e, fr, g1, g2, g3, g4⟩ := h6
      exact ⟨c, e, fr, g1, g2, g3, fun i j x y u hx hy hu => ⟨(g4 i j x y u hx hy hu).1.narrow hM, (g4 i j x y u hx hy hu).2⟩⟩
  | map ver ks vs =>
    obtain ⟨h1, b, es, clock, h2, h3, h4, h5, h6⟩ := h
    exact ⟨h1, b, es, clock, h2, h3, h4, h5, fun i x e hx he => (h6 i x e hx he).narrow hM⟩
  | iter s pos => exact h
  | lp b lr e st =>
    obtain ⟨_, _, _, h04⟩ := h0
    obtain ⟨h1, h2, h3, h4⟩ := h
    exact ⟨h1, h2, h3, fun t u hu => (h04 t u hu).scope hM (h4 t u hu)⟩
  | barr t ver bl => exact h

/-- A call that hands back a value without objects, and leaves the objects that were there: what else it has made may be forgotten. -/
theorem ACall.drop {k : FuncId} {args : List AV} {R : AV → Prop} (h : ACall P k args H fun x H' => R x ∧ x.cl = true ∧ ∃ rest, H' = H ++ rest) : ACall P k args H fun x H' => R x ∧ H' = H := by
  refine ⟨h.1, fun X ρ w vs hrel hargs => (h.2 X ρ w vs hrel hargs).mono ?_⟩
  rintro en w' ⟨v, x, H', ρ', rfl, ⟨hR, hcl, rest, rfl⟩, g1, g2, g3⟩
  have hle : H.length ≤ (H ++ rest).length := by simp
  have hM : ∀ b, Mut X ρ' H.length b → Mut X ρ' (H ++ rest).length b := fun b hb => hb.imp id fun ⟨r, o, hr, hbl⟩ => ⟨r, o, by omega, hbl⟩
  refine ⟨v, x, H, ρ', rfl, ⟨hR, rfl⟩, ⟨fun r o hr => ?_, fun r r' b o b' o' hr hr' => g1.inj r r' b o b' o' (by omega) (by omega), fun r b o hr => g1.lt r b o (by omega), g1.xlt, fun g hg => ⟨fun ⟨r, o, hr, hbl⟩ => (g1.gl g hg).1 ⟨r, o, by omega, hbl⟩, (g1.gl g hg).2⟩⟩, ?_, ?_⟩
  · have hlt : r < H.length := (List.getElem?_eq_some_iff.1 hr).1
    exact (hrel.objs r o hr).scope hM (g1.objs r o (by rw [List.getElem?_append_left hlt]; exact hr))
  · exact ((g2.of_cl hcl).narrow hM).closed rfl _ _
  · exact ⟨g3.os, g3.tape, g3.output, g3.size, g3.keep, fun b ⟨r, o, hr, hbl⟩ => g3.own b ⟨r, o, by omega, hbl⟩, Nat.le_refl _, g3.loc⟩
end

theorem bool_eq {a b : Bool} (h : a = true ↔ b = true) : bool a = bool b := by rw [Bool.eq_iff_iff.2 h]
end Go.Ax

/- The lexer's functions, and those of its reference: what each computes. Part 1: bytes, strings. -/
namespace Go.Proofs.Yteidffcimidinaa
open Go Go.Ax
set_option maxRecDepth 100000
set_option linter.unusedSimpArgs false
set_option linter.unusedVariables false

/-- A byte as the program sees it. -/
abbrev by8 (c : UInt8) : AV := u8 c.toNat
def isL (c : UInt8) : Bool := decide (97 ≤ c.toNat) && decide (c.toNat ≤ 122)
def isD (c : UInt8) : Bool := decide (48 ≤ c.toNat) && decide (c.toNat ≤ 57)
def isW (c : UInt8) : Bool := decide (c.toNat = 9) || decide (c.toNat = 10) || decide (c.toNat = 13) || decide (c.toNat = 32)
def isN (c : UInt8) : Bool := isL c || isD c || decide (c.toNat = 95)
def isC (c : UInt8) : Bool := !decide (c.toNat = 10)
abbrev Comp (k : FuncId) (args : List AV) (H : AHeap) (x : AV) : Prop := ACall Try.prog k args H fun y H' => y = x ∧ H' = H

theorem letter (c : UInt8) (H : AHeap) : Comp 126 [by8 c] H (bool (isL c)) := by
  refine enter Try.func126 L126_ok (Nat.le_of_ble_eq_true rfl) ?_
  repeat' (first | (refine And.intro (by omega) ?_) | simp -implicitDefEqProofs (disch := omega) only [L126, push_cast, ↓reduceIte, Nat.reduceEqDiff, reduceCtorEq, Nat.reduceAdd, Nat.reduceSub, Nat.reduceMul, Nat.reduceLeDiff, Nat.reduceLT, Nat.reduceMod, Nat.reduceDiv, Int.reduceToNat, Int.reduceLT, Int.reduceLE, Int.reduceEq, Int.reduceAdd, Int.reduceSub, Int.reduceNeg, Int.reduceMul, Bool.and_self] | split)
  all_goals (refine bool_eq ?_; simp [isL] <;> omega)
theorem letterR (c : UInt8) (H : AHeap) : Comp 25 [by8 c] H (bool (isL c)) := by
  refine enter Try.func25 L25_ok (Nat.le_of_ble_eq_true rfl) ?_
  repeat' (first | (refine And.intro (by omega) ?_) | simp -implicitDefEqProofs (disch := omega) only [L25, push_cast, ↓reduceIte, Nat.reduceEqDiff, reduceCtorEq, Nat.reduceAdd, Nat.reduceSub, Nat.reduceMul, Nat.reduceLeDiff, Nat.reduceLT, Nat.reduceMod, Nat.reduceDiv, Int.reduceToNat, Int.reduceLT, Int.reduceLE, Int.reduceEq, Int.reduceAdd, Int.reduceSub, Int.reduceNeg, Int.reduceMul, Bool.and_self] | split)
  all_goals (refine bool_eq ?_; simp [isL] <;> omega)
theorem digit (c : UInt8) (H : AHeap) : Comp 90 [by8 c] H (bool (isD c)) := by
  refine enter Try.func90 L90_ok (Nat.le_of_ble_eq_true rfl) ?_
  repeat' (first | (refine And.intro (by omega) ?_) | simp -implicitDefEqProofs (disch := omega) only [L90, push_cast, ↓reduceIte, Nat.reduceEqDiff, reduceCtorEq, Nat.reduceAdd, Nat.reduceSub, Nat.reduceMul, Nat.reduceLeDiff, Nat.reduceLT, Nat.reduceMod, Nat.reduceDiv, Int.reduceToNat, Int.reduceLT, Int.reduceLE, Int.reduceEq, Int.reduceAdd, Int.reduceSub, Int.reduceNeg, Int.reduceMul, Bool.and_self] | split)
  all_goals (refine bool_eq ?_; simp [isD] <;> omega)
theorem digitR (c : UInt8) (H : AHeap) : Comp 71 [by8 c] H (bool (isD c)) := by
  refine enter Try.func71 L71_ok (Nat.le_of_ble_eq_true rfl) ?_
  repeat' (first | (refine And.intro (by omega) ?_) | simp -implicitDefEqProofs (disch := omega) only [L71, push_cast, ↓reduceIte, Nat.reduceEqDiff, reduceCtorEq, Nat.reduceAdd, Nat.reduceSub, Nat.reduceMul, Nat.reduceLeDiff, Nat.reduceLT, Nat.reduceMod, Nat.reduceDiv, Int.reduceToNat, Int.reduceLT, Int.reduceLE, Int.reduceEq, Int.reduceAdd, Int.reduceSub, Int.reduceNeg, Int.reduceMul, Bool.and_self] | split)
  all_goals (refine bool_eq ?_; simp [isD] <;> omega)
theorem white (c : UInt8) (H : AHeap) : Comp 124 [by8 c] H (bool (isW c)) := by
  refine enter Try.func124 L124_ok (Nat.le_of_ble_eq_true rfl) ?_
  repeat' (first | (refine And.intro (by omega) ?_) | simp -implicitDefEqProofs (disch := omega) only [L124, push_cast, ↓reduceIte, Nat.reduceEqDiff, reduceCtorEq, Nat.reduceAdd, Nat.reduceSub, Nat.reduceMul, Nat.reduceLeDiff, Nat.reduceLT, Nat.reduceMod, Nat.reduceDiv, Int.reduceToNat, Int.reduceLT, Int.reduceLE, Int.reduceEq, Int.reduceAdd, Int.reduceSub, Int.reduceNeg, Int.reduceMul, Bool.and_self] | split)
  all_goals (refine bool_eq ?_; simp [isW] <;> omega)
theorem blankR (c : UInt8) (H : AHeap) : Comp 73 [by8 c] H (bool (isW c)) := by
  refine enter Try.func73 L73_ok (Nat.le_of_ble_eq_true rfl) ?_
  repeat' (first | (refine And.intro (by omega) ?_) | simp -implicitDefEqProofs (disch := omega) only [L73, push_cast, ↓reduceIte, Nat.reduceEqDiff, reduceCtorEq, Nat.reduceAdd, Nat.reduceSub, Nat.reduceMul, Nat.reduceLeDiff, Nat.reduceLT, Nat.reduceMod, Nat.reduceDiv, Int.reduceToNat, Int.reduceLT, Int.reduceLE, Int.reduceEq, Int.reduceAdd, Int.reduceSub, Int.reduceNeg, Int.reduceMul, Bool.and_self] | split)
  all_goals (refine bool_eq ?_; simp [isW] <;> omega)
theorem tokenC (c : UInt8) (H : AHeap) : Comp 127 [by8 c] H (bool (isN c)) := by
  refine enter Try.func127 L127_ok (Nat.le_of_ble_eq_true rfl) ?_
  repeat' (first | (refine And.intro (by omega) ?_) | (refine callF_pure (letter _ _) ?_) | (refine callF_pure (digit _ _) ?_) | (refine callQF_pure (letter _ _) (by first | rfl | simp only [L127, push_cast, ↓reduceIte, Nat.reduceEqDiff]) ?_) | (refine callQF_pure (digit _ _) (by first | rfl | simp only [L127, push_cast, ↓reduceIte, Nat.reduceEqDiff]) ?_) | simp -implicitDefEqProofs (disch := omega) only [L127, push_cast, ↓reduceIte, Nat.reduceEqDiff, reduceCtorEq, Nat.reduceAdd, Nat.reduceSub, Nat.reduceMul, Nat.reduceLeDiff, Nat.reduceLT, Nat.reduceMod, Nat.reduceDiv, Int.reduceToNat, Int.reduceLT, Int.reduceLE, Int.reduceEq, Int.reduceAdd, Int.reduceSub, Int.reduceNeg, Int.reduceMul, Bool.and_self] | split)
  all_goals (refine bool_eq ?_; simp_all [isN] <;> omega)
theorem skipC (c : UInt8) (H : AHeap) : Comp 125 [by8 c] H (bool (isC c)) := by
  refine enter Try.func125 L125_ok (Nat.le_of_ble_eq_true rfl) ?_
  repeat' (first | (refine And.intro (by omega) ?_) | simp -implicitDefEqProofs (disch := omega) only [L125, push_cast, ↓reduceIte, Nat.reduceEqDiff, reduceCtorEq, Nat.reduceAdd, Nat.reduceSub, Nat.reduceMul, Nat.reduceLeDiff, Nat.reduceLT, Nat.reduceMod, Nat.reduceDiv, Int.reduceToNat, Int.reduceLT, Int.reduceLE, Int.reduceEq, Int.reduceAdd, Int.reduceSub, Int.reduceNeg, Int.reduceMul, Bool.and_self] | split)
  all_goals (refine bool_eq ?_; simp [isC] <;> omega)

/-- The place behind bytes with a property. -/
def runF (p : UInt8 → Bool) (l : List UInt8) (i : Nat) : Nat := i + ((l.drop i).takeWhile p).length
theorem runF_step {p : UInt8 → Bool} {l : List UInt8} {i : Nat} (h : i < l.length) (hp : p (l.getD i 0) = true) : runF p l (i + 1) = runF p l i := by
  simp only [runF]
  rw [List.drop_eq_getElem_cons h, List.takeWhile_cons]
  simp [List.getD, h] at hp
  simp [hp]; omega
theorem runF_stop {p : UInt8 → Bool} {l : List UInt8} {i : Nat} (h : i < l.length → p (l.getD i 0) = false) : runF p l i = i := by
  simp only [runF]
  by_cases hi : i < l.length
  · have := h hi
    rw [List.drop_eq_getElem_cons hi, List.takeWhile_cons]
    simp [List.getD, hi] at this
    simp [this]
  · simp [List.drop_eq_nil_of_le (Nat.le_of_not_lt hi)]
theorem runF_le {p : UInt8 → Bool} {l : List UInt8} {i : Nat} (h : i ≤ l.length) : runF p l i ≤ l.length := by
  simp only [runF]
  have := (List.takeWhile_sublist p (l := l.drop i)).length_le
  simp at this
  omega

theorem run (l : List UInt8) (i : Nat) (p : UInt8 → Bool) (f : FuncId) (H : AHeap) (hl : (l.length : Int) < 9223372036854775807) (hi : i ≤ l.length)
    (hp : ∀ c : UInt8, Comp f [by8 c] H (bool (p c))) :
    Comp 89 [str l, int i, .fn (.func f) [] []] H (int (runF p l i)) := by
  refine enter Try.func89 L89_ok (Nat.le_of_ble_eq_true rfl) ?_
  simp -implicitDefEqProofs (disch := omega) only [L89, push_cast, ↓reduceIte, Nat.reduceEqDiff, reduceCtorEq, Nat.reduceAdd, Nat.reduceSub, Nat.reduceMul, Nat.reduceLeDiff, Nat.reduceLT, Nat.reduceMod, Nat.reduceDiv, Int.reduceToNat, Int.reduceLT, Int.reduceLE, Int.reduceEq, Int.reduceAdd, Int.reduceSub, Int.reduceNeg, Int.reduceMul, Bool.and_self]
  refine rk_loop (fun e' H' => ∃ j : Nat, e' 0 = str l ∧ e' 1 = int j ∧ e' 2 = .fn (.func f) [] [] ∧ H' = H ∧ j ≤ l.length ∧ runF p l j = runF p l i) (fun e' _ => match e' 1 with | .v (.int _ n) => l.length - n.toNat | _ => 0) ⟨i, by simp -implicitDefEqProofs (disch := omega) only [push_cast, ↓reduceIte, Nat.reduceEqDiff, reduceCtorEq, Nat.reduceAdd, Nat.reduceSub, Nat.reduceMul, Nat.reduceLeDiff, Nat.reduceLT, Nat.reduceMod, Nat.reduceDiv, Int.reduceToNat, Int.reduceLT, Int.reduceLE, Int.reduceEq, Int.reduceAdd, Int.reduceSub, Int.reduceNeg, Int.reduceMul, Bool.and_self], by simp -implicitDefEqProofs (disch := omega) only [push_cast, ↓reduceIte, Nat.reduceEqDiff, reduceCtorEq, Nat.reduceAdd, Nat.reduceSub, Nat.reduceMul, Nat.reduceLeDiff, Nat.reduceLT, Nat.reduceMod, Nat.reduceDiv, Int.reduceToNat, Int.reduceLT, Int.reduceLE, Int.reduceEq, Int.reduceAdd, Int.reduceSub, Int.reduceNeg, Int.reduceMul, Bool.and_self], by simp -implicitDefEqProofs (disch := omega) only [push_cast, ↓reduceIte, Nat.reduceEqDiff, reduceCtorEq, Nat.reduceAdd, Nat.reduceSub, Nat.reduceMul, Nat.reduceLeDiff, Nat.reduceLT, Nat.reduceMod, Nat.reduceDiv, Int.reduceToNat, Int.reduceLT, Int.reduceLE, Int.reduceEq, Int.reduceAdd, Int.reduceSub, Int.reduceNeg, Int.reduceMul, Bool.and_self], rfl, hi, rfl⟩ ?_
  rintro e' H' ⟨j, h0, h1, h2, rfl, hj, hr⟩
  repeat' (first | (refine And.intro (by omega) ?_) | (refine callF_pure (hp _) ?_) | (refine callQF_pure (hp _) (by first | rfl | simp only [h0, h1, h2, push_cast, ↓reduceIte, Nat.reduceEqDiff]) ?_) | simp -implicitDefEqProofs (disch := omega) only [h0, h1, h2, push_cast, ↓reduceIte, Nat.reduceEqDiff, reduceCtorEq, Nat.reduceAdd, Nat.reduceSub, Nat.reduceMul, Nat.reduceLeDiff, Nat.reduceLT, Nat.reduceMod, Nat.reduceDiv, Int.reduceToNat, Int.reduceLT, Int.reduceLE, Int.reduceEq, Int.reduceAdd, Int.reduceSub, Int.reduceNeg, Int.reduceMul, Bool.and_self] | split)
  · exact ⟨⟨j + 1, by simp, by omega, by rw [runF_step (by omega) ‹_›]; exact hr⟩, by omega⟩
  · rename_i h3
    rw [← hr, runF_stop fun _ => Bool.eq_false_iff.2 h3]
  · rw [← hr, runF_stop fun _ => by omega]
end Go.Proofs.Yteidffcimidinaa

/- The lexer's functions, and those of its reference: what each computes. Part 2: keywords. -/
namespace Go.Proofs.Yteidffcimidinaa
open Go Go.Ax
set_option maxRecDepth 100000
set_option linter.unusedSimpArgs false
set_option linter.unusedVariables false

def strs (ls : List (List UInt8)) : List (List AV) := ls.map fun s => [str s]
theorem strs_getD {ls : List (List UInt8)} {j : Nat} (h : j < ls.length) : (strs ls).getD j [] = [str (ls.getD j [])] := by
  simp [strs, List.getD_eq_getElem?_getD, h]
theorem strs_len (ls : List (List UInt8)) : (strs ls).length = ls.length := by simp [strs]
theorem take_mem {α : Type} {ls : List α} {s : α} {j : Nat} (hj : j < ls.length) (h : s ∉ ls.take j) (hne : ls[j] ≠ s) : s ∉ ls.take (j + 1) := by
  rw [List.take_succ_eq_append_getElem hj]
  simp only [List.mem_append, List.mem_singleton, not_or]
  exact ⟨h, fun h => hne h.symm⟩

/-- 'Has'. -/
theorem hasR (ls : List (List UInt8)) (s : List UInt8) (H : AHeap) (hl : (ls.length : Int) < 9223372036854775807) : Comp 70 [.sl 1 (strs ls), str s] H (bool (decide (s ∈ ls))) := by
  refine enter Try.func70 L70_ok (Nat.le_of_ble_eq_true rfl) ?_
  simp -implicitDefEqProofs (disch := omega) only [L70, push_cast, ↓reduceIte, Nat.reduceEqDiff, reduceCtorEq, Nat.reduceAdd, Nat.reduceSub, Nat.reduceMul, Nat.reduceLeDiff, Nat.reduceLT, Nat.reduceMod, Nat.reduceDiv, Int.reduceToNat, Int.reduceLT, Int.reduceLE, Int.reduceEq, Int.reduceAdd, Int.reduceSub, Int.reduceNeg, Int.reduceMul, Bool.and_self]
  refine rk_loop (fun e' H' => ∃ j : Nat, e' 0 = .sl 1 (strs ls) ∧ e' 1 = str s ∧ e' 5 = int j ∧ H' = H ∧ j ≤ ls.length ∧ s ∉ ls.take j) (fun e' _ => match e' 5 with | .v (.int _ n) => ls.length - n.toNat | _ => 0) ⟨0, by simp -implicitDefEqProofs (disch := omega) only [push_cast, ↓reduceIte, Nat.reduceEqDiff, reduceCtorEq, Nat.reduceAdd, Nat.reduceSub, Nat.reduceMul, Nat.reduceLeDiff, Nat.reduceLT, Nat.reduceMod, Nat.reduceDiv, Int.reduceToNat, Int.reduceLT, Int.reduceLE, Int.reduceEq, Int.reduceAdd, Int.reduceSub, Int.reduceNeg, Int.reduceMul, Bool.and_self], by simp -implicitDefEqProofs (disch := omega) only [push_cast, ↓reduceIte, Nat.reduceEqDiff, reduceCtorEq, Nat.reduceAdd, Nat.reduceSub, Nat.reduceMul, Nat.reduceLeDiff, Nat.reduceLT, Nat.reduceMod, Nat.reduceDiv, Int.reduceToNat, Int.reduceLT, Int.reduceLE, Int.reduceEq, Int.reduceAdd, Int.reduceSub, Int.reduceNeg, Int.reduceMul, Bool.and_self], by simp -implicitDefEqProofs (disch := omega) only [Int.natCast_zero, push_cast, ↓reduceIte, Nat.reduceEqDiff, reduceCtorEq, Nat.reduceAdd, Nat.reduceSub, Nat.reduceMul, Nat.reduceLeDiff, Nat.reduceLT, Nat.reduceMod, Nat.reduceDiv, Int.reduceToNat, Int.reduceLT, Int.reduceLE, Int.reduceEq, Int.reduceAdd, Int.reduceSub, Int.reduceNeg, Int.reduceMul, Bool.and_self], rfl, Nat.zero_le _, by simp⟩ ?_
  rintro e' H' ⟨j, h0, h1, h2, rfl, hj, hr⟩
  repeat' (first | (refine And.intro (by omega) ?_) | simp -implicitDefEqProofs (disch := omega) only [h0, h1, h2, strs_len, strs_getD, push_cast, ↓reduceIte, Nat.reduceEqDiff, reduceCtorEq, Nat.reduceAdd, Nat.reduceSub, Nat.reduceMul, Nat.reduceLeDiff, Nat.reduceLT, Nat.reduceMod, Nat.reduceDiv, Int.reduceToNat, Int.reduceLT, Int.reduceLE, Int.reduceEq, Int.reduceAdd, Int.reduceSub, Int.reduceNeg, Int.reduceMul, Bool.and_self] | split)
  · rename_i h3 h4
    refine bool_eq ⟨fun _ => decide_eq_true ?_, fun _ => rfl⟩
    rw [← h4]
    simp [List.getD_eq_getElem?_getD, show j < ls.length by omega]
  · rename_i h3 h4
    have hlt : j < ls.length := by omega
    refine ⟨⟨j + 1, by simp, by omega, take_mem hlt hr ?_⟩, by omega⟩
    simpa [List.getD_eq_getElem?_getD, hlt] using h4
  · rename_i h3
    rw [List.take_of_length_le (by omega)] at hr
    simp [hr]
def kwL : List (List UInt8) := [[114, 101, 99, 111, 114, 100], [112, 114, 111, 99], [118, 97, 114], [105, 102], [101, 108, 115, 101], [119, 104, 105, 108, 101], [102, 111, 114], [116, 111], [114, 101, 116, 117, 114, 110], [97, 115, 115, 101, 114, 116], [97, 110, 100], [111, 114], [110, 111, 116], [116, 114, 117, 101], [102, 97, 108, 115, 101], [105, 110, 116], [98, 111, 111, 108], [108, 101, 110]]
def isK (s : List UInt8) : Bool := decide (s ∈ kwL)

theorem keywordR (s : List UInt8) (H : AHeap) : Comp 26 [str s] H (bool (isK s)) := by
  refine enter Try.func26 L26_ok (Nat.le_of_ble_eq_true rfl) ?_
  simp -implicitDefEqProofs (disch := omega) only [L26, push_cast, ↓reduceIte, Nat.reduceEqDiff, reduceCtorEq, Nat.reduceAdd, Nat.reduceSub, Nat.reduceMul, Nat.reduceLeDiff, Nat.reduceLT, Nat.reduceMod, Nat.reduceDiv, Int.reduceToNat, Int.reduceLT, Int.reduceLE, Int.reduceEq, Int.reduceAdd, Int.reduceSub, Int.reduceNeg, Int.reduceMul, Bool.and_self]
  refine callF_pure (hasR kwL s H (by decide)) ?_
  simp -implicitDefEqProofs (disch := omega) only [isK, push_cast, ↓reduceIte, Nat.reduceEqDiff, reduceCtorEq, Nat.reduceAdd, Nat.reduceSub, Nat.reduceMul, Nat.reduceLeDiff, Nat.reduceLT, Nat.reduceMod, Nat.reduceDiv, Int.reduceToNat, Int.reduceLT, Int.reduceLE, Int.reduceEq, Int.reduceAdd, Int.reduceSub, Int.reduceNeg, Int.reduceMul, Bool.and_self]

theorem keywords (H : AHeap) : Comp 143 [] H (.mp (kwL.map fun s => .string (mkS s)) (kwL.map fun _ => bool true)) := by
  refine (ACall.drop (R := fun x => x = .mp (kwL.map fun s => .string (mkS s)) (kwL.map fun _ => bool true)) ?_)
  refine enter Try.func143 L143_ok (Nat.le_of_ble_eq_true rfl) ?_
  simp -implicitDefEqProofs (disch := omega) only [L143, push_cast, ↓reduceIte, Nat.reduceEqDiff, reduceCtorEq, Nat.reduceAdd, Nat.reduceSub, Nat.reduceMul, Nat.reduceLeDiff, Nat.reduceLT, Nat.reduceMod, Nat.reduceDiv, Int.reduceToNat, Int.reduceLT, Int.reduceLE, Int.reduceEq, Int.reduceAdd, Int.reduceSub, Int.reduceNeg, Int.reduceMul, Bool.and_self]
  simp [kEq, bs_mkS, kwL]

theorem mget_strs (s : List UInt8) : ∀ ls : List (List UInt8), mget (.string (mkS s)) (ls.map fun s => .string (mkS s)) (ls.map fun _ => bool true) = if s ∈ ls then some (bool true) else none
  | [] => by simp [mget]
  | x :: l => by
    simp only [List.map_cons, mget, kEq, bs_mkS, beq_iff_eq, List.mem_cons]
    by_cases h : s = x
    · simp [h]
    · simp [h, mget_strs s l]

theorem keyword (s : List UInt8) (H : AHeap) : Comp 128 [str s] H (bool (isK s)) := by
  refine enter Try.func128 L128_ok (Nat.le_of_ble_eq_true rfl) ?_
  simp -implicitDefEqProofs (disch := omega) only [L128, push_cast, ↓reduceIte, Nat.reduceEqDiff, reduceCtorEq, Nat.reduceAdd, Nat.reduceSub, Nat.reduceMul, Nat.reduceLeDiff, Nat.reduceLT, Nat.reduceMod, Nat.reduceDiv, Int.reduceToNat, Int.reduceLT, Int.reduceLE, Int.reduceEq, Int.reduceAdd, Int.reduceSub, Int.reduceNeg, Int.reduceMul, Bool.and_self]
  refine callF_pure (keywords H) ?_
  simp -implicitDefEqProofs (disch := omega) only [mget_strs, push_cast, ↓reduceIte, Nat.reduceEqDiff, reduceCtorEq, Nat.reduceAdd, Nat.reduceSub, Nat.reduceMul, Nat.reduceLeDiff, Nat.reduceLT, Nat.reduceMod, Nat.reduceDiv, Int.reduceToNat, Int.reduceLT, Int.reduceLE, Int.reduceEq, Int.reduceAdd, Int.reduceSub, Int.reduceNeg, Int.reduceMul, Bool.and_self]
  refine ⟨fun k hk => ?_, ?_⟩
  · obtain ⟨x, _, rfl⟩ := List.mem_map.1 hk; rfl
  · unfold isK
    by_cases h : s ∈ kwL <;> simp [h, lookV]

end Go.Proofs.Yteidffcimidinaa

/- More rules for proofs by steps: a loop whose state is named, a cut, parts of code. -/
namespace Go.Ax
open Go Go.RowKit
set_option linter.unusedSimpArgs false
set_option linter.unusedVariables false

section
variable {P : Program} {k : List Item} {Q : Out → Env → AHeap → Prop} {e : Env} {H : AHeap}

theorem aops_mono : ∀ {l : List LO} {e : Env} {H : AHeap} {K K' : Env → AHeap → Prop}, aops P l e H K → (∀ e H, K e H → K' e H) → aops P l e H K'
  | [], _, _, _, _, h, hK => hK _ _ h
  | o :: l, _, _, _, _, h, hK => by
    refine aops_of ?_
    rcases aops_cons h with ⟨h1, h2⟩ | ⟨h1, h2⟩
    · exact .inl ⟨h1, aop_mono h2 fun x H' hh => aops_mono hh hK⟩
    · exact .inr ⟨h1, aops_mono h2 hK⟩

theorem aopq_mono {op : LOp} {K K' : AV → Prop} (h : aopq P op e H K) (hK : ∀ x, K x → K' x) : aopq P op e H K' := by
  cases op <;> simp only [aopq] at h ⊢ <;> first | exact ⟨h.1, h.2.1, hK _ h.2.2⟩ | exact h.elim | skip
  case call f args =>
    split at h
    · obtain ⟨x, h1, h2, h3⟩ := h; exact ⟨x, h1, h2, hK _ h3⟩
    · exact h.elim
  case pick c a b =>
    split at h
    · split at h
      · rename_i hb; rw [if_pos hb]; exact hK _ h
      · rename_i hb; rw [if_neg hb]; exact hK _ h
    · exact h.elim

theorem aopsq_mono : ∀ {l : List LO} {e : Env} {K K' : Env → Prop}, aopsq P l e H K → (∀ e, K e → K' e) → aopsq P l e H K'
  | [], _, _, _, h, hK => hK _ h
  | o :: l, e, _, _, h, hK => by
    simp only [aopsq] at h ⊢
    split at h
    · exact aopq_mono h fun x hh => aopsq_mono hh hK
    · rename_i t want hg
      split at h
      · rename_i b hb
        cases b <;> cases want <;> simp only [if_true, Bool.false_eq_true, if_false] at h ⊢ <;> first | exact aopsq_mono h hK | exact aopq_mono h fun x hh => aopsq_mono hh hK
      · exact aopsq_mono h hK
      · exact h.elim

theorem lpOut_mono {st : LpSt} {K K' : Out → Prop} (h : lpOut st K) (hK : ∀ o, K o → K' o) : lpOut st K' := by
  cases st with
  | ready => exact hK _ h
  | busy => exact h
  | done o => cases o <;> exact hK _ h
theorem awp_mono : ∀ {c : LCode} {e : Env} {H : AHeap} {K K' : Out → Env → AHeap → Prop}, awp P c e H K → (∀ o e H, K o e H → K' o e H) → awp P c e H K' := by
  intro c
  induction c with
  | skip => intro e H K K' h hK; exact hK _ _ _ h
  | ops l => intro e H K K' h hK; exact aops_mono h fun e H hh => hK _ _ _ hh
  | draw hd tl => intro e H K K' h hK; exact aopsq_mono h fun e hh => aops_mono hh fun e H hh => hK _ _ _ hh
  | drawM hd pre mid post => intro e H K K' h hK; exact aopsq_mono h fun e hh σ hσ => aops_mono (hh σ hσ) fun e H hh => hK _ _ _ hh
  | seq a b iha ihb =>
    intro e H K K' h hK
    refine iha h fun o e' H' hh => ?_
    cases o with
    | normal => exact ihb hh hK
    | exit id => exact hK _ _ _ hh
    | ret => exact hK _ _ _ hh
    | pan v => exact hK _ _ _ hh
  | cond x a b iha ihb =>
    intro e H K K' h hK
    simp only [awp] at h ⊢
    split at h
    · rename_i t ht
      cases t with
      | true => rw [if_pos rfl] at h ⊢; exact iha h hK
      | false => rw [if_neg (by simp)] at h ⊢; exact ihb h hK
    · exact h.elim
  | block id c ih =>
    intro e H K K' h hK
    refine ih h fun o e' H' hh => ?_
    cases o with
    | normal => exact hK _ _ _ hh
    | exit j =>
      simp only at hh ⊢
      split
      · rename_i hj; rw [if_pos hj] at hh; exact hK _ _ _ hh
      · rename_i hj; rw [if_neg hj] at hh; exact hK _ _ _ hh
    | ret => exact hK _ _ _ hh
    | pan v => exact hK _ _ _ hh
  | loop c ih =>
    intro e H K K' h hK
    obtain ⟨I, μ, h1, h2⟩ := h
    refine ⟨I, μ, h1, fun e H hI => ih (h2 e H hI) fun o e' H' hh => ?_⟩
    cases o with
    | normal => exact hh
    | exit id => exact hK _ _ _ hh
    | ret => exact hK _ _ _ hh
    | pan v => exact hK _ _ _ hh
  | range g ps a b iha ihb =>
    intro e H K K' h hK
    simp only [awp] at h ⊢
    split at h
    · intro l lr hy
      exact (h l lr hy).mono fun x H' ⟨st, h1, h2⟩ => ⟨st, h1, lpOut_mono h2 fun o => hK _ _ _⟩
    · exact h.elim
  | exit id => intro e H K K' h hK; exact hK _ _ _ h
  | ret => intro e H K K' h hK; exact hK _ _ _ h
  | callp d f args =>
    intro e H K K' h hK
    simp only [awp] at h ⊢
    cases hf : ev e f with
    | fn g first caps =>
      rw [hf] at h
      cases g with
      | func k => exact ACallX.mono h (fun _ _ hh => hK _ _ _ hh) fun _ _ hh => hK _ _ _ hh
      | _ => exact h.elim
    | _ => rw [hf] at h; exact h.elim
  | pan d t x => intro e H K K' ⟨v, h1, h2⟩ hK; exact ⟨v, h1, hK _ _ _ h2⟩

theorem least {p : Nat → Prop} (h : ∃ n, p n) : ∃ n, p n ∧ ∀ m, p m → n ≤ m := by
  obtain ⟨n, hn⟩ := h
  induction n using Nat.strongRecOn with
  | _ n ih =>
    by_cases hh : ∃ m, m < n ∧ p m
    · obtain ⟨m, hm, hp⟩ := hh; exact ih m hm hp
    · exact ⟨n, hn, fun m hm => Nat.le_of_not_lt fun hlt => hh ⟨m, hlt, hm⟩⟩

/-- The next state of a loop. -/
inductive Nx {σ : Type} (I : σ → Env → AHeap → Prop) (μ : σ → Nat) (s : σ) (e : Env) (H : AHeap) : Prop where
  | mk (s' : σ) (h : I s' e H) (hm : μ s' < μ s)

open Classical in
/-- A loop whose state is s. -/
theorem rk_loopS {σ : Type} {c : LCode} (I : σ → Env → AHeap → Prop) (μ : σ → Nat) (s : σ) (h0 : I s e H)
    (h : ∀ s e H, I s e H → runK P (.code c :: .lp (Nx I μ s) :: k) Q .normal e H) : runK P (.code (.loop c) :: k) Q .normal e H := by
  have hex : ∀ e H, (∃ s, I s e H) → ∃ n, (∃ s, I s e H ∧ μ s = n) ∧ ∀ m, (∃ s, I s e H ∧ μ s = m) → n ≤ m := fun e H ⟨s, hs⟩ => least ⟨_, s, hs, rfl⟩
  refine rk_loop (fun e H => ∃ s, I s e H) (fun e H => if hx : ∃ s, I s e H then Classical.choose (hex e H hx) else 0) ⟨s, h0⟩ ?_
  intro e H hs
  obtain ⟨⟨s, hI, hm⟩, _⟩ := Classical.choose_spec (hex e H hs)
  refine awp_mono (h s e H hI) fun o e' H' hh => ?_
  cases o with
  | normal =>
    obtain ⟨s', hI', hlt⟩ := hh
    refine ⟨⟨s', hI'⟩, ?_⟩
    rw [dif_pos ⟨s', hI'⟩, dif_pos hs]
    have := (Classical.choose_spec (hex e' H' ⟨s', hI'⟩)).2 _ ⟨s', hI', rfl⟩
    omega
  | exit id => exact hh
  | ret => exact hh
  | pan v => exact hh

end

@[push_cast] theorem toNat_add1 (i : Nat) : ((i : Int) + 1).toNat = i + 1 := by omega
@[push_cast] theorem toNat_add2 (i : Nat) : ((i : Int) + 2).toNat = i + 2 := by omega
@[push_cast] theorem toNat_add3 (i : Nat) : ((i : Int) + 3).toNat = i + 3 := by omega
@[push_cast] theorem toNat_add4 (i : Nat) : ((i : Int) + 4).toNat = i + 4 := by omega
@[push_cast] theorem toNat_add5 (i : Nat) : ((i : Int) + 5).toNat = i + 5 := by omega
@[push_cast] theorem toNat_addC (i j : Nat) : ((i : Int) + (j : Int)).toNat = i + j := by omega

attribute [push_cast] Nat.add_sub_cancel_left
@[push_cast] theorem take_map_len {α β : Type} (f : α → β) (l : List α) : (l.map f).take l.length = l.map f := by
  rw [List.take_of_length_le (by simp)]
@[push_cast] theorem take_map_len0 {α β : Type} (f : α → β) (l : List α) : ((l.map f).drop 0).take l.length = l.map f := by
  rw [List.drop_zero, List.take_of_length_le (by simp)]
/-- The part of code at a place. -/
def LCode.sub : List Nat → LCode → LCode
  | [], c => c
  | 0 :: l, .seq a _ => a.sub l
  | 1 :: l, .seq _ b => b.sub l
  | 0 :: l, .cond _ a _ => a.sub l
  | 1 :: l, .cond _ _ b => b.sub l
  | _ :: l, .block _ c => c.sub l
  | _ :: l, .loop c => c.sub l
  | _, c => c
end Go.Ax

/- The lexer's functions, and those of its reference: what each computes. Part 3: symbols. -/
namespace Go.Proofs.Yteidffcimidinaa
open Go Go.Ax
set_option maxRecDepth 100000
set_option linter.unusedSimpArgs false
set_option linter.unusedVariables false

/-- The size of the symbol at a place, or 0. -/
def symL : List UInt8 := [60, 62, 61, 43, 45, 42, 47, 37, 40, 41, 123, 125, 91, 93, 44, 59, 58, 46]
def is2 (c : UInt8) : Bool := decide (c.toNat = 61) || decide (c.toNat = 33) || decide (c.toNat = 60) || decide (c.toNat = 62)
def symF (s : List UInt8) (i : Nat) : Nat :=
  if i + 1 < s.length ∧ (s.getD (i + 1) 0).toNat = 61 ∧ is2 (s.getD i 0) = true then 2 else if s.getD i 0 ∈ symL then 1 else 0

theorem sub2 {s : List UInt8} {i : Nat} (h : i + 1 < s.length) : ((s.drop i).take 2) = [s.getD i 0, s.getD (i + 1) 0] := by
  rw [List.drop_eq_getElem_cons (by omega), List.drop_eq_getElem_cons h, List.take_succ_cons, List.take_succ_cons, List.take_zero]
  simp [List.getD_eq_getElem?_getD, h, show i < s.length by omega]
theorem sub1 {s : List UInt8} {i : Nat} (h : i < s.length) : ((s.drop i).take 1) = [s.getD i 0] := by
  rw [List.drop_eq_getElem_cons h, List.take_succ_cons, List.take_zero]
  simp [List.getD_eq_getElem?_getD, h]
theorem symF_is {s : List UInt8} {i : Nat} (h : i + 1 < s.length) : symF s i = if [s.getD i 0, s.getD (i + 1) 0] ∈ [[61, 61], [33, 61], [60, 61], [(62 : UInt8), 61]] then 2 else if s.getD i 0 ∈ symL then 1 else 0 := by
  unfold symF
  have e : (i + 1 < s.length ∧ (s.getD (i + 1) 0).toNat = 61 ∧ is2 (s.getD i 0) = true) = ([s.getD i 0, s.getD (i + 1) 0] ∈ [[61, 61], [33, 61], [60, 61], [(62 : UInt8), 61]]) := by
    generalize s.getD (i + 1) 0 = b
    generalize s.getD i 0 = a
    simp [is2, h, ← UInt8.toNat_inj]
    omega
  simp only [e]

theorem symbolR (s : List UInt8) (i : Nat) (H : AHeap) (hl : (s.length : Int) < 9223372036854775806) (hi : i < s.length) : Comp 72 [str s, int i] H (int (symF s i)) := by
  refine enter Try.func72 L72_ok (Nat.le_of_ble_eq_true rfl) ?_
  simp -implicitDefEqProofs (disch := omega) only [L72, push_cast, ↓reduceIte, Nat.reduceEqDiff, reduceCtorEq, Nat.reduceAdd, Nat.reduceSub, Nat.reduceMul, Nat.reduceLeDiff, Nat.reduceLT, Nat.reduceMod, Nat.reduceDiv, Int.reduceToNat, Int.reduceLT, Int.reduceLE, Int.reduceEq, Int.reduceAdd, Int.reduceSub, Int.reduceNeg, Int.reduceMul, Bool.and_self]
  have hm : ∀ c : UInt8, ([c] ∈ symL.map fun c => [c]) ↔ c ∈ symL := fun c => by simp
  split
  · rename_i h1
    have h1' : i + 1 < s.length := by omega
    refine ⟨by omega, callF_pure (hasR [[61, 61], [33, 61], [60, 61], [62, 61]] _ _ (by decide)) ?_⟩
    simp -implicitDefEqProofs (disch := omega) only [push_cast, ↓reduceIte, Nat.reduceEqDiff, reduceCtorEq, Nat.reduceAdd, Nat.reduceSub, Nat.reduceMul, Nat.reduceLeDiff, Nat.reduceLT, Nat.reduceMod, Nat.reduceDiv, Int.reduceToNat, Int.reduceLT, Int.reduceLE, Int.reduceEq, Int.reduceAdd, Int.reduceSub, Int.reduceNeg, Int.reduceMul, Bool.and_self]
    rw [sub2 h1']
    split
    · rename_i h2
      rw [symF_is h1', if_pos (by simpa using h2)]
      rfl
    · rename_i h2
      refine ⟨by omega, callF_pure (hasR (symL.map fun c => [c]) _ _ (by decide)) ?_⟩
      simp -implicitDefEqProofs (disch := omega) only [push_cast, ↓reduceIte, Nat.reduceEqDiff, reduceCtorEq, Nat.reduceAdd, Nat.reduceSub, Nat.reduceMul, Nat.reduceLeDiff, Nat.reduceLT, Nat.reduceMod, Nat.reduceDiv, Int.reduceToNat, Int.reduceLT, Int.reduceLE, Int.reduceEq, Int.reduceAdd, Int.reduceSub, Int.reduceNeg, Int.reduceMul, Bool.and_self]
      have e := symF_is h1'
      rw [if_neg (show ¬ _ from by simpa using h2)] at e
      rw [sub1 hi, e]
      simp only [hm]
      split <;> rfl
  · rename_i h1
    refine ⟨by omega, callF_pure (hasR (symL.map fun c => [c]) _ _ (by decide)) ?_⟩
    simp -implicitDefEqProofs (disch := omega) only [push_cast, ↓reduceIte, Nat.reduceEqDiff, reduceCtorEq, Nat.reduceAdd, Nat.reduceSub, Nat.reduceMul, Nat.reduceLeDiff, Nat.reduceLT, Nat.reduceMod, Nat.reduceDiv, Int.reduceToNat, Int.reduceLT, Int.reduceLE, Int.reduceEq, Int.reduceAdd, Int.reduceSub, Int.reduceNeg, Int.reduceMul, Bool.and_self]
    unfold symF
    have e : symF s i = if s.getD i 0 ∈ symL then 1 else 0 := if_neg (by omega)
    rw [sub1 hi]
    simp only [hm]
    rw [show (if i + 1 < s.length ∧ (s.getD (i + 1) 0).toNat = 61 ∧ is2 (s.getD i 0) = true then 2 else if s.getD i 0 ∈ symL then 1 else 0) = _ from e]
    split <;> rfl

theorem bytes_getD {rows : List UInt8} {j : Nat} (h : j < rows.length) : (rows.map byteRow).getD (0 + j) [] = [by8 (rows.getD j 0)] := by
  simp [byteRow, List.getD_eq_getElem?_getD, h]
/-- A loop over bytes that looks for the byte at a place. -/
theorem find_loop (s : List UInt8) (i : Nat) (rows : List UInt8) (H : AHeap) {e : Env} (hl : (rows.length : Int) < 9223372036854775806) (hi : i < s.length) (h0 : e 0 = str s) (h1 : e 1 = int i) (h44 : e 44 = .os H.length 0 0 rows.length) (h45 : e 45 = int rows.length) (h46 : e 46 = int 0) {R : AV → AHeap → Prop}
    (hR : R (int (if s.getD i 0 ∈ rows then (1 : Nat) else 0)) (H ++ [.arr 0 1 (rows.map byteRow)])) :
    runK Try.prog [.code (L129.body.sub [1, 1, 0, 1, 0]), .blk 0, .code (L129.body.sub [1, 1, 1])] (retQ L129.res R) .normal e (H ++ [.arr 0 1 (rows.map byteRow)]) := by
  simp -implicitDefEqProofs (disch := omega) only [L129, LCode.sub, push_cast, ↓reduceIte, Nat.reduceEqDiff, reduceCtorEq, Nat.reduceAdd, Nat.reduceSub, Nat.reduceMul, Nat.reduceLeDiff, Nat.reduceLT, Nat.reduceMod, Nat.reduceDiv, Int.reduceToNat, Int.reduceLT, Int.reduceLE, Int.reduceEq, Int.reduceAdd, Int.reduceSub, Int.reduceNeg, Int.reduceMul, Bool.and_self]
  refine rk_loopS (fun (j : Nat) e' H' => e' 0 = str s ∧ e' 1 = int i ∧ e' 44 = .os H.length 0 0 rows.length ∧ e' 45 = int rows.length ∧ e' 46 = int j ∧ H' = H ++ [.arr 0 1 (rows.map byteRow)] ∧ j ≤ rows.length ∧ s.getD i 0 ∉ rows.take j) (fun j => rows.length - j) 0 ⟨h0, h1, h44, h45, h46, rfl, Nat.zero_le _, by simp⟩ ?_
  rintro j e' H' ⟨g0, g1, g2, g3, g4, rfl, hj, hr⟩
  repeat' (first | (refine And.intro (by omega) ?_) | simp -implicitDefEqProofs (disch := omega) only [g0, g1, g2, g3, g4, bytes_getD, push_cast, ↓reduceIte, Nat.reduceEqDiff, reduceCtorEq, Nat.reduceAdd, Nat.reduceSub, Nat.reduceMul, Nat.reduceLeDiff, Nat.reduceLT, Nat.reduceMod, Nat.reduceDiv, Int.reduceToNat, Int.reduceLT, Int.reduceLE, Int.reduceEq, Int.reduceAdd, Int.reduceSub, Int.reduceNeg, Int.reduceMul, Bool.and_self] | split)
  · rename_i h3 h4
    rw [if_pos] at hR
    · exact hR
    · have h5 : s.getD i 0 = rows.getD j 0 := UInt8.toNat_inj.1 (by omega)
      rw [h5]
      simp [List.getD_eq_getElem?_getD, show j < rows.length by omega]
  · rename_i h3 h4
    have hlt : j < rows.length := by omega
    refine Nx.mk (j + 1) ⟨g0, g1, g2, g3, rfl, rfl, by omega, take_mem hlt hr fun h => h4 ?_⟩ (by omega)
    rw [← h]
    simp [List.getD_eq_getElem?_getD, hlt]
  · rename_i h3
    rw [List.take_of_length_le (by omega)] at hr
    rw [if_neg hr] at hR
    exact hR

theorem symF_2 {s : List UInt8} {i : Nat} (h : i + 1 < s.length) (h1 : (s.getD (i + 1) 0).toNat = 61) (h2 : is2 (s.getD i 0) = true) : symF s i = 2 := if_pos ⟨h, h1, h2⟩
theorem symF_1 {s : List UInt8} {i : Nat} (h : ¬ (i + 1 < s.length ∧ (s.getD (i + 1) 0).toNat = 61 ∧ is2 (s.getD i 0) = true)) : symF s i = if s.getD i 0 ∈ symL then 1 else 0 := if_neg h
theorem is2_iff {c : UInt8} : is2 c = true ↔ c.toNat = 61 ∨ c.toNat = 33 ∨ c.toNat = 60 ∨ c.toNat = 62 := by simp [is2, or_assoc]

theorem symbol (s : List UInt8) (i : Nat) (H : AHeap) (hl : (s.length : Int) < 9223372036854775806) (hi : i < s.length) : Comp 129 [str s, int i] H (int (symF s i)) := by
  refine ACall.drop (R := fun x => x = int (symF s i)) ?_
  refine enter Try.func129 L129_ok (Nat.le_of_ble_eq_true rfl) ?_
  repeat' (first | (refine And.intro (by omega) ?_) | simp -implicitDefEqProofs (disch := omega) only [L129, push_cast, ↓reduceIte, Nat.reduceEqDiff, reduceCtorEq, Nat.reduceAdd, Nat.reduceSub, Nat.reduceMul, Nat.reduceLeDiff, Nat.reduceLT, Nat.reduceMod, Nat.reduceDiv, Int.reduceToNat, Int.reduceLT, Int.reduceLE, Int.reduceEq, Int.reduceAdd, Int.reduceSub, Int.reduceNeg, Int.reduceMul, Bool.and_self] | split)
  all_goals first
    | exact ⟨by rw [symF_2 (by omega) (by omega) (is2_iff.2 (by omega))]; rfl, [], by simp⟩
    | exact find_loop s i symL H (by decide) hi rfl rfl rfl rfl rfl ⟨by rw [symF_1 (by rw [is2_iff]; omega)]; split <;> rfl, rfl, _, rfl⟩
end Go.Proofs.Yteidffcimidinaa

/- The lexer's functions, and those of its reference: what each computes. Part 4: white space, one token. -/
namespace Go.Proofs.Yteidffcimidinaa
open Go Go.Ax
set_option maxRecDepth 100000
set_option linter.unusedSimpArgs false
set_option linter.unusedVariables false

/-- How many bytes of white space and comments a text begins with; the flag: within a comment. -/
def skipL : Bool → List UInt8 → Nat
  | _, [] => 0
  | true, c :: l => if isC c = true then skipL true l + 1 else skipL false l + 1
  | false, c :: l => if isW c = true then skipL false l + 1 else if c.toNat = 35 then skipL true l + 1 else 0
def skipF (s : List UInt8) (i : Nat) : Nat := i + skipL false (s.drop i)

theorem skipL_comment : ∀ l : List UInt8, skipL true l = (l.takeWhile isC).length + skipL false (l.drop (l.takeWhile isC).length)
  | [] => by simp [skipL]
  | c :: l => by
    by_cases h : isC c = true
    · rw [List.takeWhile_cons, if_pos h]
      simp only [skipL, h, if_true, List.length_cons, List.drop_succ_cons]
      rw [skipL_comment l]; omega
    · have hw : isW c = true := by simp [isC] at h; simp [isW, h]
      rw [List.takeWhile_cons, if_neg h]
      simp [skipL, h, hw]
theorem skipF_white {s : List UInt8} {i : Nat} (h : i < s.length) (hw : isW (s.getD i 0) = true) : skipF s (i + 1) = skipF s i := by
  simp only [skipF]
  rw [List.drop_eq_getElem_cons h]
  simp [List.getD_eq_getElem?_getD, h] at hw
  simp [skipL, hw]; omega
theorem skipF_comment {s : List UInt8} {i : Nat} (h : i < s.length) (hw : isW (s.getD i 0) = false) (hc : (s.getD i 0).toNat = 35) : skipF s (runF isC s i) = skipF s i := by
  simp only [skipF, runF]
  rw [← List.drop_drop, List.drop_eq_getElem_cons h]
  simp [List.getD_eq_getElem?_getD, h] at hw hc
  have hC : isC s[i] = true := by simp [isC, hc]
  have e := skipL_comment (s[i] :: s.drop (i + 1))
  simp only [skipL, hC, if_true] at e
  simp only [skipL, hw, hc, Bool.false_eq_true, if_false, if_true]
  omega
theorem skipF_stop {s : List UInt8} {i : Nat} (h : i < s.length → isW (s.getD i 0) = false ∧ ¬ (s.getD i 0).toNat = 35) : skipF s i = i := by
  simp only [skipF]
  by_cases hi : i < s.length
  · obtain ⟨h1, h2⟩ := h hi
    rw [List.drop_eq_getElem_cons hi]
    simp [List.getD_eq_getElem?_getD, hi] at h1 h2
    simp [skipL, h1, h2]
  · simp [List.drop_eq_nil_of_le (Nat.le_of_not_lt hi), skipL]
theorem skipL_le : ∀ (b : Bool) (l : List UInt8), skipL b l ≤ l.length
  | _, [] => by simp [skipL]
  | true, c :: l => by simp only [skipL, List.length_cons]; have := skipL_le true l; have := skipL_le false l; split <;> omega
  | false, c :: l => by simp only [skipL, List.length_cons]; have := skipL_le true l; have := skipL_le false l; (repeat' split) <;> omega
theorem skipF_le {s : List UInt8} {i : Nat} (h : i ≤ s.length) : i ≤ skipF s i ∧ skipF s i ≤ s.length := by
  simp only [skipF]
  have := skipL_le false (s.drop i)
  simp at this
  omega
theorem runF_ge {p : UInt8 → Bool} {l : List UInt8} {i : Nat} : i ≤ runF p l i := by simp [runF]
theorem runF_gt {p : UInt8 → Bool} {l : List UInt8} {i : Nat} (h : i < l.length) (hp : p (l.getD i 0) = true) : i < runF p l i := by
  rw [← runF_step h hp]; exact runF_ge

theorem skip (s : List UInt8) (i : Nat) (H : AHeap) (hl : (s.length : Int) < 9223372036854775806) (hi : i ≤ s.length) : Comp 97 [str s, int i] H (int (skipF s i)) := by
  refine enter Try.func97 L97_ok (Nat.le_of_ble_eq_true rfl) ?_
  simp -implicitDefEqProofs (disch := omega) only [L97, push_cast, ↓reduceIte, Nat.reduceEqDiff, reduceCtorEq, Nat.reduceAdd, Nat.reduceSub, Nat.reduceMul, Nat.reduceLeDiff, Nat.reduceLT, Nat.reduceMod, Nat.reduceDiv, Int.reduceToNat, Int.reduceLT, Int.reduceLE, Int.reduceEq, Int.reduceAdd, Int.reduceSub, Int.reduceNeg, Int.reduceMul, Bool.and_self]
  refine rk_loopS (fun (j : Nat) e' H' => e' 0 = str s ∧ e' 1 = int j ∧ H = H' ∧ j ≤ s.length ∧ skipF s j = skipF s i) (fun j => s.length - j) i ⟨rfl, rfl, rfl, hi, rfl⟩ ?_
  rintro j e' H' ⟨h0, h1, rfl, hj, hr⟩
  repeat' (first | (refine And.intro (by omega) ?_) | (refine callF_pure (white _ _) ?_) | (refine callF_pure (run s _ isC 125 _ (by omega) hj fun c => skipC c _) ?_) | (refine callQF_pure (white _ _) (by first | rfl | simp only [h0, h1, push_cast, ↓reduceIte, Nat.reduceEqDiff]) ?_) | (refine callQF_pure (run s _ isC 125 _ (by omega) hj fun c => skipC c _) (by first | rfl | simp only [h0, h1, push_cast, ↓reduceIte, Nat.reduceEqDiff]) ?_) | simp -implicitDefEqProofs (disch := omega) only [h0, h1, push_cast, ↓reduceIte, Nat.reduceEqDiff, reduceCtorEq, Nat.reduceAdd, Nat.reduceSub, Nat.reduceMul, Nat.reduceLeDiff, Nat.reduceLT, Nat.reduceMod, Nat.reduceDiv, Int.reduceToNat, Int.reduceLT, Int.reduceLE, Int.reduceEq, Int.reduceAdd, Int.reduceSub, Int.reduceNeg, Int.reduceMul, Bool.and_self] | split)
  · rename_i h2 h3
    exact .mk (j + 1) ⟨h0, rfl, rfl, by omega, by rw [skipF_white (by omega) h3]; exact hr⟩ (by omega)
  · rename_i h2 h3 h4
    exact .mk (runF isC s j) ⟨h0, rfl, rfl, runF_le hj, by rw [skipF_comment (by omega) (Bool.eq_false_iff.2 h3) (by omega)]; exact hr⟩ (by have := runF_gt (p := isC) (show j < s.length by omega) (by simp only [isC, Bool.not_eq_true', decide_eq_false_iff_not]; omega); omega)
  · rename_i h2 h3 h4
    rw [← hr, skipF_stop fun _ => ⟨Bool.eq_false_iff.2 h3, by omega⟩]
  · rw [← hr, skipF_stop fun _ => by omega]

theorem isW_35 {c : UInt8} (h : isW c = true) (h2 : (c.toNat : Int) = 35) : False := by
  simp only [isW, Bool.or_eq_true, decide_eq_true_eq] at h; omega

theorem skipR (s : List UInt8) (i : Nat) (H : AHeap) (hl : (s.length : Int) < 9223372036854775806) (hi : i ≤ s.length) : Comp 56 [str s, int i] H (int (skipF s i)) := by
  refine enter Try.func56 L56_ok (Nat.le_of_ble_eq_true rfl) ?_
  simp -implicitDefEqProofs (disch := omega) only [L56, push_cast, ↓reduceIte, Nat.reduceEqDiff, reduceCtorEq, Nat.reduceAdd, Nat.reduceSub, Nat.reduceMul, Nat.reduceLeDiff, Nat.reduceLT, Nat.reduceMod, Nat.reduceDiv, Int.reduceToNat, Int.reduceLT, Int.reduceLE, Int.reduceEq, Int.reduceAdd, Int.reduceSub, Int.reduceNeg, Int.reduceMul, Bool.and_self]
  refine rk_loopS (fun (j : Nat) e' H' => e' 0 = str s ∧ e' 1 = int j ∧ H = H' ∧ j ≤ s.length ∧ skipF s j = skipF s i) (fun j => s.length - j) i ⟨rfl, rfl, rfl, hi, rfl⟩ ?_
  rintro j e' H' ⟨h0, h1, rfl, hj, hr⟩
  repeat' (first | (refine And.intro (by omega) ?_) | (refine callF_pure (blankR _ _) ?_) | (refine callQF_pure (blankR _ _) (by first | rfl | simp only [h0, h1, push_cast, ↓reduceIte, Nat.reduceEqDiff]) ?_) | simp -implicitDefEqProofs (disch := omega) only [h0, h1, push_cast, ↓reduceIte, Nat.reduceEqDiff, reduceCtorEq, Nat.reduceAdd, Nat.reduceSub, Nat.reduceMul, Nat.reduceLeDiff, Nat.reduceLT, Nat.reduceMod, Nat.reduceDiv, Int.reduceToNat, Int.reduceLT, Int.reduceLE, Int.reduceEq, Int.reduceAdd, Int.reduceSub, Int.reduceNeg, Int.reduceMul, Bool.and_self] | split)
  all_goals first
    | exact .mk (j + 1) ⟨h0, rfl, rfl, by omega, by rw [skipF_white (by omega) (by assumption)]; exact hr⟩ (by omega)
    | exact (isW_35 (by assumption) (by assumption)).elim
    | (rw [← hr, skipF_stop fun _ => ⟨Bool.eq_false_iff.2 (by assumption), by omega⟩]; done)
    | (rw [← hr, skipF_stop fun _ => by omega]; done)
    | skip
  refine rk_loopS (fun (k : Nat) e' H' => e' 0 = str s ∧ e' 1 = int k ∧ H = H' ∧ j ≤ k ∧ k ≤ s.length ∧ runF isC s k = runF isC s j) (fun k => s.length - k) j ⟨h0, h1, rfl, Nat.le_refl _, hj, rfl⟩ ?_
  rintro k e' H' ⟨g0, g1, rfl, hk, hk2, hr2⟩
  repeat' (first | (refine And.intro (by omega) ?_) | simp -implicitDefEqProofs (disch := omega) only [g0, g1, push_cast, ↓reduceIte, Nat.reduceEqDiff, reduceCtorEq, Nat.reduceAdd, Nat.reduceSub, Nat.reduceMul, Nat.reduceLeDiff, Nat.reduceLT, Nat.reduceMod, Nat.reduceDiv, Int.reduceToNat, Int.reduceLT, Int.reduceLE, Int.reduceEq, Int.reduceAdd, Int.reduceSub, Int.reduceNeg, Int.reduceMul, Bool.and_self] | split)
  all_goals first
    | exact .mk (k + 1) ⟨g0, rfl, rfl, by omega, by omega, by rw [runF_step (by omega) (by simp only [isC, Bool.not_eq_true', decide_eq_false_iff_not]; omega)]; exact hr2⟩ (by omega)
    | skip
  all_goals
    have hk3 : runF isC s k = k := runF_stop fun _ => by simp only [isC, Bool.not_eq_false', decide_eq_true_eq]; omega
    have hk4 : j < runF isC s j := runF_gt (by omega) (by simp only [isC, Bool.not_eq_true', decide_eq_false_iff_not]; omega)
    exact .mk k ⟨g0, g1, rfl, hk2, by rw [← hk3, hr2, skipF_comment (by omega) (Bool.eq_false_iff.2 (by assumption)) (by omega)]; exact hr⟩ (by omega)

theorem beginsR (s : List UInt8) (i : Nat) (H : AHeap) (hl : (s.length : Int) < 9223372036854775806) (hi : i < s.length) : Comp 74 [str s, int i] H (bool (isL (s.getD i 0) || isD (s.getD i 0) || decide (0 < symF s i))) := by
  refine enter Try.func74 L74_ok (Nat.le_of_ble_eq_true rfl) ?_
  repeat' (first | (refine And.intro (by omega) ?_) | (refine callF_pure (letterR _ _) ?_) | (refine callF_pure (digitR _ _) ?_) | (refine callF_pure (symbolR _ _ _ hl hi) ?_) | (refine callQF_pure (letterR _ _) (by first | rfl | simp only [L74, push_cast, ↓reduceIte, Nat.reduceEqDiff]) ?_) | (refine callQF_pure (digitR _ _) (by first | rfl | simp only [L74, push_cast, ↓reduceIte, Nat.reduceEqDiff]) ?_) | (refine callQF_pure (symbolR _ _ _ hl hi) (by first | rfl | simp only [L74, push_cast, ↓reduceIte, Nat.reduceEqDiff]) ?_) | simp -implicitDefEqProofs (disch := omega) only [L74, push_cast, ↓reduceIte, Nat.reduceEqDiff, reduceCtorEq, Nat.reduceAdd, Nat.reduceSub, Nat.reduceMul, Nat.reduceLeDiff, Nat.reduceLT, Nat.reduceMod, Nat.reduceDiv, Int.reduceToNat, Int.reduceLT, Int.reduceLE, Int.reduceEq, Int.reduceAdd, Int.reduceSub, Int.reduceNeg, Int.reduceMul, Bool.and_self] | split)
  all_goals (refine bool_eq ?_; simp_all <;> omega)

/-- A byte that goes on with a wrong token. -/
def stays (s : List UInt8) (k : Nat) : Bool := !isW (s.getD k 0) && !decide ((s.getD k 0).toNat = 35) && !isL (s.getD k 0) && !isD (s.getD k 0) && decide (symF s k = 0)
def badN (s : List UInt8) : Nat → Nat → Nat
  | 0, k => k
  | n + 1, k => if stays s k = true then badN s n (k + 1) else k
def badF (s : List UInt8) (k : Nat) : Nat := badN s (s.length - k) k
theorem badF_step {s : List UInt8} {k : Nat} (h : k < s.length) (hs : stays s k = true) : badF s (k + 1) = badF s k := by
  unfold badF
  rw [show s.length - k = (s.length - (k + 1)) + 1 by omega]
  simp [badN, hs]
theorem badF_stop {s : List UInt8} {k : Nat} (h : k < s.length → stays s k = false) : badF s k = k := by
  unfold badF
  by_cases hk : k < s.length
  · rw [show s.length - k = (s.length - (k + 1)) + 1 by omega]
    simp [badN, h hk]
  · rw [show s.length - k = 0 by omega]; rfl
theorem badN_ge (s : List UInt8) : ∀ n k, k ≤ badN s n k ∧ badN s n k ≤ k + n
  | 0, k => by simp [badN]
  | n + 1, k => by
    simp only [badN]
    have := badN_ge s n (k + 1)
    split <;> omega
theorem badF_ge {s : List UInt8} {k : Nat} (h : k ≤ s.length) : k ≤ badF s k ∧ badF s k ≤ s.length := by
  have := badN_ge s (s.length - k) k
  unfold badF; omega

/-- The kind and the end of the token at a place. -/
def tokF (s : List UInt8) (i : Nat) : Nat × Nat :=
  if isL (s.getD i 0) = true then (if isK ((s.drop i).take (runF isN s i - i)) = true then 1 else 0, runF isN s i)
  else if isD (s.getD i 0) = true then (2, runF isD s i)
  else if 0 < symF s i then (3, i + symF s i)
  else (4, badF s (i + 1))
theorem symF_lt {s : List UInt8} {i : Nat} (h : i < s.length) : i + symF s i ≤ s.length := by
  unfold symF; split
  · omega
  · split <;> omega
theorem tokF_gt {s : List UInt8} {i : Nat} (h : i < s.length) : i < (tokF s i).2 ∧ (tokF s i).2 ≤ s.length := by
  unfold tokF
  split
  · rename_i h1; exact ⟨runF_gt h (by simp only [isN, h1, Bool.true_or]), runF_le (by omega)⟩
  · split
    · exact ⟨runF_gt h ‹_›, runF_le (by omega)⟩
    · have := symF_lt h
      split
      · simp only; omega
      · have := badF_ge (show i + 1 ≤ s.length by omega); simp only; omega
abbrev tokV (p : Nat × Nat) : AV := .tup [int p.1, int p.2]

theorem tokF_L {s : List UInt8} {i : Nat} (h : isL (s.getD i 0) = true) : tokF s i = (if isK ((s.drop i).take (runF isN s i - i)) = true then 1 else 0, runF isN s i) := if_pos h
theorem tokF_D {s : List UInt8} {i : Nat} (h : ¬ isL (s.getD i 0) = true) (h2 : isD (s.getD i 0) = true) : tokF s i = (2, runF isD s i) := (if_neg h).trans (if_pos h2)
theorem tokF_S {s : List UInt8} {i : Nat} (h : ¬ isL (s.getD i 0) = true) (h2 : ¬ isD (s.getD i 0) = true) (h3 : 0 < symF s i) : tokF s i = (3, i + symF s i) := (if_neg h).trans ((if_neg h2).trans (if_pos h3))
theorem tokF_W {s : List UInt8} {i : Nat} (h : ¬ isL (s.getD i 0) = true) (h2 : ¬ isD (s.getD i 0) = true) (h3 : ¬ 0 < symF s i) : tokF s i = (4, badF s (i + 1)) := (if_neg h).trans ((if_neg h2).trans (if_neg h3))
theorem stays_iff {s : List UInt8} {k : Nat} : stays s k = true ↔ isW (s.getD k 0) = false ∧ ¬ (s.getD k 0).toNat = 35 ∧ isL (s.getD k 0) = false ∧ isD (s.getD k 0) = false ∧ symF s k = 0 := by
  simp only [stays, Bool.and_eq_true, Bool.not_eq_true', decide_eq_false_iff_not, decide_eq_true_eq, and_assoc]

theorem isN_iff {c : UInt8} : isN c = true ↔ isL c = true ∨ isD c = true ∨ c.toNat = 95 := by simp [isN, or_assoc]

theorem token (s : List UInt8) (i : Nat) (H : AHeap) (hl : (s.length : Int) < 9223372036854775806) (hi : i < s.length) : Comp 98 [str s, int i] H (tokV (tokF s i)) := by
  refine enter Try.func98 L98_ok (Nat.le_of_ble_eq_true rfl) ?_
  have hr : i ≤ runF isN s i ∧ runF isN s i ≤ s.length := ⟨runF_ge, runF_le (by omega)⟩
  have hs := symF_lt hi
  repeat' (first | (refine And.intro (by omega) ?_) | (refine callF_pure (letter _ _) ?_) | (refine callF_pure (digit _ _) ?_) | (refine callF_pure (run s _ isN 127 _ (by omega) (by omega) fun c => tokenC c _) ?_) | (refine callF_pure (run s _ isD 90 _ (by omega) (by omega) fun c => digit c _) ?_) | (refine callF_pure (keyword _ _) ?_) | (refine callF_pure (symbol _ _ _ hl hi) ?_) | (refine callQF_pure (letter _ _) (by first | rfl | simp only [L98, push_cast, ↓reduceIte, Nat.reduceEqDiff]) ?_) | (refine callQF_pure (digit _ _) (by first | rfl | simp only [L98, push_cast, ↓reduceIte, Nat.reduceEqDiff]) ?_) | (refine callQF_pure (run s _ isN 127 _ (by omega) (by omega) fun c => tokenC c _) (by first | rfl | simp only [L98, push_cast, ↓reduceIte, Nat.reduceEqDiff]) ?_) | (refine callQF_pure (run s _ isD 90 _ (by omega) (by omega) fun c => digit c _) (by first | rfl | simp only [L98, push_cast, ↓reduceIte, Nat.reduceEqDiff]) ?_) | (refine callQF_pure (keyword _ _) (by first | rfl | simp only [L98, push_cast, ↓reduceIte, Nat.reduceEqDiff]) ?_) | (refine callQF_pure (symbol _ _ _ hl hi) (by first | rfl | simp only [L98, push_cast, ↓reduceIte, Nat.reduceEqDiff]) ?_) | simp -implicitDefEqProofs (disch := omega) only [L98, push_cast, ↓reduceIte, Nat.reduceEqDiff, reduceCtorEq, Nat.reduceAdd, Nat.reduceSub, Nat.reduceMul, Nat.reduceLeDiff, Nat.reduceLT, Nat.reduceMod, Nat.reduceDiv, Int.reduceToNat, Int.reduceLT, Int.reduceLE, Int.reduceEq, Int.reduceAdd, Int.reduceSub, Int.reduceNeg, Int.reduceMul, Bool.and_self] | split)
  all_goals first
    | (rw [tokF_L (by assumption), if_pos (by assumption)]; rfl)
    | (rw [tokF_L (by assumption), if_neg (by assumption)]; rfl)
    | (rw [tokF_D (by assumption) (by assumption)]; rfl)
    | (rw [tokF_S (by assumption) (by assumption) (by omega)]; rfl)
    | skip
  rw [tokF_W (by assumption) (by assumption) (by omega)]
  refine rk_loopS (fun (k : Nat) e' H' => e' 0 = str s ∧ e' 8 = int k ∧ H = H' ∧ k ≤ s.length ∧ badF s k = badF s (i + 1)) (fun k => s.length - k) (i + 1) ?_ ?_
  · exact ⟨rfl, rfl, rfl, hi, rfl⟩
  rintro k e' H' ⟨h0, h1, rfl, hk, hr⟩
  repeat' (first | (refine And.intro (by omega) ?_) | (refine callF_pure (letter _ _) ?_) | (refine callF_pure (digit _ _) ?_) | (refine callF_pure (white _ _) ?_) | (refine callF_pure (symbol _ _ _ hl (by omega)) ?_) | (refine callQF_pure (letter _ _) (by first | rfl | simp only [h0, h1, push_cast, ↓reduceIte, Nat.reduceEqDiff]) ?_) | (refine callQF_pure (digit _ _) (by first | rfl | simp only [h0, h1, push_cast, ↓reduceIte, Nat.reduceEqDiff]) ?_) | (refine callQF_pure (white _ _) (by first | rfl | simp only [h0, h1, push_cast, ↓reduceIte, Nat.reduceEqDiff]) ?_) | (refine callQF_pure (symbol _ _ _ hl (by omega)) (by first | rfl | simp only [h0, h1, push_cast, ↓reduceIte, Nat.reduceEqDiff]) ?_) | simp -implicitDefEqProofs (disch := omega) only [h0, h1, push_cast, ↓reduceIte, Nat.reduceEqDiff, reduceCtorEq, Nat.reduceAdd, Nat.reduceSub, Nat.reduceMul, Nat.reduceLeDiff, Nat.reduceLT, Nat.reduceMod, Nat.reduceDiv, Int.reduceToNat, Int.reduceLT, Int.reduceLE, Int.reduceEq, Int.reduceAdd, Int.reduceSub, Int.reduceNeg, Int.reduceMul, Bool.and_self] | split)
  all_goals first
    | exact .mk (k + 1) ⟨h0, rfl, rfl, by omega, by rw [badF_step (by omega) (stays_iff.2 ⟨(by first | assumption | exact Bool.eq_false_iff.2 (by assumption)), by omega, (by first | assumption | exact Bool.eq_false_iff.2 (by assumption)), (by first | assumption | exact Bool.eq_false_iff.2 (by assumption)), by omega⟩)]; exact hr⟩ (by omega)
    | (rw [← hr, badF_stop fun _ => Bool.eq_false_iff.2 fun hh => by rw [stays_iff] at hh; obtain ⟨g1, g2, g3, g4, g5⟩ := hh; first | omega | (simp_all; done)]; rfl)

theorem tokenR (s : List UInt8) (i : Nat) (H : AHeap) (hl : (s.length : Int) < 9223372036854775806) (hi : i < s.length) (hw : isL (s.getD i 0) = true ∨ (isW (s.getD i 0) = false ∧ ¬ (s.getD i 0).toNat = 35)) : Comp 27 [str s, int i] H (tokV (tokF s i)) := by
  refine enter Try.func27 L27_ok (Nat.le_of_ble_eq_true rfl) ?_
  have hr : i ≤ runF isN s i ∧ runF isN s i ≤ s.length := ⟨runF_ge, runF_le (by omega)⟩
  have hs := symF_lt hi
  repeat' (first | (refine And.intro (by omega) ?_) | (refine callF_pure (letterR _ _) ?_) | (refine callF_pure (digitR _ _) ?_) | (refine callF_pure (symbolR _ _ _ hl hi) ?_) | (refine callQF_pure (letterR _ _) (by first | rfl | simp only [L27, push_cast, ↓reduceIte, Nat.reduceEqDiff]) ?_) | (refine callQF_pure (digitR _ _) (by first | rfl | simp only [L27, push_cast, ↓reduceIte, Nat.reduceEqDiff]) ?_) | (refine callQF_pure (symbolR _ _ _ hl hi) (by first | rfl | simp only [L27, push_cast, ↓reduceIte, Nat.reduceEqDiff]) ?_) | simp -implicitDefEqProofs (disch := omega) only [L27, push_cast, ↓reduceIte, Nat.reduceEqDiff, reduceCtorEq, Nat.reduceAdd, Nat.reduceSub, Nat.reduceMul, Nat.reduceLeDiff, Nat.reduceLT, Nat.reduceMod, Nat.reduceDiv, Int.reduceToNat, Int.reduceLT, Int.reduceLE, Int.reduceEq, Int.reduceAdd, Int.reduceSub, Int.reduceNeg, Int.reduceMul, Bool.and_self] | split)
  all_goals first
    | (rw [tokF_S (by assumption) (by assumption) (by omega)]; rfl)
    | skip
  · refine rk_loopS (fun (k : Nat) e' H' => e' 0 = str s ∧ e' 1 = int i ∧ e' 6 = int k ∧ H = H' ∧ i ≤ k ∧ k ≤ s.length ∧ runF isN s k = runF isN s i) (fun k => s.length - k) i ⟨rfl, rfl, rfl, rfl, by omega, by omega, rfl⟩ ?_
    rintro k e' H' ⟨h0, h1, h2, rfl, hk0, hk, hr2⟩
    repeat' (first | (refine And.intro (by omega) ?_) | (refine callF_pure (letterR _ _) ?_) | (refine callF_pure (digitR _ _) ?_) | (refine callF_pure (keywordR _ _) ?_) | (refine callQF_pure (letterR _ _) (by first | rfl | simp only [h0, h1, h2, push_cast, ↓reduceIte, Nat.reduceEqDiff]) ?_) | (refine callQF_pure (digitR _ _) (by first | rfl | simp only [h0, h1, h2, push_cast, ↓reduceIte, Nat.reduceEqDiff]) ?_) | (refine callQF_pure (keywordR _ _) (by first | rfl | simp only [h0, h1, h2, push_cast, ↓reduceIte, Nat.reduceEqDiff]) ?_) | simp -implicitDefEqProofs (disch := omega) only [h0, h1, h2, push_cast, ↓reduceIte, Nat.reduceEqDiff, reduceCtorEq, Nat.reduceAdd, Nat.reduceSub, Nat.reduceMul, Nat.reduceLeDiff, Nat.reduceLT, Nat.reduceMod, Nat.reduceDiv, Int.reduceToNat, Int.reduceLT, Int.reduceLE, Int.reduceEq, Int.reduceAdd, Int.reduceSub, Int.reduceNeg, Int.reduceMul, Bool.and_self] | split)
    all_goals first
      | exact .mk (k + 1) ⟨h0, h1, rfl, rfl, by omega, by omega, by rw [runF_step (p := isN) (l := s) (i := k) (by omega) (isN_iff.2 (by first | exact .inl (by assumption) | exact .inr (.inl (by assumption)) | exact .inr (.inr (by omega))))]; exact hr2⟩ (by omega)
      | skip
    all_goals
      have hk3 : runF isN s k = k := runF_stop fun _ => Bool.eq_false_iff.2 fun hh => by rw [isN_iff] at hh; first | omega | (rcases hh with hh | hh | hh <;> first | exact absurd hh (by assumption) | omega)
      rw [hr2] at hk3
      rw [tokF_L (by assumption), hk3]
      first
        | (rw [if_pos (by assumption)]; rfl)
        | (rw [if_neg (by assumption)]; rfl)
  · refine rk_loopS (fun (k : Nat) e' H' => e' 0 = str s ∧ e' 1 = int i ∧ e' 6 = int k ∧ H = H' ∧ i ≤ k ∧ k ≤ s.length ∧ runF isD s k = runF isD s i) (fun k => s.length - k) i ⟨rfl, rfl, rfl, rfl, by omega, by omega, rfl⟩ ?_
    rintro k e' H' ⟨h0, h1, h2, rfl, hk0, hk, hr2⟩
    repeat' (first | (refine And.intro (by omega) ?_) | (refine callF_pure (digitR _ _) ?_) | (refine callQF_pure (digitR _ _) (by first | rfl | simp only [h0, h1, h2, push_cast, ↓reduceIte, Nat.reduceEqDiff]) ?_) | simp -implicitDefEqProofs (disch := omega) only [h0, h1, h2, push_cast, ↓reduceIte, Nat.reduceEqDiff, reduceCtorEq, Nat.reduceAdd, Nat.reduceSub, Nat.reduceMul, Nat.reduceLeDiff, Nat.reduceLT, Nat.reduceMod, Nat.reduceDiv, Int.reduceToNat, Int.reduceLT, Int.reduceLE, Int.reduceEq, Int.reduceAdd, Int.reduceSub, Int.reduceNeg, Int.reduceMul, Bool.and_self] | split)
    all_goals first
      | exact .mk (k + 1) ⟨h0, h1, rfl, rfl, by omega, by omega, by rw [runF_step (p := isD) (l := s) (i := k) (by omega) (by assumption)]; exact hr2⟩ (by omega)
      | skip
    all_goals
      have hk3 : runF isD s k = k := runF_stop fun _ => Bool.eq_false_iff.2 (by first | assumption | omega)
      rw [hr2] at hk3
      rw [tokF_D (by assumption) (by assumption), hk3]; rfl
  · have hw' : isW (s.getD i 0) = false ∧ ¬ (s.getD i 0).toNat = 35 := hw.resolve_left (by assumption)
    have hb : badF s (i + 1) = badF s i := badF_step hi (stays_iff.2 ⟨hw'.1, hw'.2, Bool.eq_false_iff.2 (by assumption), Bool.eq_false_iff.2 (by assumption), by omega⟩)
    rw [tokF_W (by assumption) (by assumption) (by omega), hb]
    refine rk_loopS (fun (k : Nat) e' H' => e' 0 = str s ∧ e' 6 = int k ∧ H = H' ∧ k ≤ s.length ∧ badF s k = badF s i) (fun k => s.length - k) i ⟨rfl, rfl, rfl, by omega, rfl⟩ ?_
    rintro k e' H' ⟨h0, h1, rfl, hk, hr⟩
    repeat' (first | (refine And.intro (by omega) ?_) | (refine callF_pure (blankR _ _) ?_) | (refine callF_pure (beginsR _ _ _ hl (by omega)) ?_) | (refine callQF_pure (blankR _ _) (by first | rfl | simp only [h0, h1, push_cast, ↓reduceIte, Nat.reduceEqDiff]) ?_) | (refine callQF_pure (beginsR _ _ _ hl (by omega)) (by first | rfl | simp only [h0, h1, push_cast, ↓reduceIte, Nat.reduceEqDiff]) ?_) | simp -implicitDefEqProofs (disch := omega) only [h0, h1, push_cast, ↓reduceIte, Nat.reduceEqDiff, reduceCtorEq, Nat.reduceAdd, Nat.reduceSub, Nat.reduceMul, Nat.reduceLeDiff, Nat.reduceLT, Nat.reduceMod, Nat.reduceDiv, Int.reduceToNat, Int.reduceLT, Int.reduceLE, Int.reduceEq, Int.reduceAdd, Int.reduceSub, Int.reduceNeg, Int.reduceMul, Bool.and_self] | split)
    all_goals first
      | exact .mk (k + 1) ⟨h0, rfl, rfl, by omega, by rw [badF_step (by omega) (stays_iff.2 (by simp_all; omega))]; exact hr⟩ (by omega)
      | (rw [← hr, badF_stop fun _ => Bool.eq_false_iff.2 fun hh => by rw [stays_iff] at hh; obtain ⟨g1, g2, g3, g4, g5⟩ := hh; first | omega | (simp_all; done)]; rfl)
end Go.Proofs.Yteidffcimidinaa

/- The lexer's functions, and those of its reference: what each computes. Part 5: all tokens, words. -/
namespace Go.Proofs.Yteidffcimidinaa
open Go Go.Ax
set_option maxRecDepth 100000
set_option linter.unusedSimpArgs false
set_option linter.unusedVariables false

structure Tok where
  kind : Nat
  fr : Nat
  at_ : Nat
  en : Nat
def tokR (t : Tok) : List AV := [int t.kind, int t.fr, int t.at_, int t.en]
def scanN (s : List UInt8) : Nat → Nat → List Tok
  | 0, _ => []
  | n + 1, f => if skipF s f = s.length then [⟨5, f, skipF s f, skipF s f⟩] else ⟨(tokF s (skipF s f)).1, f, skipF s f, (tokF s (skipF s f)).2⟩ :: scanN s n (tokF s (skipF s f)).2
def scanF (s : List UInt8) : List Tok := scanN s (s.length + 1) 0

theorem skipL_out : ∀ (b : Bool) (l : List UInt8), skipL b l < l.length → isW (l.getD (skipL b l) 0) = false ∧ ¬ (l.getD (skipL b l) 0).toNat = 35
  | _, [], h => by simp at h
  | true, c :: l, h => by
    simp only [skipL] at h ⊢
    split at h <;> rename_i hc
    · rw [if_pos hc, List.getD_cons_succ]; exact skipL_out true l (by simp at h; omega)
    · rw [if_neg hc, List.getD_cons_succ]; exact skipL_out false l (by simp at h; omega)
  | false, c :: l, h => by
    simp only [skipL] at h ⊢
    split at h <;> rename_i hc
    · rw [if_pos hc, List.getD_cons_succ]; exact skipL_out false l (by simp at h; omega)
    · rw [if_neg hc]
      split at h <;> rename_i hd
      · rw [if_pos hd, List.getD_cons_succ]; exact skipL_out true l (by simp at h; omega)
      · rw [if_neg hd, List.getD_cons_zero]; exact ⟨Bool.eq_false_iff.2 hc, hd⟩
theorem getD_drop0 (l : List UInt8) (i j : Nat) : (l.drop i).getD j 0 = l.getD (i + j) 0 := by simp [List.getD_eq_getElem?_getD]
theorem skipF_out {s : List UInt8} {i : Nat} (h : skipF s i < s.length) : isW (s.getD (skipF s i) 0) = false ∧ ¬ (s.getD (skipF s i) 0).toNat = 35 := by
  have := skipL_out false (s.drop i) (by simp [skipF] at h ⊢; omega)
  rw [getD_drop0] at this
  exact this

theorem scanN_end {s : List UInt8} {n f : Nat} (h : skipF s f = s.length) : scanN s (n + 1) f = [⟨5, f, skipF s f, skipF s f⟩] := if_pos h
theorem scanN_more {s : List UInt8} {n f : Nat} (h : ¬ skipF s f = s.length) : scanN s (n + 1) f = ⟨(tokF s (skipF s f)).1, f, skipF s f, (tokF s (skipF s f)).2⟩ :: scanN s n (tokF s (skipF s f)).2 := if_neg h
theorem take_done (done : List Tok) (x : List AV) : ((done.map tokR) ++ [x]).take (done.length + 1) = done.map tokR ++ [x] := List.take_of_length_le (by simp)

theorem scan (s : List UInt8) (H : AHeap) (hl : s.length ≤ 4096) : Comp 52 [str s] H (.tup [.sl 4 ((scanF s).map tokR), int 0]) := by
  refine ACall.drop (R := fun x => x = .tup [.sl 4 ((scanF s).map tokR), int 0]) ?_
  refine enter Try.func52 L52_ok (Nat.le_of_ble_eq_true rfl) ?_
  repeat' (first | (refine And.intro (by omega) ?_) | simp -implicitDefEqProofs (disch := omega) only [L52, push_cast, ↓reduceIte, Nat.reduceEqDiff, reduceCtorEq, Nat.reduceAdd, Nat.reduceSub, Nat.reduceMul, Nat.reduceLeDiff, Nat.reduceLT, Nat.reduceMod, Nat.reduceDiv, Int.reduceToNat, Int.reduceLT, Int.reduceLE, Int.reduceEq, Int.reduceAdd, Int.reduceSub, Int.reduceNeg, Int.reduceMul, Bool.and_self] | split)
  · omega
  refine rk_loopS (fun (p : Nat × Nat × Nat × List Tok) e' H' => e' 0 = str s ∧ e' 5 = int p.2.1 ∧ e' 4 = .os H.length p.2.2.1 0 p.2.2.2.length ∧ H' = H ++ [.arr p.2.2.1 4 (p.2.2.2.map tokR)] ∧ p.2.1 ≤ s.length ∧ p.2.2.2.length ≤ p.2.1 ∧ s.length < p.1 + p.2.1 ∧ p.2.2.2 ++ scanN s p.1 p.2.1 = scanF s) (fun p => s.length + 1 - p.2.1) (s.length + 1, 0, 0, []) ⟨rfl, rfl, rfl, rfl, Nat.zero_le _, Nat.zero_le _, by simp, rfl⟩ ?_
  rintro ⟨n, f, ver, done⟩ e' H' ⟨h0, h5, h4, rfl, hf, hd, hn, hr⟩
  simp only at h0 h5 h4 hf hd hn hr
  have hk := skipF_le hf
  cases n with
  | zero => omega
  | succ n =>
  repeat' (first | (refine And.intro (by omega) ?_) | (refine callF_pure (skip _ _ _ (by omega) hf) ?_) | (refine callF_pure (token _ _ _ (by omega) (by omega)) ?_) | (refine callQF_pure (skip _ _ _ (by omega) hf) (by first | rfl | simp only [h0, h5, h4, take_done, push_cast, ↓reduceIte, Nat.reduceEqDiff]) ?_) | (refine callQF_pure (token _ _ _ (by omega) (by omega)) (by first | rfl | simp only [h0, h5, h4, take_done, push_cast, ↓reduceIte, Nat.reduceEqDiff]) ?_) | simp -implicitDefEqProofs (disch := omega) only [h0, h5, h4, take_done, push_cast, ↓reduceIte, Nat.reduceEqDiff, reduceCtorEq, Nat.reduceAdd, Nat.reduceSub, Nat.reduceMul, Nat.reduceLeDiff, Nat.reduceLT, Nat.reduceMod, Nat.reduceDiv, Int.reduceToNat, Int.reduceLT, Int.reduceLE, Int.reduceEq, Int.reduceAdd, Int.reduceSub, Int.reduceNeg, Int.reduceMul, Bool.and_self] | split)
  · rename_i h1
    refine ⟨?_, _, rfl⟩
    rw [← hr, scanN_end (by omega), List.map_append]; rfl
  · rename_i h1
    have ht := tokF_gt (s := s) (i := skipF s f) (by omega)
    exact .mk (n, (tokF s (skipF s f)).2, ver + 1, done ++ [⟨(tokF s (skipF s f)).1, f, skipF s f, (tokF s (skipF s f)).2⟩]) ⟨h0, rfl, by simp [up], by simp [tokR], ht.2, by simp; omega, by simp; omega, by rw [← hr, scanN_more (by omega)]; simp⟩ (by simp only; omega)

theorem scanR (s : List UInt8) (H : AHeap) (hl : s.length ≤ 4096) : Comp 20 [str s] H (.tup [.sl 4 ((scanF s).map tokR), int 0]) := by
  refine ACall.drop (R := fun x => x = .tup [.sl 4 ((scanF s).map tokR), int 0]) ?_
  refine enter Try.func20 L20_ok (Nat.le_of_ble_eq_true rfl) ?_
  repeat' (first | (refine And.intro (by omega) ?_) | simp -implicitDefEqProofs (disch := omega) only [L20, push_cast, ↓reduceIte, Nat.reduceEqDiff, reduceCtorEq, Nat.reduceAdd, Nat.reduceSub, Nat.reduceMul, Nat.reduceLeDiff, Nat.reduceLT, Nat.reduceMod, Nat.reduceDiv, Int.reduceToNat, Int.reduceLT, Int.reduceLE, Int.reduceEq, Int.reduceAdd, Int.reduceSub, Int.reduceNeg, Int.reduceMul, Bool.and_self] | split)
  · omega
  refine rk_loopS (fun (p : Nat × Nat × Nat × List Tok) e' H' => e' 0 = str s ∧ e' 5 = int p.2.1 ∧ e' 4 = .os H.length p.2.2.1 0 p.2.2.2.length ∧ H' = H ++ [.arr p.2.2.1 4 (p.2.2.2.map tokR)] ∧ p.2.1 ≤ s.length ∧ p.2.2.2.length ≤ p.2.1 ∧ s.length < p.1 + p.2.1 ∧ p.2.2.2 ++ scanN s p.1 p.2.1 = scanF s) (fun p => s.length + 1 - p.2.1) (s.length + 1, 0, 0, []) ⟨rfl, rfl, rfl, rfl, Nat.zero_le _, Nat.zero_le _, by simp, rfl⟩ ?_
  rintro ⟨n, f, ver, done⟩ e' H' ⟨h0, h5, h4, rfl, hf, hd, hn, hr⟩
  simp only at h0 h5 h4 hf hd hn hr
  have hk := skipF_le hf
  cases n with
  | zero => omega
  | succ n =>
  repeat' (first | (refine And.intro (by omega) ?_) | (refine callF_pure (skipR _ _ _ (by omega) hf) ?_) | (refine callF_pure (tokenR _ _ _ (by omega) (by omega) (.inr (skipF_out (by omega)))) ?_) | (refine callQF_pure (skipR _ _ _ (by omega) hf) (by first | rfl | simp only [h0, h5, h4, take_done, push_cast, ↓reduceIte, Nat.reduceEqDiff]) ?_) | (refine callQF_pure (tokenR _ _ _ (by omega) (by omega) (.inr (skipF_out (by omega)))) (by first | rfl | simp only [h0, h5, h4, take_done, push_cast, ↓reduceIte, Nat.reduceEqDiff]) ?_) | simp -implicitDefEqProofs (disch := omega) only [h0, h5, h4, take_done, push_cast, ↓reduceIte, Nat.reduceEqDiff, reduceCtorEq, Nat.reduceAdd, Nat.reduceSub, Nat.reduceMul, Nat.reduceLeDiff, Nat.reduceLT, Nat.reduceMod, Nat.reduceDiv, Int.reduceToNat, Int.reduceLT, Int.reduceLE, Int.reduceEq, Int.reduceAdd, Int.reduceSub, Int.reduceNeg, Int.reduceMul, Bool.and_self] | split)
  · rename_i h1
    refine ⟨?_, _, rfl⟩
    rw [← hr, scanN_end (by omega), List.map_append]; rfl
  · rename_i h1
    have ht := tokF_gt (s := s) (i := skipF s f) (by omega)
    exact .mk (n, (tokF s (skipF s f)).2, ver + 1, done ++ [⟨(tokF s (skipF s f)).1, f, skipF s f, (tokF s (skipF s f)).2⟩]) ⟨h0, rfl, by simp [up], by simp [tokR], ht.2, by simp; omega, by simp; omega, by rw [← hr, scanN_more (by omega)]; simp⟩ (by simp only; omega)

/-- Tokens that lie in a text, one behind the other. -/
def inText (s : List UInt8) : Nat → List Tok → Prop
  | _, [] => True
  | f, t :: l => t.fr = f ∧ f ≤ t.at_ ∧ t.at_ ≤ t.en ∧ t.en ≤ s.length ∧ (t.at_ = t.en → l = []) ∧ inText s t.en l
theorem scanN_in (s : List UInt8) : ∀ n f, f ≤ s.length → inText s f (scanN s n f)
  | 0, _, _ => trivial
  | n + 1, f, hf => by
    have hk := skipF_le hf
    by_cases h : skipF s f = s.length
    · rw [scanN_end h]; exact ⟨rfl, hk.1, Nat.le_refl _, hk.2, fun _ => rfl, trivial⟩
    · rw [scanN_more h]
      have ht := tokF_gt (s := s) (i := skipF s f) (by omega)
      exact ⟨rfl, hk.1, by simp only; omega, ht.2, fun h => by simp only at h; omega, scanN_in s n _ ht.2⟩
theorem inText_le {s : List UInt8} : ∀ {l : List Tok} {f : Nat}, inText s f l → ∀ t ∈ l, t.fr ≤ t.at_ ∧ t.at_ ≤ t.en ∧ t.en ≤ s.length
  | [], _, _, t, ht => by simp at ht
  | x :: l, f, h, t, ht => by
    obtain ⟨h1, h2, h3, h4, _, h5⟩ := h
    rcases List.mem_cons.1 ht with rfl | ht
    · exact ⟨by omega, h3, h4⟩
    · exact inText_le h5 t ht
theorem inText_length {s : List UInt8} : ∀ {l : List Tok} {f : Nat}, inText s f l → f ≤ s.length → l.length ≤ s.length + 1 - f
  | [], _, _, _ => by simp
  | x :: l, f, h, hf => by
    obtain ⟨h1, h2, h3, h4, h5, h6⟩ := h
    by_cases he : x.at_ = x.en
    · rw [h5 he]; simp; omega
    · have := inText_length h6 h4
      simp only [List.length_cons]; omega
theorem scanF_length (s : List UInt8) : (scanF s).length ≤ s.length + 1 := by
  have := inText_length (scanN_in s (s.length + 1) 0 (Nat.zero_le _)) (Nat.zero_le _)
  unfold scanF; omega
theorem scanF_le (s : List UInt8) : ∀ t ∈ scanF s, t.fr ≤ t.at_ ∧ t.at_ ≤ t.en ∧ t.en ≤ s.length := inText_le (scanN_in s _ 0 (Nat.zero_le _))

theorem toks_getD' {l : List Tok} {j : Nat} (h : j < l.length) : (l.map tokR).getD j [] = tokR (l.getD j ⟨0, 0, 0, 0⟩) := by
  simp [List.getD_eq_getElem?_getD, h]
theorem getD_mem {α : Type} {l : List α} {j : Nat} (h : j < l.length) (d : α) : l.getD j d ∈ l := by
  simp [List.getD_eq_getElem?_getD, h]

theorem fit (s : List UInt8) (l : List Tok) (H : AHeap) (hs : (s.length : Int) < 9223372036854775807) (hl : l.length ≤ 4097) (hin : ∀ t ∈ l, t.fr ≤ t.at_ ∧ t.at_ ≤ t.en ∧ t.en ≤ s.length) : Comp 99 [str s, .sl 4 (l.map tokR)] H (bool true) := by
  refine ACall.drop (R := fun x => x = bool true) ?_
  refine enter Try.func99 L99_ok (Nat.le_of_ble_eq_true rfl) ?_
  repeat' (first | (refine And.intro (by omega) ?_) | simp -implicitDefEqProofs (disch := omega) only [L99, push_cast, ↓reduceIte, Nat.reduceEqDiff, reduceCtorEq, Nat.reduceAdd, Nat.reduceSub, Nat.reduceMul, Nat.reduceLeDiff, Nat.reduceLT, Nat.reduceMod, Nat.reduceDiv, Int.reduceToNat, Int.reduceLT, Int.reduceLE, Int.reduceEq, Int.reduceAdd, Int.reduceSub, Int.reduceNeg, Int.reduceMul, Bool.and_self] | split)
  refine rk_loopS (fun (p : Nat × List HO) e' H' => e' 0 = str s ∧ e' 1 = .sl 4 (l.map tokR) ∧ e' 7 = .sl 4 (l.map tokR) ∧ e' 8 = int l.length ∧ e' 9 = int p.1 ∧ H' = H ++ p.2 ∧ p.1 ≤ l.length) (fun p => l.length - p.1) (0, []) ⟨rfl, rfl, rfl, rfl, rfl, by simp, Nat.zero_le _⟩ ?_
  rintro ⟨j, rest⟩ e' H' ⟨h0, h1, h7, h8, h9, rfl, hj⟩
  simp only at h0 h1 h7 h8 h9 hj
  by_cases hlt : j < l.length
  · have ht := hin _ (getD_mem hlt ⟨0, 0, 0, 0⟩)
    repeat' (first | (refine And.intro (by omega) ?_) | simp -implicitDefEqProofs (disch := omega) only [h0, h1, h7, h8, h9, toks_getD', tokR, push_cast, ↓reduceIte, Nat.reduceEqDiff, reduceCtorEq, Nat.reduceAdd, Nat.reduceSub, Nat.reduceMul, Nat.reduceLeDiff, Nat.reduceLT, Nat.reduceMod, Nat.reduceDiv, Int.reduceToNat, Int.reduceLT, Int.reduceLE, Int.reduceEq, Int.reduceAdd, Int.reduceSub, Int.reduceNeg, Int.reduceMul, Bool.and_self] | split)
    all_goals first
      | omega
      | exact .mk (j + 1, rest ++ [_]) ⟨h0, h1, h7, h8, rfl, rfl, by simp only; omega⟩ (by simp only; omega)
  · repeat' (first | (refine And.intro (by omega) ?_) | simp -implicitDefEqProofs (disch := omega) only [h0, h1, h7, h8, h9, toks_getD', tokR, push_cast, ↓reduceIte, Nat.reduceEqDiff, reduceCtorEq, Nat.reduceAdd, Nat.reduceSub, Nat.reduceMul, Nat.reduceLeDiff, Nat.reduceLT, Nat.reduceMod, Nat.reduceDiv, Int.reduceToNat, Int.reduceLT, Int.reduceLE, Int.reduceEq, Int.reduceAdd, Int.reduceSub, Int.reduceNeg, Int.reduceMul, Bool.and_self] | split)
    · omega
    · refine ⟨?_, rest, rfl⟩
      rw [decide_eq_true (by omega)]

def wordsF (s : List UInt8) (l : List Tok) : List (List UInt8) := l.map fun t => (s.drop t.at_).take (t.en - t.at_)
theorem words_take (l : List Tok) (s : List UInt8) (j : Nat) (h : j < l.length) : strs (wordsF s (l.take j)) ++ [[str ((s.drop (l.getD j ⟨0, 0, 0, 0⟩).at_).take ((l.getD j ⟨0, 0, 0, 0⟩).en - (l.getD j ⟨0, 0, 0, 0⟩).at_))]] = strs (wordsF s (l.take (j + 1))) := by
  rw [List.take_succ_eq_append_getElem h]
  simp only [strs, wordsF, List.map_append, List.map_cons, List.map_nil, List.getD_eq_getElem?_getD, List.getElem?_eq_getElem h, Option.getD_some]
theorem words_len (l : List Tok) (s : List UInt8) (j : Nat) (h : j ≤ l.length) : (strs (wordsF s (l.take j))).length = j := by
  simp [strs, wordsF]; omega
theorem take_all {α : Type} (l : List α) {n : Nat} (h : l.length = n) : l.take n = l := List.take_of_length_le (by omega)

theorem words (s : List UInt8) (l : List Tok) (H : AHeap) (hs : (s.length : Int) < 9223372036854775807) (hl : l.length ≤ 4097) (hin : ∀ t ∈ l, t.fr ≤ t.at_ ∧ t.at_ ≤ t.en ∧ t.en ≤ s.length) : Comp 53 [str s, .sl 4 (l.map tokR)] H (.sl 1 (strs (wordsF s l))) := by
  refine ACall.drop (R := fun x => x = .sl 1 (strs (wordsF s l))) ?_
  refine enter Try.func53 L53_ok (Nat.le_of_ble_eq_true rfl) ?_
  repeat' (first | (refine And.intro (by omega) ?_) | (refine callF_pure (fit _ _ _ hs hl hin) ?_) | (refine callQF_pure (fit _ _ _ hs hl hin) (by first | rfl | simp only [L53, push_cast, ↓reduceIte, Nat.reduceEqDiff]) ?_) | simp -implicitDefEqProofs (disch := omega) only [L53, push_cast, ↓reduceIte, Nat.reduceEqDiff, reduceCtorEq, Nat.reduceAdd, Nat.reduceSub, Nat.reduceMul, Nat.reduceLeDiff, Nat.reduceLT, Nat.reduceMod, Nat.reduceDiv, Int.reduceToNat, Int.reduceLT, Int.reduceLE, Int.reduceEq, Int.reduceAdd, Int.reduceSub, Int.reduceNeg, Int.reduceMul, Bool.and_self] | split)
  refine rk_loopS (fun (p : Nat × Nat × List HO) e' H' => e' 0 = str s ∧ e' 5 = .os H.length p.2.1 0 p.1 ∧ e' 12 = .sl 4 (l.map tokR) ∧ e' 13 = int l.length ∧ e' 14 = int p.1 ∧ H' = H ++ .arr p.2.1 1 (strs (wordsF s (l.take p.1))) :: p.2.2 ∧ p.1 ≤ l.length) (fun p => l.length - p.1) (0, 0, []) ⟨rfl, rfl, rfl, rfl, rfl, by simp [strs, wordsF], Nat.zero_le _⟩ ?_
  rintro ⟨j, ver, rest⟩ e' H' ⟨h0, h5, h12, h13, h14, rfl, hj⟩
  simp only at h0 h5 h12 h13 h14 hj
  have hwl := words_len l s j hj
  by_cases hlt : j < l.length
  · have ht := hin _ (getD_mem hlt ⟨0, 0, 0, 0⟩)
    repeat' (first | (refine And.intro (by omega) ?_) | simp -implicitDefEqProofs (disch := omega) only [h0, h5, h12, h13, h14, toks_getD', tokR, hwl, take_all _ hwl, words_take, push_cast, ↓reduceIte, Nat.reduceEqDiff, reduceCtorEq, Nat.reduceAdd, Nat.reduceSub, Nat.reduceMul, Nat.reduceLeDiff, Nat.reduceLT, Nat.reduceMod, Nat.reduceDiv, Int.reduceToNat, Int.reduceLT, Int.reduceLE, Int.reduceEq, Int.reduceAdd, Int.reduceSub, Int.reduceNeg, Int.reduceMul, Bool.and_self] | split)
    · exact .mk (j + 1, ver + 1, rest ++ [_]) ⟨h0, rfl, h12, h13, rfl, rfl, hlt⟩ (by simp only; omega)
    · omega
  · repeat' (first | (refine And.intro (by omega) ?_) | simp -implicitDefEqProofs (disch := omega) only [h0, h5, h12, h13, h14, toks_getD', tokR, hwl, take_all _ hwl, words_take, push_cast, ↓reduceIte, Nat.reduceEqDiff, reduceCtorEq, Nat.reduceAdd, Nat.reduceSub, Nat.reduceMul, Nat.reduceLeDiff, Nat.reduceLT, Nat.reduceMod, Nat.reduceDiv, Int.reduceToNat, Int.reduceLT, Int.reduceLE, Int.reduceEq, Int.reduceAdd, Int.reduceSub, Int.reduceNeg, Int.reduceMul, Bool.and_self] | split)
    · omega
    · exact ⟨by rw [take_all l (by omega)], _, rfl⟩
end Go.Proofs.Yteidffcimidinaa

/- The lexer's functions, and those of its reference: what each computes. Part 6: names, numbers, spaces. -/
namespace Go.Proofs.Yteidffcimidinaa
open Go Go.Ax
set_option maxRecDepth 100000
set_option linter.unusedSimpArgs false
set_option linter.unusedVariables false

/-- The number that digits are. -/
def numN (n : Nat) (l : List UInt8) : Nat := l.foldl (fun n c => 10 * n + (c.toNat - 48)) n
def isNum (s : List UInt8) : Bool := decide (1 ≤ s.length) && decide (s.length ≤ 9) && s.all isD
def numV (s : List UInt8) : AV := if isNum s = true then .tup [int (numN 0 s), bool true] else .tup [int 0, bool false]
theorem isNum_iff {s : List UInt8} : isNum s = true ↔ 1 ≤ s.length ∧ s.length ≤ 9 ∧ ∀ j, j < s.length → isD (s.getD j 0) = true := by
  simp only [isNum, Bool.and_eq_true, decide_eq_true_eq, List.all_eq_true, and_assoc]
  refine and_congr_right fun _ => and_congr_right fun _ => ⟨fun h j hj => h _ (getD_mem hj 0), fun h x hx => ?_⟩
  obtain ⟨j, hj, rfl⟩ := List.mem_iff_getElem.1 hx
  have := h j hj
  simpa [List.getD_eq_getElem?_getD, hj] using this
theorem numV_no {s : List UInt8} (h : ¬ isNum s = true) : numV s = .tup [int 0, bool false] := if_neg h
theorem numV_yes {s : List UInt8} (h : isNum s = true) : numV s = .tup [int (numN 0 s), bool true] := if_pos h
theorem runF_all {p : UInt8 → Bool} : ∀ {s : List UInt8}, s.length ≤ runF p s 0 → ∀ j, j < s.length → p (s.getD j 0) = true
  | [], _, j, hj => by simp at hj
  | c :: l, h, j, hj => by
    simp only [runF, List.drop_zero, Nat.zero_add, List.takeWhile_cons] at h
    by_cases hc : p c = true
    · rw [if_pos hc] at h
      cases j with
      | zero => simpa using hc
      | succ j => rw [List.getD_cons_succ]; exact runF_all (by simpa [runF] using h) j (by simpa using hj)
    · rw [if_neg hc] at h; simp at h
theorem all_runF {p : UInt8 → Bool} : ∀ {s : List UInt8}, (∀ j, j < s.length → p (s.getD j 0) = true) → runF p s 0 = s.length
  | [], _ => by simp [runF]
  | c :: l, h => by
    have hc : p c = true := h 0 (by simp)
    have := all_runF (s := l) fun j hj => by have := h (j + 1) (by simpa using hj); rwa [List.getD_cons_succ] at this
    simp only [runF, List.drop_zero, Nat.zero_add] at this
    simp [runF, List.takeWhile_cons, hc, this]
theorem numN_cons (n : Nat) (c : UInt8) (l : List UInt8) : numN n (c :: l) = numN (10 * n + (c.toNat - 48)) l := by unfold numN; rw [List.foldl_cons]
theorem numN_step {s : List UInt8} {n j : Nat} (h : j < s.length) : numN (10 * n + ((s.getD j 0).toNat - 48)) (s.drop (j + 1)) = numN n (s.drop j) := by
  have e : s.getD j 0 = s[j] := by simp [List.getD_eq_getElem?_getD, h]
  have e2 : s.drop j = s[j] :: s.drop (j + 1) := List.drop_eq_getElem_cons h
  rw [e, e2, numN_cons]
theorem pow_bound {n j : Nat} (h : n < 10 ^ j) (hj : j ≤ 9) : n < 1000000000 := by
  have h1 : 10 ^ j ≤ 10 ^ 9 := Nat.pow_le_pow_right (by decide) hj
  have h2 : (10 : Nat) ^ 9 = 1000000000 := by simp
  rw [h2] at h1
  exact Nat.lt_of_lt_of_le h h1
theorem int_c {x : AV} {a : Int} {b : Nat} (h : x = int a) (h2 : a = b) : x = int b := h.trans (by rw [h2])
theorem isD_iff {c : UInt8} : isD c = true ↔ 48 ≤ c.toNat ∧ c.toNat ≤ 57 := by simp [isD]

theorem number (s : List UInt8) (H : AHeap) (hs : (s.length : Int) < 9223372036854775807) : Comp 44 [str s] H (numV s) := by
  refine enter Try.func44 L44_ok (Nat.le_of_ble_eq_true rfl) ?_
  repeat' (first | (refine And.intro (by omega) ?_) | (refine callF_pure (run s 0 isD 90 _ (by omega) (by omega) fun c => digit c _) ?_) | (refine callQF_pure (run s 0 isD 90 _ (by omega) (by omega) fun c => digit c _) (by first | rfl | simp only [L44, push_cast, ↓reduceIte, Nat.reduceEqDiff]) ?_) | simp -implicitDefEqProofs (disch := omega) only [L44, push_cast, ↓reduceIte, Nat.reduceEqDiff, reduceCtorEq, Nat.reduceAdd, Nat.reduceSub, Nat.reduceMul, Nat.reduceLeDiff, Nat.reduceLT, Nat.reduceMod, Nat.reduceDiv, Int.reduceToNat, Int.reduceLT, Int.reduceLE, Int.reduceEq, Int.reduceAdd, Int.reduceSub, Int.reduceNeg, Int.reduceMul, Bool.and_self] | split)
  · rw [numV_no]; simp_all [isNum]
  · rw [numV_no]; rw [isNum_iff]; omega
  · rw [numV_no]; rw [isNum_iff]; rintro ⟨_, _, h⟩; have := all_runF h; omega
  · rename_i h1 h2 h3
    have hd : ∀ j, j < s.length → isD (s.getD j 0) = true := runF_all (by omega)
    have hpos : 1 ≤ s.length := by cases s with | nil => exact absurd rfl h1 | cons a l => simp
    rw [numV_yes (isNum_iff.2 ⟨hpos, by omega, hd⟩)]
    refine rk_loopS (fun (p : Nat × Nat) e' H' => e' 4 = int p.2 ∧ e' 22 = .sl 1 (s.map byteRow) ∧ e' 23 = int s.length ∧ e' 24 = int p.1 ∧ H = H' ∧ p.1 ≤ s.length ∧ p.2 < 10 ^ p.1 ∧ numN p.2 (s.drop p.1) = numN 0 s) (fun p => s.length - p.1) (0, 0) ?_ ?_
    · exact ⟨rfl, rfl, rfl, rfl, rfl, Nat.zero_le _, by simp, rfl⟩
    rintro ⟨j, n⟩ e' H' ⟨g4, g22, g23, g24, rfl, hj, hp, hr⟩
    simp only at g4 g22 g23 g24 hj hp hr
    by_cases hlt : j < s.length
    · have hn := pow_bound hp (by omega)
      have hc := isD_iff.1 (hd j hlt)
      have hb := bytes_getD hlt
      rw [Nat.zero_add] at hb
      have hp' : 10 * n + ((s.getD j 0).toNat - 48) < 10 ^ (j + 1) := by rw [Nat.pow_succ]; omega
      repeat' (first | (refine And.intro (by omega) ?_) | simp -implicitDefEqProofs (disch := omega) only [g4, g22, g23, g24, hb, push_cast, ↓reduceIte, Nat.reduceEqDiff, reduceCtorEq, Nat.reduceAdd, Nat.reduceSub, Nat.reduceMul, Nat.reduceLeDiff, Nat.reduceLT, Nat.reduceMod, Nat.reduceDiv, Int.reduceToNat, Int.reduceLT, Int.reduceLE, Int.reduceEq, Int.reduceAdd, Int.reduceSub, Int.reduceNeg, Int.reduceMul, Bool.and_self] | split)
      · exact .mk (j + 1, 10 * n + ((s.getD j 0).toNat - 48)) ⟨int_c rfl (by omega), g22, g23, rfl, rfl, hlt, hp', by simp only; rw [numN_step hlt]; exact hr⟩ (by simp only; omega)
      · omega
    · repeat' (first | (refine And.intro (by omega) ?_) | simp -implicitDefEqProofs (disch := omega) only [g4, g22, g23, g24, push_cast, ↓reduceIte, Nat.reduceEqDiff, reduceCtorEq, Nat.reduceAdd, Nat.reduceSub, Nat.reduceMul, Nat.reduceLeDiff, Nat.reduceLT, Nat.reduceMod, Nat.reduceDiv, Int.reduceToNat, Int.reduceLT, Int.reduceLE, Int.reduceEq, Int.reduceAdd, Int.reduceSub, Int.reduceNeg, Int.reduceMul, Bool.and_self] | split)
      · omega
      · rw [List.drop_eq_nil_of_le (by omega)] at hr
        rw [← hr]; rfl

def isName (s : List UInt8) : Bool := decide (1 ≤ s.length) && decide (s.length ≤ 16) && isL (s.getD 0 0) && !isK s && decide (runF isN s 0 = s.length)
theorem isName_iff {s : List UInt8} : isName s = true ↔ 1 ≤ s.length ∧ s.length ≤ 16 ∧ isL (s.getD 0 0) = true ∧ isK s = false ∧ runF isN s 0 = s.length := by
  simp only [isName, Bool.and_eq_true, decide_eq_true_eq, Bool.not_eq_true', and_assoc]
theorem noName {s : List UInt8} (h : 1 ≤ s.length → s.length ≤ 16 → isL (s.getD 0 0) = true → isK s = false → False) : AV.v (.bool false) = bool (isName s) := by
  rw [show isName s = false from Bool.eq_false_iff.2 fun hh => by rw [isName_iff] at hh; exact h hh.1 hh.2.1 hh.2.2.1 hh.2.2.2.1]

theorem nameR (s : List UInt8) (H : AHeap) (hs : (s.length : Int) < 9223372036854775806) : Comp 8 [str s] H (bool (isName s)) := by
  refine enter Try.func8 L8_ok (Nat.le_of_ble_eq_true rfl) ?_
  by_cases h1 : 1 ≤ s.length
  · by_cases hL : isL (s.getD 0 0) = true
    · repeat' (first | (refine And.intro (by omega) ?_) | (refine callF_pure (tokenR s 0 _ (by omega) h1 (.inl hL)) ?_) | (refine callF_pure (letterR _ _) ?_) | (refine callF_pure (keywordR _ _) ?_) | (refine callQF_pure (tokenR s 0 _ (by omega) h1 (.inl hL)) (by first | rfl | simp only [L8, hL, push_cast, ↓reduceIte, Nat.reduceEqDiff]) ?_) | (refine callQF_pure (letterR _ _) (by first | rfl | simp only [L8, hL, push_cast, ↓reduceIte, Nat.reduceEqDiff]) ?_) | (refine callQF_pure (keywordR _ _) (by first | rfl | simp only [L8, hL, push_cast, ↓reduceIte, Nat.reduceEqDiff]) ?_) | simp -implicitDefEqProofs (disch := omega) only [L8, hL, push_cast, ↓reduceIte, Nat.reduceEqDiff, reduceCtorEq, Nat.reduceAdd, Nat.reduceSub, Nat.reduceMul, Nat.reduceLeDiff, Nat.reduceLT, Nat.reduceMod, Nat.reduceDiv, Int.reduceToNat, Int.reduceLT, Int.reduceLE, Int.reduceEq, Int.reduceAdd, Int.reduceSub, Int.reduceNeg, Int.reduceMul, Bool.and_self] | split)
      all_goals first
        | exact noName fun h1 h2 h3 h4 => by first | omega | (simp_all; done)
        | skip
      refine bool_eq ?_
      rw [isName_iff, decide_eq_true_eq, tokF_L hL]
      exact ⟨fun h => ⟨by omega, by omega, hL, by simpa using ‹¬ isK _ = true›, by simp only at h; omega⟩, fun h => by simp only; omega⟩
    · have hL' := Bool.eq_false_iff.2 hL
      repeat' (first | (refine And.intro (by omega) ?_) | (refine callF_pure (letterR _ _) ?_) | (refine callF_pure (keywordR _ _) ?_) | (refine callQF_pure (letterR _ _) (by first | rfl | simp only [L8, hL', push_cast, ↓reduceIte, Nat.reduceEqDiff]) ?_) | (refine callQF_pure (keywordR _ _) (by first | rfl | simp only [L8, hL', push_cast, ↓reduceIte, Nat.reduceEqDiff]) ?_) | simp -implicitDefEqProofs (disch := omega) only [L8, hL', push_cast, ↓reduceIte, Nat.reduceEqDiff, reduceCtorEq, Nat.reduceAdd, Nat.reduceSub, Nat.reduceMul, Nat.reduceLeDiff, Nat.reduceLT, Nat.reduceMod, Nat.reduceDiv, Int.reduceToNat, Int.reduceLT, Int.reduceLE, Int.reduceEq, Int.reduceAdd, Int.reduceSub, Int.reduceNeg, Int.reduceMul, Bool.and_self] | split)
      all_goals exact noName fun h1 h2 h3 h4 => by first | omega | (simp_all; done)
  · repeat' (first | (refine And.intro (by omega) ?_) | (refine callF_pure (letterR _ _) ?_) | (refine callF_pure (keywordR _ _) ?_) | (refine callQF_pure (letterR _ _) (by first | rfl | simp only [L8, push_cast, ↓reduceIte, Nat.reduceEqDiff]) ?_) | (refine callQF_pure (keywordR _ _) (by first | rfl | simp only [L8, push_cast, ↓reduceIte, Nat.reduceEqDiff]) ?_) | simp -implicitDefEqProofs (disch := omega) only [L8, push_cast, ↓reduceIte, Nat.reduceEqDiff, reduceCtorEq, Nat.reduceAdd, Nat.reduceSub, Nat.reduceMul, Nat.reduceLeDiff, Nat.reduceLT, Nat.reduceMod, Nat.reduceDiv, Int.reduceToNat, Int.reduceLT, Int.reduceLE, Int.reduceEq, Int.reduceAdd, Int.reduceSub, Int.reduceNeg, Int.reduceMul, Bool.and_self] | split)
    · exact noName fun h1 h2 h3 h4 => by omega
    · omega

end Go.Proofs.Yteidffcimidinaa

/- Values: texts that are put together of words and white space, as the lexer sees them. -/
namespace Go.Proofs.Yteidffcimidinaa
open Go Go.Ax
set_option maxRecDepth 100000
set_option linter.unusedSimpArgs false
set_option linter.unusedVariables false

/-- What stands between words: nothing, a space, or a comment. -/
inductive Gap : List UInt8 → Prop
  | no : Gap []
  | sp : Gap [32]
  | co : Gap [32, 35, 32, 99, 10]
/-- A word: a name or keyword, a number, one of six symbols. -/
inductive Wd : List UInt8 → Prop
  | nm {w : List UInt8} : w ≠ [] → isL (w.getD 0 0) = true → (∀ c ∈ w, isN c = true) → Wd w
  | nu {w : List UInt8} : w ≠ [] → (∀ c ∈ w, isD c = true) → Wd w
  | sy {c : UInt8} : c ∈ ([44, 91, 93, 40, 41, 45] : List UInt8) → Wd [c]
def kdW (w : List UInt8) : Nat := if isL (w.getD 0 0) = true then (if isK w = true then 1 else 0) else if isD (w.getD 0 0) = true then 2 else 3
/-- May a text follow a word? -/
def okN (w rest : List UInt8) : Prop := isL (w.getD 0 0) = true ∨ isD (w.getD 0 0) = true → ∀ c r, rest = c :: r → isN c = false
abbrev Pc := List UInt8 × List UInt8
def render : List Pc → List UInt8
  | [] => []
  | (g, w) :: P => g ++ (w ++ render P)
def Chain : List Pc → List UInt8 → Prop
  | [], fin => Gap fin
  | (g, w) :: P, fin => Gap g ∧ Wd w ∧ okN w (render P ++ fin) ∧ Chain P fin

theorem tw_app {p : UInt8 → Bool} : ∀ {w rest : List UInt8}, (∀ c ∈ w, p c = true) → (∀ c r, rest = c :: r → p c = false) → (w ++ rest).takeWhile p = w
  | [], [], _, _ => rfl
  | [], c :: r, _, hr => by simp [List.takeWhile_cons, hr c r rfl]
  | a :: w, rest, hw, hr => by
    rw [List.cons_append, List.takeWhile_cons, hw a (by simp), if_pos rfl, tw_app (fun c hc => hw c (by simp [hc])) hr]
theorem drop_getD {s x : List UInt8} {i : Nat} (h : s.drop i = x) : s.getD i 0 = x.getD 0 0 := by
  rw [← h, getD_drop0]; rfl
theorem wd_ne {w : List UInt8} (h : Wd w) : w ≠ [] := by
  cases h with
  | nm h _ _ => exact h
  | nu h _ => exact h
  | sy _ => simp
theorem wd_head {w : List UInt8} (h : Wd w) (x : List UInt8) : (w ++ x).getD 0 0 = w.getD 0 0 := by
  match w, wd_ne h with
  | c :: w, _ => rfl
theorem isW_L {c : UInt8} (h : isL c = true) : isW c = false ∧ ¬ c.toNat = 35 := by
  simp only [isL, Bool.and_eq_true, decide_eq_true_eq] at h
  refine ⟨?_, by omega⟩
  simp only [isW, Bool.or_eq_false_iff, decide_eq_false_iff_not]
  omega
theorem isW_D {c : UInt8} (h : isD c = true) : isW c = false ∧ ¬ c.toNat = 35 := by
  simp only [isD, Bool.and_eq_true, decide_eq_true_eq] at h
  refine ⟨?_, by omega⟩
  simp only [isW, Bool.or_eq_false_iff, decide_eq_false_iff_not]
  omega
theorem isD_L {c : UInt8} (h : isD c = true) : isL c = false := by
  simp only [isD, Bool.and_eq_true, decide_eq_true_eq] at h
  simp only [isL, Bool.and_eq_false_iff, decide_eq_false_iff_not]
  omega
theorem wd_start {w : List UInt8} (h : Wd w) : isW (w.getD 0 0) = false ∧ ¬ (w.getD 0 0).toNat = 35 := by
  cases h with
  | nm h1 h2 h3 => exact isW_L h2
  | nu h1 h2 =>
    match w, h1 with
    | c :: w, _ => exact isW_D (h2 c (by simp))
  | sy hc =>
    simp only [List.mem_cons, List.not_mem_nil, or_false] at hc
    rcases hc with rfl | rfl | rfl | rfl | rfl | rfl <;> exact ⟨by decide, by decide⟩
theorem skip_gap {g x : List UInt8} (hg : Gap g) (hx : ∀ c r, x = c :: r → isW c = false ∧ ¬ c.toNat = 35) : skipL false (g ++ x) = g.length := by
  have h0 : skipL false x = 0 := by
    cases x with
    | nil => rfl
    | cons c r =>
      obtain ⟨h1, h2⟩ := hx c r rfl
      simp [skipL, h1, h2]
  cases hg with
  | no => simpa using h0
  | sp => simp only [List.cons_append, List.nil_append, skipL, h0]; rfl
  | co => simp only [List.cons_append, List.nil_append, skipL, h0]; rfl
theorem tok_piece {s w rest : List UInt8} {i : Nat} (h : s.drop i = w ++ rest) (hw : Wd w) (hn : okN w rest) : tokF s i = (kdW w, i + w.length) := by
  have h0 : s.getD i 0 = w.getD 0 0 := (drop_getD h).trans (wd_head hw rest)
  have hlen : i < s.length := by
    have h1 := congrArg List.length h
    have h2 := List.length_pos_iff.2 (wd_ne hw)
    simp only [List.length_drop, List.length_append] at h1
    omega
  cases hw with
  | nm h1 h2 h3 =>
    have hr : runF isN s i = i + w.length := by
      unfold runF
      rw [h, tw_app h3 (hn (.inl h2))]
    rw [tokF_L (by rw [h0]; exact h2), hr, h]
    unfold kdW
    rw [if_pos h2, show i + w.length - i = w.length by omega, List.take_left]
  | nu h1 h2 =>
    have hd : isD (w.getD 0 0) = true := by
      match w, h1 with
      | c :: w, _ => exact h2 c (by simp)
    have hl : isL (w.getD 0 0) = false := isD_L hd
    have hr : runF isD s i = i + w.length := by
      unfold runF
      rw [h, tw_app h2 fun c r hc => by
        have := hn (.inr hd) c r hc
        simp only [isN, Bool.or_eq_false_iff] at this
        exact this.1.2]
    rw [tokF_D (by rw [h0, hl]; simp) (by rw [h0]; exact hd), hr]
    unfold kdW
    rw [if_neg (by rw [hl]; simp), if_pos hd]
  | sy hc =>
    rename_i c
    have hc0 : s.getD i 0 = c := h0
    have hs : symF s i = 1 := by
      rw [symF_1 (by
        rintro ⟨_, _, h2⟩
        rw [hc0] at h2
        simp only [List.mem_cons, List.not_mem_nil, or_false] at hc
        rcases hc with rfl | rfl | rfl | rfl | rfl | rfl <;> revert h2 <;> decide), hc0]
      simp only [List.mem_cons, List.not_mem_nil, or_false] at hc
      rcases hc with rfl | rfl | rfl | rfl | rfl | rfl <;> rfl
    have hlc : isL c = false ∧ isD c = false := by
      simp only [List.mem_cons, List.not_mem_nil, or_false] at hc
      rcases hc with rfl | rfl | rfl | rfl | rfl | rfl <;> exact ⟨by decide, by decide⟩
    rw [tokF_S (by rw [hc0, hlc.1]; simp) (by rw [hc0, hlc.2]; simp) (by omega), hs]
    unfold kdW
    rw [if_neg (by simp [hlc.1]), if_neg (by simp [hlc.2])]
    rfl
/-- The kinds and the words of a text. -/
def kwF (s : List UInt8) (l : List Tok) : List (Nat × List UInt8) := l.map fun t => (t.kind, (s.drop t.at_).take (t.en - t.at_))
theorem scan_pieces (s : List UInt8) : ∀ (P : List Pc) (fin : List UInt8) (n f : Nat), s.drop f = render P ++ fin → f ≤ s.length → Chain P fin → P.length < n → kwF s (scanN s n f) = P.map (fun p => (kdW p.2, p.2)) ++ [(5, [])]
  | [], fin, 0, f, _, _, _, hn => by simp at hn
  | [], fin, n + 1, f, h, hf, hc, hn => by
    have hsk : skipF s f = s.length := by
      unfold skipF
      rw [h]
      have := skip_gap (x := []) hc (by simp)
      rw [List.append_nil] at this
      simp only [render, List.nil_append]
      rw [this]
      have h1 := congrArg List.length h
      simp only [render, List.nil_append, List.length_drop] at h1
      omega
    rw [scanN_end hsk]
    simp [kwF]
  | (g, w) :: P, fin, 0, f, _, _, _, hn => by simp at hn
  | (g, w) :: P, fin, n + 1, f, h, hf, ⟨c1, c2, c3, c4⟩, hn => by
    have hst := wd_start c2
    have hwn := List.length_pos_iff.2 (wd_ne c2)
    have hd : s.drop f = g ++ (w ++ (render P ++ fin)) := by rw [h]; simp [render]
    have hsk : skipF s f = f + g.length := by
      unfold skipF
      rw [hd, skip_gap c1 fun c r hcr => by
        have := wd_head c2 (render P ++ fin)
        rw [hcr] at this
        rw [show c = w.getD 0 0 from this]
        exact hst]
    have h1 := congrArg List.length hd
    simp only [List.length_drop, List.length_append] at h1
    have hd2 : s.drop (f + g.length) = w ++ (render P ++ fin) := by
      rw [← List.drop_drop, hd, List.drop_left]
    have hd3 : s.drop (f + g.length + w.length) = render P ++ fin := by
      rw [← List.drop_drop, hd2, List.drop_left]
    rw [scanN_more (by rw [hsk]; omega), hsk, tok_piece hd2 c2 c3]
    simp only [kwF, List.map_cons, List.cons_append]
    congr 1
    · rw [hd2, show f + g.length + w.length - (f + g.length) = w.length by omega, List.take_left]
    · exact scan_pieces s P fin n _ hd3 (by omega) c4 (by simp at hn; omega)
theorem render_len : ∀ {P : List Pc} {fin : List UInt8}, Chain P fin → P.length ≤ (render P).length
  | [], _, _ => Nat.le_refl _
  | (g, w) :: P, fin, ⟨_, c2, _, c4⟩ => by
    have := render_len c4
    have := List.length_pos_iff.2 (wd_ne c2)
    simp only [render, List.length_cons, List.length_append]
    omega
theorem scan_text {P : List Pc} {fin : List UInt8} (hc : Chain P fin) : kwF (render P ++ fin) (scanF (render P ++ fin)) = P.map (fun p => (kdW p.2, p.2)) ++ [(5, [])] := by
  have := render_len hc
  exact scan_pieces _ P fin _ 0 rfl (Nat.zero_le _) hc (by rw [List.length_append]; omega)
end Go.Proofs.Yteidffcimidinaa

/- The functions, lowered. Printed by a program (wip/tools/pl.py). -/
namespace Go.Proofs.Yteidffcimidinaa
open Go Go.Ax
set_option maxRecDepth 100000

/-- assessor_assessorlaw11.ValueReads -/
def L5 : LFn := ⟨86, [(.tmp 8)], (.seq (.ops [⟨(some 5), none, (.box false (.t 1))⟩,
      ⟨(some 8), none, (.mv (.c (.v (.bool false))))⟩])
    (.seq (.seq (.ops [⟨(some 16), none, (.mv (.t 2))⟩,
      ⟨(some 17), none, (.call (.c (.fn (.func 6) [] [])) [(.t 16)])⟩,
      ⟨(some 18), none, (.not (.t 17))⟩,
      ⟨(some 19), none, (.mv (.t 18))⟩,
      ⟨(some 20), (some (19, false)), (.mv (.t 0))⟩,
      ⟨(some 21), (some (19, false)), (.load true 3 (.t 5))⟩,
      ⟨(some 22), (some (19, false)), (.mv (.t 2))⟩,
      ⟨(some 23), (some (19, false)), (.mv (.t 3))⟩,
      ⟨(some 24), (some (19, false)), (.call (.c (.fn (.func 17) [] [])) [(.t 20), (.t 21), (.t 22), (.t 23)])⟩,
      ⟨(some 25), (some (19, false)), (.not (.t 24))⟩,
      ⟨(some 26), none, (.pick (.t 19) (.c (.v (.bool true))) (.t 25))⟩,
      ⟨(some 27), none, (.mv (.t 26))⟩,
      ⟨(some 28), (some (27, false)), (.faddr 0 (.t 5))⟩,
      ⟨(some 29), (some (27, false)), (.load false 1 (.t 28))⟩,
      ⟨(some 30), (some (27, false)), (.bin .int .eql (.t 29) (.c (.v (.int .i64 4))))⟩,
      ⟨(some 31), (some (27, false)), (.mv (.t 30))⟩,
      ⟨(some 32), (some (31, true)), (.faddr 2 (.t 5))⟩,
      ⟨(some 33), (some (31, true)), (.load false 1 (.t 32))⟩,
      ⟨(some 34), (some (31, true)), (.call (.c (.fn (.func 8) [] [])) [(.t 33)])⟩,
      ⟨(some 35), (some (31, true)), (.not (.t 34))⟩,
      ⟨(some 36), (some (27, false)), (.pick (.t 31) (.t 35) (.c (.v (.bool false))))⟩,
      ⟨(some 37), none, (.pick (.t 27) (.c (.v (.bool true))) (.t 36))⟩])
    (.cond (.t 37)
    (.seq (.ops [⟨(some 38), none, (.call (.c (.fn (.func 14) [] [])) [])⟩,
      ⟨(some 8), none, (.mv (.t 38))⟩])
    .ret)
    .skip))
    (.seq (.ops [⟨(some 39), none, (.load true 3 (.t 5))⟩,
      ⟨(some 40), none, (.mv (.t 2))⟩,
      ⟨(some 41), none, (.mv (.t 3))⟩,
      ⟨(some 42), none, (.call (.c (.fn (.func 18) [] [])) [(.t 39), (.t 40), (.t 41)])⟩,
      ⟨(some 9), none, (.mv (.t 42))⟩])
    (.seq (.ops [⟨(some 44), none, (.mv (.t 0))⟩,
      ⟨(some 45), none, (.load true 3 (.t 5))⟩,
      ⟨(some 46), none, (.mv (.t 2))⟩,
      ⟨(some 47), none, (.mv (.t 9))⟩,
      ⟨(some 48), none, (.call (.c (.fn (.func 19) [] [])) [(.t 44), (.t 45), (.t 46), (.t 47)])⟩,
      ⟨(some 43), none, (.mv (.t 48))⟩,
      ⟨(some 49), none, (.ext (.t 43) 0)⟩,
      ⟨(some 50), none, (.ext (.t 43) 1)⟩,
      ⟨(some 10), none, (.mv (.t 49))⟩,
      ⟨(some 11), none, (.mv (.t 50))⟩])
    (.seq (.ops [⟨(some 52), none, (.mv (.t 9))⟩,
      ⟨(some 53), none, (.call (.c (.fn (.func 20) [] [])) [(.t 52)])⟩,
      ⟨(some 51), none, (.mv (.t 53))⟩,
      ⟨(some 54), none, (.ext (.t 51) 0)⟩,
      ⟨(some 55), none, (.ext (.t 51) 1)⟩,
      ⟨(some 12), none, (.mv (.t 54))⟩,
      ⟨(some 13), none, (.mv (.t 55))⟩])
    (.seq (.draw [⟨(some 57), none, (.mv (.t 0))⟩,
      ⟨(some 58), none, (.load true 3 (.t 5))⟩,
      ⟨(some 59), none, (.mv (.t 2))⟩,
      ⟨(some 60), none, (.mv (.t 9))⟩,
      ⟨(some 61), none, (.mv (.t 12))⟩,
      ⟨(some 62), none, (.call (.c (.fn (.func 22) [] [])) [(.t 60), (.t 61)])⟩,
      ⟨(some 63), none, (.call (.c (.fn (.func 21) [] [])) [(.t 62), (.c (.v (.string (mkS [32, 35, 32, 99, 10]))))])⟩,
      ⟨(some 64), none, (.call (.c (.fn (.func 19) [] [])) [(.t 57), (.t 58), (.t 59), (.t 63)])⟩,
      ⟨(some 56), none, (.mv (.t 64))⟩,
      ⟨(some 65), none, (.ext (.t 56) 0)⟩,
      ⟨(some 66), none, (.ext (.t 56) 1)⟩,
      ⟨(some 14), none, (.mv (.t 65))⟩,
      ⟨(some 15), none, (.mv (.t 66))⟩] [])
    (.seq (.ops [⟨(some 67), none, (.mv (.t 11))⟩,
      ⟨(some 68), none, (.bin .int .eql (.t 67) (.c (.v (.int .i64 0))))⟩,
      ⟨(some 69), none, (.mv (.t 68))⟩,
      ⟨(some 70), (some (69, true)), (.mv (.t 10))⟩,
      ⟨(some 71), (some (69, true)), (.mv (.t 3))⟩,
      ⟨(some 72), (some (69, true)), (.call (.c (.fn (.func 23) [] [])) [(.t 70), (.t 71)])⟩,
      ⟨(some 73), none, (.pick (.t 69) (.t 72) (.c (.v (.bool false))))⟩,
      ⟨(some 74), none, (.mv (.t 73))⟩,
      ⟨(some 75), (some (74, true)), (.mv (.t 15))⟩,
      ⟨(some 76), (some (74, true)), (.bin .int .eql (.t 75) (.c (.v (.int .i64 0))))⟩,
      ⟨(some 77), none, (.pick (.t 74) (.t 76) (.c (.v (.bool false))))⟩,
      ⟨(some 78), none, (.mv (.t 77))⟩,
      ⟨(some 79), (some (78, true)), (.mv (.t 14))⟩,
      ⟨(some 80), (some (78, true)), (.mv (.t 3))⟩,
      ⟨(some 81), (some (78, true)), (.call (.c (.fn (.func 23) [] [])) [(.t 79), (.t 80)])⟩,
      ⟨(some 82), none, (.pick (.t 78) (.t 81) (.c (.v (.bool false))))⟩,
      ⟨(some 83), none, (.mv (.t 82))⟩,
      ⟨(some 84), (some (83, true)), (.call (.c (.fn (.func 14) [] [])) [])⟩,
      ⟨(some 85), none, (.pick (.t 83) (.t 84) (.c (.v (.bool false))))⟩,
      ⟨(some 8), none, (.mv (.t 85))⟩])
    .ret)))))))⟩
theorem L5_ok : lowFn Try.prog Try.f5 [] = some L5 := by kernel_rfl

/-- assessor_assessorlaw11.awake -/
def L14 : LFn := ⟨91, [(.tmp 0)], (.seq (.ops [⟨(some 0), none, (.mv (.c (.v (.bool false))))⟩])
    (.seq (.ops [⟨(some 17), none, (.call (.c (.fn (.func 45) [] [])) [(.c (.v (.int .i64 4))), (.c (.v (.string (mkS [47])))), (.c (.v (.int .i64 (-8)))), (.c (.v (.int .i64 (-1))))])⟩,
      ⟨(some 16), none, (.mv (.t 17))⟩,
      ⟨(some 18), none, (.ext (.t 16) 0)⟩,
      ⟨(some 19), none, (.ext (.t 16) 1)⟩,
      ⟨(some 20), none, (.ext (.t 16) 2)⟩,
      ⟨(some 1), none, (.mv (.t 18))⟩,
      ⟨(some 2), none, (.mv (.t 19))⟩,
      ⟨(some 3), none, (.mv (.t 20))⟩])
    (.seq (.ops [⟨(some 22), none, (.call (.c (.fn (.func 45) [] [])) [(.c (.v (.int .i64 4))), (.c (.v (.string (mkS [37])))), (.c (.v (.int .i64 (-8)))), (.c (.v (.int .i64 (-1))))])⟩,
      ⟨(some 21), none, (.mv (.t 22))⟩,
      ⟨(some 23), none, (.ext (.t 21) 0)⟩,
      ⟨(some 24), none, (.ext (.t 21) 1)⟩,
      ⟨(some 25), none, (.ext (.t 21) 2)⟩,
      ⟨(some 4), none, (.mv (.t 23))⟩,
      ⟨(some 5), none, (.mv (.t 24))⟩,
      ⟨(some 6), none, (.mv (.t 25))⟩])
    (.seq (.ops [⟨(some 27), none, (.call (.c (.fn (.func 45) [] [])) [(.c (.v (.int .i64 4))), (.c (.v (.string (mkS [47])))), (.c (.v (.int .i64 (-7)))), (.c (.v (.int .i64 2)))])⟩,
      ⟨(some 26), none, (.mv (.t 27))⟩,
      ⟨(some 28), none, (.ext (.t 26) 0)⟩,
      ⟨(some 29), none, (.ext (.t 26) 1)⟩,
      ⟨(some 30), none, (.ext (.t 26) 2)⟩,
      ⟨(some 7), none, (.mv (.t 28))⟩,
      ⟨(some 8), none, (.mv (.t 29))⟩,
      ⟨(some 9), none, (.mv (.t 30))⟩])
    (.seq (.ops [⟨(some 32), none, (.call (.c (.fn (.func 45) [] [])) [(.c (.v (.int .i64 4))), (.c (.v (.string (mkS [37])))), (.c (.v (.int .i64 (-7)))), (.c (.v (.int .i64 2)))])⟩,
      ⟨(some 31), none, (.mv (.t 32))⟩,
      ⟨(some 33), none, (.ext (.t 31) 0)⟩,
      ⟨(some 34), none, (.ext (.t 31) 1)⟩,
      ⟨(some 35), none, (.ext (.t 31) 2)⟩,
      ⟨(some 10), none, (.mv (.t 33))⟩,
      ⟨(some 11), none, (.mv (.t 34))⟩,
      ⟨(some 12), none, (.mv (.t 35))⟩])
    (.seq (.ops [⟨(some 36), none, (.build [(.v (.int .i64 0)), (.v (.int .i64 0)), (.v (.string (mkS [])))] [(0, (1, (.c (.v (.int .i64 1)))))])⟩,
      ⟨(some 37), none, (.build [(.v (.string (mkS []))), (.v (.int .i64 0)), (.v (.int .i64 0)), (.v (.string (mkS [])))] [(0, (1, (.c (.v (.string (mkS [112, 120])))))), (1, (3, (.t 36)))])⟩,
      ⟨(some 38), none, (.build [(.v (.int .i64 0)), (.v (.int .i64 0)), (.v (.string (mkS [])))] [(0, (1, (.c (.v (.int .i64 2)))))])⟩,
      ⟨(some 39), none, (.build [(.v (.string (mkS []))), (.v (.int .i64 0)), (.v (.int .i64 0)), (.v (.string (mkS [])))] [(0, (1, (.c (.v (.string (mkS [112, 98])))))), (1, (3, (.t 38)))])⟩,
      ⟨(some 40), none, (.bsl true 4 2 [(.v (.string (mkS []))), (.v (.int .i64 0)), (.v (.int .i64 0)), (.v (.string (mkS [])))] [(0, (.t 37)), (1, (.t 39))])⟩,
      ⟨(some 41), none, (.build [(.v (.string (mkS []))), (.v (.slice none 0 0))] [(0, (1, (.c (.v (.string (mkS [112, 111, 105, 110, 116])))))), (1, (1, (.t 40)))])⟩,
      ⟨(some 42), none, (.bsl true 2 1 [(.v (.string (mkS []))), (.v (.slice none 0 0))] [(0, (.t 41))])⟩,
      ⟨(some 13), none, (.mv (.t 42))⟩])
    (.seq (.ops [⟨(some 44), none, (.bsl true 1 2 [(.v (.int .i64 0))] [(0, (.c (.v (.int .i64 0)))), (1, (.c (.v (.int .i64 0))))])⟩,
      ⟨(some 45), none, (.bsl true 1 2 [(.v (.int .i64 0))] [(0, (.c (.v (.int .i64 1)))), (1, (.c (.v (.int .i64 2))))])⟩,
      ⟨(some 46), none, (.bsl true 1 2 [(.v (.int .i64 0))] [(0, (.c (.v (.int .i64 0)))), (1, (.c (.v (.int .i64 2))))])⟩,
      ⟨(some 47), none, (.call (.c (.fn (.func 15) [] [])) [(.t 44), (.t 45), (.t 46)])⟩,
      ⟨(some 43), none, (.mv (.t 47))⟩,
      ⟨(some 48), none, (.ext (.t 43) 0)⟩,
      ⟨(some 49), none, (.ext (.t 43) 1)⟩,
      ⟨(some 14), none, (.mv (.t 48))⟩,
      ⟨(some 15), none, (.mv (.t 49))⟩])
    (.seq (.ops [⟨(some 50), none, (.call (.c (.fn (.func 46) [] [])) [(.c (.v (.int .i64 4))), (.c (.v (.int .i64 9)))])⟩,
      ⟨(some 51), none, (.bin .int .eql (.t 50) (.c (.v (.int .i64 (-7)))))⟩,
      ⟨(some 52), none, (.mv (.t 51))⟩,
      ⟨(some 53), (some (52, true)), (.mv (.t 1))⟩,
      ⟨(some 54), (some (52, true)), (.bin .int .eql (.t 53) (.c (.v (.int .i64 (-8)))))⟩,
      ⟨(some 55), none, (.pick (.t 52) (.t 54) (.c (.v (.bool false))))⟩,
      ⟨(some 56), none, (.mv (.t 55))⟩,
      ⟨(some 57), (some (56, true)), (.mv (.t 2))⟩,
      ⟨(some 58), (some (56, true)), (.bin .int .eql (.t 57) (.c (.v (.int .i64 0))))⟩,
      ⟨(some 59), none, (.pick (.t 56) (.t 58) (.c (.v (.bool false))))⟩,
      ⟨(some 60), none, (.mv (.t 59))⟩,
      ⟨(some 61), (some (60, true)), (.mv (.t 3))⟩,
      ⟨(some 62), (some (60, true)), (.bin .int .eql (.t 61) (.c (.v (.int .i64 0))))⟩,
      ⟨(some 63), none, (.pick (.t 60) (.t 62) (.c (.v (.bool false))))⟩,
      ⟨(some 64), none, (.mv (.t 63))⟩,
      ⟨(some 65), (some (64, true)), (.mv (.t 4))⟩,
      ⟨(some 66), (some (64, true)), (.bin .int .eql (.t 65) (.c (.v (.int .i64 0))))⟩,
      ⟨(some 67), none, (.pick (.t 64) (.t 66) (.c (.v (.bool false))))⟩,
      ⟨(some 68), none, (.mv (.t 67))⟩,
      ⟨(some 69), (some (68, true)), (.mv (.t 7))⟩,
      ⟨(some 70), (some (68, true)), (.bin .int .eql (.t 69) (.c (.v (.int .i64 (-3)))))⟩,
      ⟨(some 71), none, (.pick (.t 68) (.t 70) (.c (.v (.bool false))))⟩,
      ⟨(some 72), none, (.mv (.t 71))⟩,
      ⟨(some 73), (some (72, true)), (.mv (.t 10))⟩,
      ⟨(some 74), (some (72, true)), (.bin .int .eql (.t 73) (.c (.v (.int .i64 (-1)))))⟩,
      ⟨(some 75), none, (.pick (.t 72) (.t 74) (.c (.v (.bool false))))⟩,
      ⟨(some 76), none, (.mv (.t 75))⟩,
      ⟨(some 77), (some (76, true)), (.build [(.v (.int .i64 0)), (.v (.int .i64 0)), (.v (.string (mkS [])))] [(0, (1, (.c (.v (.int .i64 4))))), (2, (1, (.c (.v (.string (mkS [112, 111, 105, 110, 116]))))))])⟩,
      ⟨(some 78), (some (76, true)), (.mv (.t 13))⟩,
      ⟨(some 79), (some (76, true)), (.bsl true 1 2 [(.v (.int .i64 0))] [(0, (.c (.v (.int .i64 1)))), (1, (.c (.v (.int .i64 0))))])⟩,
      ⟨(some 80), (some (76, true)), (.call (.c (.fn (.func 18) [] [])) [(.t 77), (.t 78), (.t 79)])⟩,
      ⟨(some 81), (some (76, true)), (.bin .str .eql (.t 80) (.c (.v (.string (mkS [112, 111, 105, 110, 116, 40, 49, 44, 32, 102, 97, 108, 115, 101, 41])))))⟩,
      ⟨(some 82), none, (.pick (.t 76) (.t 81) (.c (.v (.bool false))))⟩,
      ⟨(some 83), none, (.mv (.t 82))⟩,
      ⟨(some 84), (some (83, true)), (.mv (.t 14))⟩,
      ⟨(some 85), (some (83, true)), (.bsl true 1 2 [(.v (.int .i64 0))] [(0, (.c (.v (.int .i64 1)))), (1, (.c (.v (.int .i64 0))))])⟩,
      ⟨(some 86), (some (83, true)), (.call (.c (.fn (.func 23) [] [])) [(.t 84), (.t 85)])⟩,
      ⟨(some 87), none, (.pick (.t 83) (.t 86) (.c (.v (.bool false))))⟩,
      ⟨(some 88), none, (.mv (.t 87))⟩,
      ⟨(some 89), (some (88, true)), (.mv (.t 15))⟩,
      ⟨(some 90), none, (.pick (.t 88) (.t 89) (.c (.v (.bool false))))⟩,
      ⟨(some 0), none, (.mv (.t 90))⟩])
    .ret))))))))⟩
theorem L14_ok : lowFn Try.prog Try.f14 [⟨5, 6, .imm⟩, ⟨5, 4, .imm⟩, ⟨6, 0, .imm⟩, ⟨6, 1, .imm⟩, ⟨6, 2, .imm⟩, ⟨7, 29, .imm⟩, ⟨7, 35, .imm⟩] = some L14 := by kernel_rfl

/-- assessor_value.Next -/
def L15 : LFn := ⟨79, [(.tmp 6), (.tmp 7)], (.seq (.ops [⟨(some 6), none, (.mv (.c (.v (.slice none 0 0))))⟩,
      ⟨(some 7), none, (.mv (.c (.v (.bool false))))⟩])
    (.seq (.seq (.ops [⟨(some 12), none, (.mv (.t 0))⟩,
      ⟨(some 13), none, (.len .slc (.t 12))⟩,
      ⟨(some 14), none, (.mv (.t 2))⟩,
      ⟨(some 15), none, (.len .slc (.t 14))⟩,
      ⟨(some 16), none, (.bin .int .neq (.t 13) (.t 15))⟩,
      ⟨(some 17), none, (.mv (.t 16))⟩,
      ⟨(some 18), (some (17, false)), (.mv (.t 1))⟩,
      ⟨(some 19), (some (17, false)), (.len .slc (.t 18))⟩,
      ⟨(some 20), (some (17, false)), (.mv (.t 2))⟩,
      ⟨(some 21), (some (17, false)), (.len .slc (.t 20))⟩,
      ⟨(some 22), (some (17, false)), (.bin .int .neq (.t 19) (.t 21))⟩,
      ⟨(some 23), none, (.pick (.t 17) (.c (.v (.bool true))) (.t 22))⟩])
    (.cond (.t 23)
    (.seq (.ops [⟨(some 6), none, (.mv (.c (.v (.slice none 0 0))))⟩,
      ⟨(some 7), none, (.mv (.c (.v (.bool false))))⟩])
    .ret)
    .skip))
    (.seq (.seq (.ops [⟨(some 24), none, (.mv (.t 2))⟩,
      ⟨(some 25), none, (.len .slc (.t 24))⟩,
      ⟨(some 26), none, (.mv (.c (.v (.int .i64 0))))⟩])
    (.block 0 (.loop (.seq (.ops [⟨(some 27), none, (.bin .int .lss (.t 26) (.t 25))⟩])
    (.seq (.cond (.t 27)
    .skip
    (.exit 0))
    (.seq (.block 1 (.seq (.ops [⟨(some 28), none, (.mv (.t 26))⟩,
      ⟨(some 29), none, (.iaddr 1 (.t 24) (.t 26))⟩,
      ⟨(some 30), none, (.load false 1 (.t 29))⟩,
      ⟨(some 8), none, (.mv (.t 28))⟩,
      ⟨(some 9), none, (.mv (.t 30))⟩])
    (.seq (.ops [⟨(some 31), none, (.mv (.t 9))⟩,
      ⟨(some 32), none, (.mv (.t 0))⟩,
      ⟨(some 33), none, (.mv (.t 8))⟩,
      ⟨(some 34), none, (.iaddr 1 (.t 32) (.t 33))⟩,
      ⟨(some 35), none, (.load false 1 (.t 34))⟩,
      ⟨(some 36), none, (.bin .int .lss (.t 31) (.t 35))⟩,
      ⟨(some 37), none, (.mv (.t 36))⟩,
      ⟨(some 38), (some (37, false)), (.mv (.t 9))⟩,
      ⟨(some 39), (some (37, false)), (.mv (.t 1))⟩,
      ⟨(some 40), (some (37, false)), (.mv (.t 8))⟩,
      ⟨(some 41), (some (37, false)), (.iaddr 1 (.t 39) (.t 40))⟩,
      ⟨(some 42), (some (37, false)), (.load false 1 (.t 41))⟩,
      ⟨(some 43), (some (37, false)), (.bin .int .gtr (.t 38) (.t 42))⟩,
      ⟨(some 44), none, (.pick (.t 37) (.c (.v (.bool true))) (.t 43))⟩])
    (.cond (.t 44)
    (.seq (.ops [⟨(some 6), none, (.mv (.c (.v (.slice none 0 0))))⟩,
      ⟨(some 7), none, (.mv (.c (.v (.bool false))))⟩])
    .ret)
    .skip))))
    (.ops [⟨(some 45), none, (.bin .int .add (.t 26) (.c (.v (.int .i64 1))))⟩,
      ⟨(some 26), none, (.mv (.t 45))⟩])))))))
    (.seq (.ops [⟨(some 46), none, (.bsl false 1 0 [(.v (.int .i64 0))] [])⟩,
      ⟨(some 47), none, (.mv (.t 2))⟩,
      ⟨(some 48), none, (.append 1 8 (.t 46) (.t 47))⟩,
      ⟨(some 10), none, (.mv (.t 48))⟩])
    (.seq (.seq (.ops [⟨(some 49), none, (.mv (.t 2))⟩,
      ⟨(some 50), none, (.len .slc (.t 49))⟩,
      ⟨(some 51), none, (.bin .int .sub (.t 50) (.c (.v (.int .i64 1))))⟩,
      ⟨(some 11), none, (.mv (.t 51))⟩])
    (.block 2 (.loop (.seq (.seq (.ops [⟨(some 52), none, (.mv (.t 11))⟩,
      ⟨(some 53), none, (.bin .int .geq (.t 52) (.c (.v (.int .i64 0))))⟩])
    (.cond (.t 53)
    .skip
    (.exit 2)))
    (.seq (.block 3 (.seq (.seq (.draw [⟨(some 56), none, (.mv (.t 10))⟩,
      ⟨(some 57), none, (.mv (.t 11))⟩,
      ⟨(some 58), none, (.iaddr 1 (.t 56) (.t 57))⟩,
      ⟨(some 59), none, (.load false 1 (.t 58))⟩,
      ⟨(some 60), none, (.mv (.t 1))⟩,
      ⟨(some 61), none, (.mv (.t 11))⟩,
      ⟨(some 62), none, (.iaddr 1 (.t 60) (.t 61))⟩,
      ⟨(some 63), none, (.load false 1 (.t 62))⟩,
      ⟨(some 64), none, (.bin .int .lss (.t 59) (.t 63))⟩] [])
    (.cond (.t 64)
    (.seq (.ops [⟨(some 65), none, (.mv (.t 10))⟩,
      ⟨(some 66), none, (.mv (.t 11))⟩,
      ⟨(some 67), none, (.iaddr 1 (.t 65) (.t 66))⟩,
      ⟨(some 68), none, (.load false 1 (.t 67))⟩,
      ⟨(some 69), none, (.bin .int .add (.t 68) (.c (.v (.int .i64 1))))⟩,
      ⟨(some 70), none, (.iaddr 1 (.t 65) (.t 66))⟩,
      ⟨none, none, (.store 1 (.t 70) (.t 69))⟩])
    (.seq (.ops [⟨(some 71), none, (.mv (.t 10))⟩,
      ⟨(some 6), none, (.mv (.t 71))⟩,
      ⟨(some 7), none, (.mv (.c (.v (.bool true))))⟩,
      ⟨(some 6), none, (.frz (.t 6))⟩])
    .ret))
    .skip))
    (.ops [⟨(some 72), none, (.mv (.t 10))⟩,
      ⟨(some 73), none, (.mv (.t 11))⟩,
      ⟨(some 74), none, (.mv (.t 0))⟩,
      ⟨(some 75), none, (.mv (.t 11))⟩,
      ⟨(some 76), none, (.iaddr 1 (.t 74) (.t 75))⟩,
      ⟨(some 77), none, (.load false 1 (.t 76))⟩,
      ⟨(some 78), none, (.iaddr 1 (.t 72) (.t 73))⟩,
      ⟨none, none, (.store 1 (.t 78) (.t 77))⟩])))
    (.ops [⟨(some 54), none, (.mv (.t 11))⟩,
      ⟨(some 55), none, (.bin .int .sub (.t 54) (.c (.v (.int .i64 1))))⟩,
      ⟨(some 11), none, (.mv (.t 55))⟩]))))))
    (.seq (.ops [⟨(some 6), none, (.mv (.c (.v (.slice none 0 0))))⟩,
      ⟨(some 7), none, (.mv (.c (.v (.bool false))))⟩])
    .ret))))))⟩
theorem L15_ok : lowFn Try.prog Try.f15 [⟨15, 3, (.pre 6 (.frz (.t 6)))⟩] = some L15 := by kernel_rfl

/-- assessor_value.Valid -/
def L17 : LFn := ⟨55, [(.tmp 8)], (.seq (.ops [⟨(some 5), none, (.box false (.t 1))⟩,
      ⟨(some 8), none, (.mv (.c (.v (.bool false))))⟩])
    (.seq (.seq (.ops [⟨(some 12), none, (.mv (.t 0))⟩,
      ⟨(some 13), none, (.call (.c (.fn (.func 48) [] [])) [(.t 12)])⟩,
      ⟨(some 14), none, (.not (.t 13))⟩,
      ⟨(some 15), none, (.mv (.t 14))⟩,
      ⟨(some 16), (some (15, false)), (.load true 3 (.t 5))⟩,
      ⟨(some 17), (some (15, false)), (.mv (.t 2))⟩,
      ⟨(some 18), (some (15, false)), (.call (.c (.fn (.func 7) [] [])) [(.t 16), (.t 17)])⟩,
      ⟨(some 19), (some (15, false)), (.not (.t 18))⟩,
      ⟨(some 20), none, (.pick (.t 15) (.c (.v (.bool true))) (.t 19))⟩])
    (.cond (.t 20)
    (.seq (.ops [⟨(some 8), none, (.mv (.c (.v (.bool false))))⟩])
    .ret)
    .skip))
    (.seq (.ops [⟨(some 21), none, (.mv (.t 2))⟩,
      ⟨(some 22), none, (.load true 3 (.t 5))⟩,
      ⟨(some 23), none, (.bsl true 3 1 [(.v (.int .i64 0)), (.v (.int .i64 0)), (.v (.string (mkS [])))] [(0, (.t 22))])⟩,
      ⟨(some 24), none, (.call (.c (.fn (.func 32) [] [])) [(.t 21), (.t 23)])⟩,
      ⟨(some 9), none, (.mv (.t 24))⟩])
    (.seq (.seq (.ops [⟨(some 25), none, (.mv (.t 9))⟩,
      ⟨(some 26), none, (.len .slc (.t 25))⟩,
      ⟨(some 27), none, (.mv (.t 3))⟩,
      ⟨(some 28), none, (.len .slc (.t 27))⟩,
      ⟨(some 29), none, (.bin .int .neq (.t 26) (.t 28))⟩])
    (.cond (.t 29)
    (.seq (.ops [⟨(some 8), none, (.mv (.c (.v (.bool false))))⟩])
    .ret)
    .skip))
    (.seq (.seq (.ops [⟨(some 30), none, (.mv (.t 3))⟩,
      ⟨(some 31), none, (.len .slc (.t 30))⟩,
      ⟨(some 32), none, (.mv (.c (.v (.int .i64 0))))⟩])
    (.block 0 (.loop (.seq (.ops [⟨(some 33), none, (.bin .int .lss (.t 32) (.t 31))⟩])
    (.seq (.cond (.t 33)
    .skip
    (.exit 0))
    (.seq (.block 1 (.seq (.ops [⟨(some 34), none, (.mv (.t 32))⟩,
      ⟨(some 35), none, (.iaddr 1 (.t 30) (.t 32))⟩,
      ⟨(some 36), none, (.load false 1 (.t 35))⟩,
      ⟨(some 10), none, (.mv (.t 34))⟩,
      ⟨(some 11), none, (.mv (.t 36))⟩])
    (.seq (.ops [⟨(some 37), none, (.mv (.t 9))⟩,
      ⟨(some 38), none, (.mv (.t 10))⟩,
      ⟨(some 39), none, (.iaddr 3 (.t 37) (.t 38))⟩,
      ⟨(some 40), none, (.faddr 0 (.t 39))⟩,
      ⟨(some 41), none, (.load false 1 (.t 40))⟩,
      ⟨(some 42), none, (.bin .int .eql (.t 41) (.c (.v (.int .i64 2))))⟩,
      ⟨(some 43), none, (.mv (.t 42))⟩,
      ⟨(some 44), (some (43, true)), (.mv (.t 11))⟩,
      ⟨(some 45), (some (43, true)), (.call (.c (.fn (.func 49) [] [])) [(.t 44)])⟩,
      ⟨(some 46), (some (43, true)), (.not (.t 45))⟩,
      ⟨(some 47), none, (.pick (.t 43) (.t 46) (.c (.v (.bool false))))⟩,
      ⟨(some 48), none, (.mv (.t 47))⟩,
      ⟨(some 49), (some (48, false)), (.mv (.t 0))⟩,
      ⟨(some 50), (some (48, false)), (.mv (.t 11))⟩,
      ⟨(some 51), (some (48, false)), (.call (.c (.fn (.func 50) [] [])) [(.t 49), (.t 50)])⟩,
      ⟨(some 52), (some (48, false)), (.not (.t 51))⟩,
      ⟨(some 53), none, (.pick (.t 48) (.c (.v (.bool true))) (.t 52))⟩])
    (.cond (.t 53)
    (.seq (.ops [⟨(some 8), none, (.mv (.c (.v (.bool false))))⟩])
    .ret)
    .skip))))
    (.ops [⟨(some 54), none, (.bin .int .add (.t 32) (.c (.v (.int .i64 1))))⟩,
      ⟨(some 32), none, (.mv (.t 54))⟩])))))))
    (.seq (.ops [⟨(some 8), none, (.mv (.c (.v (.bool true))))⟩])
    .ret))))))⟩
theorem L17_ok : lowFn Try.prog Try.f17 [⟨3, 2, .imm⟩] = some L17 := by kernel_rfl

/-- assessor_value.Format -/
def L18 : LFn := ⟨74, [(.tmp 6)], (.seq (.ops [⟨(some 3), none, (.box false (.t 0))⟩,
      ⟨(some 6), none, (.mv (.c (.v (.string (mkS [])))))⟩])
    (.seq (.ops [⟨(some 12), none, (.mv (.t 1))⟩,
      ⟨(some 13), none, (.load true 3 (.t 3))⟩,
      ⟨(some 14), none, (.bsl true 3 1 [(.v (.int .i64 0)), (.v (.int .i64 0)), (.v (.string (mkS [])))] [(0, (.t 13))])⟩,
      ⟨(some 15), none, (.call (.c (.fn (.func 32) [] [])) [(.t 12), (.t 14)])⟩,
      ⟨(some 7), none, (.mv (.t 15))⟩])
    (.seq (.seq (.ops [⟨(some 16), none, (.load true 3 (.t 3))⟩,
      ⟨(some 17), none, (.mv (.t 1))⟩,
      ⟨(some 18), none, (.call (.c (.fn (.func 7) [] [])) [(.t 16), (.t 17)])⟩,
      ⟨(some 19), none, (.not (.t 18))⟩,
      ⟨(some 20), none, (.mv (.t 19))⟩,
      ⟨(some 21), (some (20, false)), (.mv (.t 7))⟩,
      ⟨(some 22), (some (20, false)), (.len .slc (.t 21))⟩,
      ⟨(some 23), (some (20, false)), (.mv (.t 2))⟩,
      ⟨(some 24), (some (20, false)), (.len .slc (.t 23))⟩,
      ⟨(some 25), (some (20, false)), (.bin .int .neq (.t 22) (.t 24))⟩,
      ⟨(some 26), none, (.pick (.t 20) (.c (.v (.bool true))) (.t 25))⟩])
    (.cond (.t 26)
    (.seq (.ops [⟨(some 6), none, (.mv (.c (.v (.string (mkS [])))))⟩])
    .ret)
    .skip))
    (.seq (.ops [⟨(some 8), none, (.mv (.c (.v (.slice none 0 0))))⟩,
      ⟨(some 8), none, (.own 1 (.t 8))⟩])
    (.seq (.seq (.ops [⟨(some 27), none, (.mv (.t 2))⟩,
      ⟨(some 28), none, (.len .slc (.t 27))⟩,
      ⟨(some 29), none, (.mv (.c (.v (.int .i64 0))))⟩])
    (.block 0 (.loop (.seq (.ops [⟨(some 30), none, (.bin .int .lss (.t 29) (.t 28))⟩])
    (.seq (.cond (.t 30)
    .skip
    (.exit 0))
    (.seq (.block 1 (.seq (.ops [⟨(some 31), none, (.mv (.t 29))⟩,
      ⟨(some 32), none, (.iaddr 1 (.t 27) (.t 29))⟩,
      ⟨(some 33), none, (.load false 1 (.t 32))⟩,
      ⟨(some 9), none, (.mv (.t 31))⟩,
      ⟨(some 10), none, (.mv (.t 33))⟩])
    (.block 2 (.seq (.ops [⟨(some 38), none, (.mv (.t 7))⟩,
      ⟨(some 39), none, (.mv (.t 9))⟩,
      ⟨(some 40), none, (.iaddr 3 (.t 38) (.t 39))⟩,
      ⟨(some 41), none, (.faddr 0 (.t 40))⟩,
      ⟨(some 42), none, (.load false 1 (.t 41))⟩,
      ⟨(some 43), none, (.bin .int .neq (.t 42) (.c (.v (.int .i64 2))))⟩,
      ⟨(some 37), none, (.mv (.t 43))⟩])
    (.cond (.t 37)
    (.ops [⟨(some 44), none, (.mv (.t 8))⟩,
      ⟨(some 45), none, (.mv (.t 10))⟩,
      ⟨(some 46), none, (.call (.c (.fn (.func 51) [] [])) [(.t 45)])⟩,
      ⟨(some 47), none, (.bsl true 1 1 [(.v (.string (mkS [])))] [(0, (.t 46))])⟩,
      ⟨(some 48), none, (.append 1 16 (.t 44) (.t 47))⟩,
      ⟨(some 8), none, (.mv (.t 48))⟩])
    (.seq (.ops [⟨(some 50), none, (.mv (.t 10))⟩,
      ⟨(some 51), none, (.bin .int .neq (.t 50) (.c (.v (.int .i64 0))))⟩,
      ⟨(some 49), none, (.mv (.t 51))⟩])
    (.cond (.t 49)
    (.ops [⟨(some 52), none, (.mv (.t 8))⟩,
      ⟨(some 53), none, (.bsl true 1 1 [(.v (.string (mkS [])))] [(0, (.c (.v (.string (mkS [116, 114, 117, 101])))))])⟩,
      ⟨(some 54), none, (.append 1 16 (.t 52) (.t 53))⟩,
      ⟨(some 8), none, (.mv (.t 54))⟩])
    (.ops [⟨(some 34), none, (.mv (.t 8))⟩,
      ⟨(some 35), none, (.bsl true 1 1 [(.v (.string (mkS [])))] [(0, (.c (.v (.string (mkS [102, 97, 108, 115, 101])))))])⟩,
      ⟨(some 36), none, (.append 1 16 (.t 34) (.t 35))⟩,
      ⟨(some 8), none, (.mv (.t 36))⟩]))))))))
    (.ops [⟨(some 55), none, (.bin .int .add (.t 29) (.c (.v (.int .i64 1))))⟩,
      ⟨(some 29), none, (.mv (.t 55))⟩])))))))
    (.seq (.ops [⟨(some 8), none, (.frz (.t 8))⟩,
      ⟨(some 56), none, (.mv (.t 8))⟩,
      ⟨(some 57), none, (.call (.c (.fn (.func 21) [] [])) [(.t 56), (.c (.v (.string (mkS [44, 32]))))])⟩,
      ⟨(some 11), none, (.mv (.t 57))⟩])
    (.seq (.seq (.ops [⟨(some 58), none, (.faddr 0 (.t 3))⟩,
      ⟨(some 59), none, (.load false 1 (.t 58))⟩])
    (.block 3 (.seq (.ops [⟨(some 61), none, (.bin .int .eql (.t 59) (.c (.v (.int .i64 3))))⟩,
      ⟨(some 60), none, (.mv (.t 61))⟩])
    (.cond (.t 60)
    (.seq (.ops [⟨(some 62), none, (.mv (.t 11))⟩,
      ⟨(some 63), none, (.bin .str .add (.c (.v (.string (mkS [91])))) (.t 62))⟩,
      ⟨(some 64), none, (.bin .str .add (.t 63) (.c (.v (.string (mkS [93])))))⟩,
      ⟨(some 6), none, (.mv (.t 64))⟩])
    .ret)
    (.seq (.ops [⟨(some 66), none, (.bin .int .eql (.t 59) (.c (.v (.int .i64 4))))⟩,
      ⟨(some 65), none, (.mv (.t 66))⟩])
    (.cond (.t 65)
    (.seq (.ops [⟨(some 67), none, (.faddr 2 (.t 3))⟩,
      ⟨(some 68), none, (.load false 1 (.t 67))⟩,
      ⟨(some 69), none, (.bin .str .add (.t 68) (.c (.v (.string (mkS [40])))))⟩,
      ⟨(some 70), none, (.mv (.t 11))⟩,
      ⟨(some 71), none, (.bin .str .add (.t 69) (.t 70))⟩,
      ⟨(some 72), none, (.bin .str .add (.t 71) (.c (.v (.string (mkS [41])))))⟩,
      ⟨(some 6), none, (.mv (.t 72))⟩])
    .ret)
    .skip))))))
    (.seq (.ops [⟨(some 73), none, (.mv (.t 11))⟩,
      ⟨(some 6), none, (.mv (.t 73))⟩])
    .ret))))))))⟩
theorem L18_ok : lowFn Try.prog Try.f18 [⟨14, 0, (.pre 8 (.frz (.t 8)))⟩, ⟨1, 2, .imm⟩, ⟨10, 3, .imm⟩, ⟨12, 1, .imm⟩, ⟨8, 1, .imm⟩, ⟨4, 1, (.pre 8 (.own 1 (.t 8)))⟩] = some L18 := by kernel_rfl

/-- assessor_value.Parse -/
def L19 : LFn := ⟨111, [(.tmp 8), (.tmp 9)], (.seq (.ops [⟨(some 4), none, (.box false (.t 0))⟩,
      ⟨(some 5), none, (.box false (.t 1))⟩,
      ⟨(some 8), none, (.mv (.c (.v (.slice none 0 0))))⟩,
      ⟨(some 9), none, (.mv (.c (.v (.int .i64 0))))⟩])
    (.seq (.seq (.ops [⟨(some 24), none, (.load false 1 (.t 4))⟩,
      ⟨(some 25), none, (.call (.c (.fn (.func 48) [] [])) [(.t 24)])⟩,
      ⟨(some 26), none, (.not (.t 25))⟩])
    (.cond (.t 26)
    (.seq (.ops [⟨(some 8), none, (.mv (.c (.v (.slice none 0 0))))⟩,
      ⟨(some 9), none, (.mv (.c (.v (.int .i64 2))))⟩])
    .ret)
    .skip))
    (.seq (.seq (.ops [⟨(some 27), none, (.load true 3 (.t 5))⟩,
      ⟨(some 28), none, (.mv (.t 2))⟩,
      ⟨(some 29), none, (.call (.c (.fn (.func 7) [] [])) [(.t 27), (.t 28)])⟩,
      ⟨(some 30), none, (.not (.t 29))⟩])
    (.cond (.t 30)
    (.seq (.ops [⟨(some 8), none, (.mv (.c (.v (.slice none 0 0))))⟩,
      ⟨(some 9), none, (.mv (.c (.v (.int .i64 5))))⟩])
    .ret)
    .skip))
    (.seq (.ops [⟨(some 32), none, (.mv (.t 3))⟩,
      ⟨(some 33), none, (.call (.c (.fn (.func 52) [] [])) [(.t 32)])⟩,
      ⟨(some 31), none, (.mv (.t 33))⟩,
      ⟨(some 34), none, (.ext (.t 31) 0)⟩,
      ⟨(some 35), none, (.ext (.t 31) 1)⟩,
      ⟨(some 10), none, (.alloc [(.v (.slice none 0 0))])⟩,
      ⟨none, none, (.store 1 (.t 10) (.t 34))⟩,
      ⟨(some 11), none, (.mv (.t 35))⟩])
    (.seq (.seq (.ops [⟨(some 36), none, (.mv (.t 11))⟩,
      ⟨(some 37), none, (.bin .int .neq (.t 36) (.c (.v (.int .i64 0))))⟩])
    (.cond (.t 37)
    (.seq (.ops [⟨(some 8), none, (.mv (.c (.v (.slice none 0 0))))⟩,
      ⟨(some 9), none, (.mv (.c (.v (.int .i64 8))))⟩])
    .ret)
    .skip))
    (.seq (.ops [⟨(some 38), none, (.mv (.t 3))⟩,
      ⟨(some 39), none, (.load false 1 (.t 10))⟩,
      ⟨(some 40), none, (.call (.c (.fn (.func 53) [] [])) [(.t 38), (.t 39)])⟩,
      ⟨(some 12), none, (.alloc [(.v (.slice none 0 0))])⟩,
      ⟨none, none, (.store 1 (.t 12) (.t 40))⟩])
    (.seq (.ops [⟨(some 13), none, (.alloc [(.v (.int .i64 0))])⟩,
      ⟨none, none, (.store 1 (.t 13) (.c (.v (.int .i64 0))))⟩])
    (.seq (.ops [⟨(some 41), none, (.mkfn (.func 54) [] [(.t 12), (.t 13), (.t 10)])⟩,
      ⟨(some 14), none, (.alloc [(.v .nilFunc)])⟩,
      ⟨none, none, (.store 1 (.t 14) (.t 41))⟩])
    (.seq (.ops [⟨(some 15), none, (.alloc [(.v (.bool false))])⟩,
      ⟨none, none, (.store 1 (.t 15) (.c (.v (.bool true))))⟩])
    (.seq (.ops [⟨(some 42), none, (.mkfn (.func 55) [] [(.t 14), (.t 12), (.t 13), (.t 15), (.t 4)])⟩,
      ⟨(some 16), none, (.mv (.t 42))⟩])
    (.seq (.ops [⟨(some 17), none, (.mv (.c (.v (.string (mkS [])))))⟩,
      ⟨(some 18), none, (.mv (.c (.v (.string (mkS [])))))⟩])
    (.seq (.seq (.ops [⟨(some 43), none, (.faddr 0 (.t 5))⟩,
      ⟨(some 44), none, (.load false 1 (.t 43))⟩])
    (.block 0 (.seq (.ops [⟨(some 46), none, (.bin .int .eql (.t 44) (.c (.v (.int .i64 3))))⟩,
      ⟨(some 45), none, (.mv (.t 46))⟩])
    (.cond (.t 45)
    (.ops [⟨(some 17), none, (.mv (.c (.v (.string (mkS [91])))))⟩,
      ⟨(some 18), none, (.mv (.c (.v (.string (mkS [93])))))⟩])
    (.seq (.ops [⟨(some 48), none, (.bin .int .eql (.t 44) (.c (.v (.int .i64 4))))⟩,
      ⟨(some 47), none, (.mv (.t 48))⟩])
    (.cond (.t 47)
    (.seq (.ops [⟨(some 17), none, (.mv (.c (.v (.string (mkS [40])))))⟩,
      ⟨(some 18), none, (.mv (.c (.v (.string (mkS [41])))))⟩])
    (.seq (.ops [⟨(some 49), none, (.load false 1 (.t 14))⟩,
      ⟨(some 50), none, (.faddr 2 (.t 5))⟩,
      ⟨(some 51), none, (.load false 1 (.t 50))⟩,
      ⟨(some 52), none, (.call (.t 49) [(.t 51)])⟩,
      ⟨(some 53), none, (.not (.t 52))⟩])
    (.cond (.t 53)
    (.seq (.ops [⟨(some 8), none, (.mv (.c (.v (.slice none 0 0))))⟩,
      ⟨(some 9), none, (.mv (.c (.v (.int .i64 3))))⟩])
    .ret)
    .skip)))
    .skip))))))
    (.seq (.seq (.ops [⟨(some 54), none, (.mv (.t 17))⟩,
      ⟨(some 55), none, (.bin .str .neq (.t 54) (.c (.v (.string (mkS [])))))⟩,
      ⟨(some 56), none, (.mv (.t 55))⟩,
      ⟨(some 57), (some (56, true)), (.load false 1 (.t 14))⟩,
      ⟨(some 58), (some (56, true)), (.mv (.t 17))⟩,
      ⟨(some 59), (some (56, true)), (.call (.t 57) [(.t 58)])⟩,
      ⟨(some 60), (some (56, true)), (.not (.t 59))⟩,
      ⟨(some 61), none, (.pick (.t 56) (.t 60) (.c (.v (.bool false))))⟩])
    (.cond (.t 61)
    (.seq (.ops [⟨(some 8), none, (.mv (.c (.v (.slice none 0 0))))⟩,
      ⟨(some 9), none, (.mv (.c (.v (.int .i64 3))))⟩])
    .ret)
    .skip))
    (.seq (.ops [⟨(some 19), none, (.mv (.c (.v (.slice none 0 0))))⟩,
      ⟨(some 19), none, (.own 1 (.t 19))⟩])
    (.seq (.seq (.ops [⟨(some 62), none, (.mv (.t 2))⟩,
      ⟨(some 63), none, (.load true 3 (.t 5))⟩,
      ⟨(some 64), none, (.bsl true 3 1 [(.v (.int .i64 0)), (.v (.int .i64 0)), (.v (.string (mkS [])))] [(0, (.t 63))])⟩,
      ⟨(some 65), none, (.call (.c (.fn (.func 32) [] [])) [(.t 62), (.t 64)])⟩,
      ⟨(some 66), none, (.len .slc (.t 65))⟩,
      ⟨(some 67), none, (.mv (.c (.v (.int .i64 0))))⟩])
    (.block 1 (.loop (.seq (.ops [⟨(some 68), none, (.bin .int .lss (.t 67) (.t 66))⟩])
    (.seq (.cond (.t 68)
    .skip
    (.exit 1))
    (.seq (.block 2 (.seq (.ops [⟨(some 69), none, (.mv (.t 67))⟩,
      ⟨(some 70), none, (.iaddr 3 (.t 65) (.t 67))⟩,
      ⟨(some 71), none, (.load true 3 (.t 70))⟩,
      ⟨(some 21), none, (.alloc [(.v (.int .i64 0)), (.v (.int .i64 0)), (.v (.string (mkS [])))])⟩,
      ⟨(some 20), none, (.mv (.t 69))⟩,
      ⟨none, none, (.store 3 (.t 21) (.t 71))⟩])
    (.seq (.seq (.ops [⟨(some 72), none, (.mv (.t 20))⟩,
      ⟨(some 73), none, (.bin .int .gtr (.t 72) (.c (.v (.int .i64 0))))⟩,
      ⟨(some 74), none, (.mv (.t 73))⟩,
      ⟨(some 75), (some (74, true)), (.load false 1 (.t 14))⟩,
      ⟨(some 76), (some (74, true)), (.call (.t 75) [(.c (.v (.string (mkS [44]))))])⟩,
      ⟨(some 77), (some (74, true)), (.not (.t 76))⟩,
      ⟨(some 78), none, (.pick (.t 74) (.t 77) (.c (.v (.bool false))))⟩])
    (.cond (.t 78)
    (.seq (.ops [⟨(some 8), none, (.mv (.c (.v (.slice none 0 0))))⟩,
      ⟨(some 9), none, (.mv (.c (.v (.int .i64 3))))⟩])
    .ret)
    .skip))
    (.seq (.ops [⟨(some 80), none, (.mv (.t 16))⟩,
      ⟨(some 81), none, (.load true 3 (.t 21))⟩,
      ⟨(some 82), none, (.call (.t 80) [(.t 81)])⟩,
      ⟨(some 79), none, (.mv (.t 82))⟩,
      ⟨(some 83), none, (.ext (.t 79) 0)⟩,
      ⟨(some 84), none, (.ext (.t 79) 1)⟩,
      ⟨(some 22), none, (.mv (.t 83))⟩,
      ⟨(some 23), none, (.mv (.t 84))⟩])
    (.seq (.seq (.ops [⟨(some 85), none, (.mv (.t 23))⟩,
      ⟨(some 86), none, (.not (.t 85))⟩])
    (.cond (.t 86)
    (.seq (.ops [⟨(some 8), none, (.mv (.c (.v (.slice none 0 0))))⟩,
      ⟨(some 9), none, (.mv (.c (.v (.int .i64 3))))⟩])
    .ret)
    .skip))
    (.ops [⟨(some 87), none, (.mv (.t 19))⟩,
      ⟨(some 88), none, (.mv (.t 22))⟩,
      ⟨(some 89), none, (.bsl true 1 1 [(.v (.int .i64 0))] [(0, (.t 88))])⟩,
      ⟨(some 90), none, (.append 1 8 (.t 87) (.t 89))⟩,
      ⟨(some 19), none, (.mv (.t 90))⟩]))))))
    (.ops [⟨(some 91), none, (.bin .int .add (.t 67) (.c (.v (.int .i64 1))))⟩,
      ⟨(some 67), none, (.mv (.t 91))⟩])))))))
    (.seq (.seq (.ops [⟨(some 92), none, (.mv (.t 18))⟩,
      ⟨(some 93), none, (.bin .str .neq (.t 92) (.c (.v (.string (mkS [])))))⟩,
      ⟨(some 94), none, (.mv (.t 93))⟩,
      ⟨(some 95), (some (94, true)), (.load false 1 (.t 14))⟩,
      ⟨(some 96), (some (94, true)), (.mv (.t 18))⟩,
      ⟨(some 97), (some (94, true)), (.call (.t 95) [(.t 96)])⟩,
      ⟨(some 98), (some (94, true)), (.not (.t 97))⟩,
      ⟨(some 99), none, (.pick (.t 94) (.t 98) (.c (.v (.bool false))))⟩,
      ⟨(some 100), none, (.mv (.t 99))⟩,
      ⟨(some 101), (some (100, false)), (.load false 1 (.t 10))⟩,
      ⟨(some 102), (some (100, false)), (.load false 1 (.t 13))⟩,
      ⟨(some 103), (some (100, false)), (.iaddr 4 (.t 101) (.t 102))⟩,
      ⟨(some 104), (some (100, false)), (.faddr 0 (.t 103))⟩,
      ⟨(some 105), (some (100, false)), (.load false 1 (.t 104))⟩,
      ⟨(some 106), (some (100, false)), (.bin .int .neq (.t 105) (.c (.v (.int .i64 5))))⟩,
      ⟨(some 107), none, (.pick (.t 100) (.c (.v (.bool true))) (.t 106))⟩])
    (.cond (.t 107)
    (.seq (.ops [⟨(some 8), none, (.mv (.c (.v (.slice none 0 0))))⟩,
      ⟨(some 9), none, (.mv (.c (.v (.int .i64 3))))⟩])
    .ret)
    .skip))
    (.seq (.seq (.ops [⟨(some 108), none, (.load false 1 (.t 15))⟩,
      ⟨(some 109), none, (.not (.t 108))⟩])
    (.cond (.t 109)
    (.seq (.ops [⟨(some 8), none, (.mv (.c (.v (.slice none 0 0))))⟩,
      ⟨(some 9), none, (.mv (.c (.v (.int .i64 2))))⟩])
    .ret)
    .skip))
    (.seq (.ops [⟨(some 110), none, (.mv (.t 19))⟩,
      ⟨(some 8), none, (.mv (.t 110))⟩,
      ⟨(some 9), none, (.mv (.c (.v (.int .i64 0))))⟩,
      ⟨(some 8), none, (.frz (.t 8))⟩])
    .ret))))))))))))))))))⟩
theorem L19_ok : lowFn Try.prog Try.f19 [⟨24, 2, .imm⟩, ⟨32, 2, .imm⟩, ⟨38, 3, (.pre 8 (.frz (.t 8)))⟩, ⟨23, 1, (.pre 19 (.own 1 (.t 19)))⟩] = some L19 := by kernel_rfl

/-- assessor_assessorref01.Ints -/
def L23 : LFn := ⟨26, [(.tmp 4)], (.seq (.ops [⟨(some 4), none, (.mv (.c (.v (.bool false))))⟩])
    (.seq (.seq (.ops [⟨(some 6), none, (.mv (.t 0))⟩,
      ⟨(some 7), none, (.len .slc (.t 6))⟩,
      ⟨(some 8), none, (.mv (.t 1))⟩,
      ⟨(some 9), none, (.len .slc (.t 8))⟩,
      ⟨(some 10), none, (.bin .int .neq (.t 7) (.t 9))⟩])
    (.cond (.t 10)
    (.seq (.ops [⟨(some 4), none, (.mv (.c (.v (.bool false))))⟩])
    .ret)
    .skip))
    (.seq (.seq (.ops [⟨(some 5), none, (.mv (.c (.v (.int .i64 0))))⟩])
    (.block 0 (.loop (.seq (.seq (.ops [⟨(some 11), none, (.mv (.t 5))⟩,
      ⟨(some 12), none, (.mv (.t 0))⟩,
      ⟨(some 13), none, (.len .slc (.t 12))⟩,
      ⟨(some 14), none, (.bin .int .lss (.t 11) (.t 13))⟩])
    (.cond (.t 14)
    .skip
    (.exit 0)))
    (.seq (.block 1 (.seq (.draw [⟨(some 17), none, (.mv (.t 0))⟩,
      ⟨(some 18), none, (.mv (.t 5))⟩,
      ⟨(some 19), none, (.iaddr 1 (.t 17) (.t 18))⟩,
      ⟨(some 20), none, (.load false 1 (.t 19))⟩,
      ⟨(some 21), none, (.mv (.t 1))⟩,
      ⟨(some 22), none, (.mv (.t 5))⟩,
      ⟨(some 23), none, (.iaddr 1 (.t 21) (.t 22))⟩,
      ⟨(some 24), none, (.load false 1 (.t 23))⟩,
      ⟨(some 25), none, (.bin .int .neq (.t 20) (.t 24))⟩] [])
    (.cond (.t 25)
    (.seq (.ops [⟨(some 4), none, (.mv (.c (.v (.bool false))))⟩])
    .ret)
    .skip)))
    (.ops [⟨(some 15), none, (.mv (.t 5))⟩,
      ⟨(some 16), none, (.bin .int .add (.t 15) (.c (.v (.int .i64 1))))⟩,
      ⟨(some 5), none, (.mv (.t 16))⟩]))))))
    (.seq (.ops [⟨(some 4), none, (.mv (.c (.v (.bool true))))⟩])
    .ret))))⟩
theorem L23_ok : lowFn Try.prog Try.f23 [] = some L23 := by kernel_rfl

/-- assessor_value.Binary -/
def L45 : LFn := ⟨73, [(.tmp 8), (.tmp 9), (.tmp 10)], (.seq (.ops [⟨(some 8), none, (.mv (.c (.v (.int .i64 0))))⟩,
      ⟨(some 9), none, (.mv (.c (.v (.int .i64 0))))⟩,
      ⟨(some 10), none, (.mv (.c (.v (.int .i64 0))))⟩])
    (.seq (.seq (.ops [⟨(some 15), none, (.mv (.t 0))⟩,
      ⟨(some 16), none, (.call (.c (.fn (.func 48) [] [])) [(.t 15)])⟩,
      ⟨(some 17), none, (.not (.t 16))⟩])
    (.cond (.t 17)
    (.seq (.ops [⟨(some 8), none, (.mv (.c (.v (.int .i64 0))))⟩,
      ⟨(some 9), none, (.mv (.c (.v (.int .i64 0))))⟩,
      ⟨(some 10), none, (.mv (.c (.v (.int .i64 2))))⟩])
    .ret)
    .skip))
    (.seq (.ops [⟨(some 19), none, (.call (.c (.fn (.func 91) [] [])) [])⟩,
      ⟨(some 20), none, (.mv (.t 1))⟩,
      ⟨(some 21), none, (.look .str (.v .nilFunc) true (.t 19) (.t 20))⟩,
      ⟨(some 18), none, (.mv (.t 21))⟩,
      ⟨(some 22), none, (.ext (.t 18) 0)⟩,
      ⟨(some 23), none, (.ext (.t 18) 1)⟩,
      ⟨(some 11), none, (.mv (.t 22))⟩,
      ⟨(some 12), none, (.mv (.t 23))⟩])
    (.seq (.seq (.ops [⟨(some 24), none, (.mv (.t 12))⟩,
      ⟨(some 25), none, (.not (.t 24))⟩])
    (.cond (.t 25)
    (.seq (.ops [⟨(some 8), none, (.mv (.c (.v (.int .i64 0))))⟩,
      ⟨(some 9), none, (.mv (.c (.v (.int .i64 0))))⟩,
      ⟨(some 10), none, (.mv (.c (.v (.int .i64 1))))⟩])
    .ret)
    .skip))
    (.seq (.ops [⟨(some 26), none, (.mv (.t 1))⟩,
      ⟨(some 27), none, (.bin .str .eql (.t 26) (.c (.v (.string (mkS [97, 110, 100])))))⟩,
      ⟨(some 28), none, (.mv (.t 27))⟩,
      ⟨(some 29), (some (28, false)), (.mv (.t 1))⟩,
      ⟨(some 30), (some (28, false)), (.bin .str .eql (.t 29) (.c (.v (.string (mkS [111, 114])))))⟩,
      ⟨(some 31), none, (.pick (.t 28) (.c (.v (.bool true))) (.t 30))⟩,
      ⟨(some 13), none, (.mv (.t 31))⟩])
    (.seq (.seq (.ops [⟨(some 32), none, (.mv (.t 13))⟩,
      ⟨(some 33), none, (.mv (.t 32))⟩,
      ⟨(some 34), (some (33, true)), (.mv (.t 2))⟩,
      ⟨(some 35), (some (33, true)), (.call (.c (.fn (.func 49) [] [])) [(.t 34)])⟩,
      ⟨(some 36), (some (33, true)), (.mv (.t 35))⟩,
      ⟨(some 37), (some (36, true)), (.mv (.t 3))⟩,
      ⟨(some 38), (some (36, true)), (.call (.c (.fn (.func 49) [] [])) [(.t 37)])⟩,
      ⟨(some 39), (some (33, true)), (.pick (.t 36) (.t 38) (.c (.v (.bool false))))⟩,
      ⟨(some 40), (some (33, true)), (.not (.t 39))⟩,
      ⟨(some 41), none, (.pick (.t 33) (.t 40) (.c (.v (.bool false))))⟩,
      ⟨(some 42), none, (.mv (.t 41))⟩,
      ⟨(some 43), (some (42, false)), (.mv (.t 0))⟩,
      ⟨(some 44), (some (42, false)), (.mv (.t 2))⟩,
      ⟨(some 45), (some (42, false)), (.call (.c (.fn (.func 50) [] [])) [(.t 43), (.t 44)])⟩,
      ⟨(some 46), (some (42, false)), (.mv (.t 45))⟩,
      ⟨(some 47), (some (46, true)), (.mv (.t 0))⟩,
      ⟨(some 48), (some (46, true)), (.mv (.t 3))⟩,
      ⟨(some 49), (some (46, true)), (.call (.c (.fn (.func 50) [] [])) [(.t 47), (.t 48)])⟩,
      ⟨(some 50), (some (42, false)), (.pick (.t 46) (.t 49) (.c (.v (.bool false))))⟩,
      ⟨(some 51), (some (42, false)), (.not (.t 50))⟩,
      ⟨(some 52), none, (.pick (.t 42) (.c (.v (.bool true))) (.t 51))⟩])
    (.cond (.t 52)
    (.seq (.ops [⟨(some 8), none, (.mv (.c (.v (.int .i64 0))))⟩,
      ⟨(some 9), none, (.mv (.c (.v (.int .i64 0))))⟩,
      ⟨(some 10), none, (.mv (.c (.v (.int .i64 2))))⟩])
    .ret)
    .skip))
    (.seq (.seq (.ops [⟨(some 53), none, (.mv (.t 3))⟩,
      ⟨(some 54), none, (.bin .int .eql (.t 53) (.c (.v (.int .i64 0))))⟩,
      ⟨(some 55), none, (.mv (.t 54))⟩,
      ⟨(some 56), (some (55, true)), (.mv (.t 1))⟩,
      ⟨(some 57), (some (55, true)), (.bin .str .eql (.t 56) (.c (.v (.string (mkS [47])))))⟩,
      ⟨(some 58), (some (55, true)), (.mv (.t 57))⟩,
      ⟨(some 59), (some (58, false)), (.mv (.t 1))⟩,
      ⟨(some 60), (some (58, false)), (.bin .str .eql (.t 59) (.c (.v (.string (mkS [37])))))⟩,
      ⟨(some 61), (some (55, true)), (.pick (.t 58) (.c (.v (.bool true))) (.t 60))⟩,
      ⟨(some 62), none, (.pick (.t 55) (.t 61) (.c (.v (.bool false))))⟩])
    (.cond (.t 62)
    (.seq (.ops [⟨(some 8), none, (.mv (.c (.v (.int .i64 0))))⟩,
      ⟨(some 9), none, (.mv (.c (.v (.int .i64 1))))⟩,
      ⟨(some 10), none, (.mv (.c (.v (.int .i64 0))))⟩])
    .ret)
    .skip))
    (.seq (.ops [⟨(some 63), none, (.mv (.t 11))⟩,
      ⟨(some 64), none, (.mv (.t 2))⟩,
      ⟨(some 65), none, (.mv (.t 3))⟩,
      ⟨(some 66), none, (.call (.t 63) [(.t 64), (.t 65)])⟩,
      ⟨(some 14), none, (.mv (.t 66))⟩])
    (.seq (.seq (.ops [⟨(some 67), none, (.mv (.t 1))⟩,
      ⟨(some 68), none, (.call (.c (.fn (.func 92) [] [])) [(.c (.v (.string (mkS [43, 45, 42, 47, 37])))), (.t 67)])⟩])
    (.cond (.t 68)
    (.ops [⟨(some 69), none, (.mv (.t 0))⟩,
      ⟨(some 70), none, (.mv (.t 14))⟩,
      ⟨(some 71), none, (.call (.c (.fn (.func 46) [] [])) [(.t 69), (.t 70)])⟩,
      ⟨(some 14), none, (.mv (.t 71))⟩])
    .skip))
    (.seq (.ops [⟨(some 72), none, (.mv (.t 14))⟩,
      ⟨(some 8), none, (.mv (.t 72))⟩,
      ⟨(some 9), none, (.mv (.c (.v (.int .i64 0))))⟩,
      ⟨(some 10), none, (.mv (.c (.v (.int .i64 0))))⟩])
    .ret))))))))))⟩
theorem L45_ok : lowFn Try.prog Try.f45 [] = some L45 := by kernel_rfl

/-- assessor_value.Wrap -/
def L46 : LFn := ⟨16, [(.tmp 4)], (.seq (.ops [⟨(some 4), none, (.mv (.c (.v (.int .i64 0))))⟩])
    (.seq (.seq (.ops [⟨(some 6), none, (.mv (.t 0))⟩,
      ⟨(some 7), none, (.call (.c (.fn (.func 48) [] [])) [(.t 6)])⟩,
      ⟨(some 8), none, (.not (.t 7))⟩])
    (.cond (.t 8)
    (.seq (.ops [⟨(some 4), none, (.mv (.c (.v (.int .i64 0))))⟩])
    .ret)
    .skip))
    (.seq (.ops [⟨(some 9), none, (.mv (.t 0))⟩,
      ⟨(some 10), none, (.bin .int .sub (.c (.v (.int .i64 64))) (.t 9))⟩,
      ⟨(some 5), none, (.mv (.t 10))⟩])
    (.seq (.ops [⟨(some 11), none, (.mv (.t 1))⟩,
      ⟨(some 12), none, (.mv (.t 5))⟩,
      ⟨(some 13), none, (.bin .int .shl (.t 11) (.t 12))⟩,
      ⟨(some 14), none, (.mv (.t 5))⟩,
      ⟨(some 15), none, (.bin .int .shr (.t 13) (.t 14))⟩,
      ⟨(some 4), none, (.mv (.t 15))⟩])
    .ret))))⟩
theorem L46_ok : lowFn Try.prog Try.f46 [] = some L46 := by kernel_rfl

/-- assessor_value.isWidth -/
def L48 : LFn := ⟨9, [(.tmp 2)], (.seq (.ops [⟨(some 2), none, (.mv (.c (.v (.bool false))))⟩])
    (.seq (.ops [⟨(some 3), none, (.mv (.t 0))⟩,
      ⟨(some 4), none, (.bin .int .geq (.t 3) (.c (.v (.int .i64 2))))⟩,
      ⟨(some 5), none, (.mv (.t 4))⟩,
      ⟨(some 6), (some (5, true)), (.mv (.t 0))⟩,
      ⟨(some 7), (some (5, true)), (.bin .int .leq (.t 6) (.c (.v (.int .i64 8))))⟩,
      ⟨(some 8), none, (.pick (.t 5) (.t 7) (.c (.v (.bool false))))⟩,
      ⟨(some 2), none, (.mv (.t 8))⟩])
    .ret))⟩
theorem L48_ok : lowFn Try.prog Try.f48 [] = some L48 := by kernel_rfl

/-- assessor_value.isBool -/
def L49 : LFn := ⟨9, [(.tmp 2)], (.seq (.ops [⟨(some 2), none, (.mv (.c (.v (.bool false))))⟩])
    (.seq (.ops [⟨(some 3), none, (.mv (.t 0))⟩,
      ⟨(some 4), none, (.bin .int .eql (.t 3) (.c (.v (.int .i64 0))))⟩,
      ⟨(some 5), none, (.mv (.t 4))⟩,
      ⟨(some 6), (some (5, false)), (.mv (.t 0))⟩,
      ⟨(some 7), (some (5, false)), (.bin .int .eql (.t 6) (.c (.v (.int .i64 1))))⟩,
      ⟨(some 8), none, (.pick (.t 5) (.c (.v (.bool true))) (.t 7))⟩,
      ⟨(some 2), none, (.mv (.t 8))⟩])
    .ret))⟩
theorem L49_ok : lowFn Try.prog Try.f49 [] = some L49 := by kernel_rfl

/-- assessor_value.isInt -/
def L50 : LFn := ⟨15, [(.tmp 4)], (.seq (.ops [⟨(some 4), none, (.mv (.c (.v (.bool false))))⟩])
    (.seq (.ops [⟨(some 5), none, (.mv (.t 1))⟩,
      ⟨(some 6), none, (.mv (.t 0))⟩,
      ⟨(some 7), none, (.call (.c (.fn (.func 94) [] [])) [(.t 6)])⟩,
      ⟨(some 8), none, (.bin .int .geq (.t 5) (.t 7))⟩,
      ⟨(some 9), none, (.mv (.t 8))⟩,
      ⟨(some 10), (some (9, true)), (.mv (.t 1))⟩,
      ⟨(some 11), (some (9, true)), (.mv (.t 0))⟩,
      ⟨(some 12), (some (9, true)), (.call (.c (.fn (.func 95) [] [])) [(.t 11)])⟩,
      ⟨(some 13), (some (9, true)), (.bin .int .leq (.t 10) (.t 12))⟩,
      ⟨(some 14), none, (.pick (.t 9) (.t 13) (.c (.v (.bool false))))⟩,
      ⟨(some 4), none, (.mv (.t 14))⟩])
    .ret))⟩
theorem L50_ok : lowFn Try.prog Try.f50 [] = some L50 := by kernel_rfl

/-- assessor_value.decimal -/
def L51 : LFn := ⟨15, [(.tmp 2)], (.seq (.ops [⟨(some 2), none, (.mv (.c (.v (.string (mkS [])))))⟩])
    (.seq (.seq (.ops [⟨(some 3), none, (.mv (.t 0))⟩,
      ⟨(some 4), none, (.bin .int .lss (.t 3) (.c (.v (.int .i64 0))))⟩])
    (.cond (.t 4)
    (.seq (.ops [⟨(some 5), none, (.mv (.t 0))⟩,
      ⟨(some 6), none, (.bin .int .add (.t 5) (.c (.v (.int .i64 1))))⟩,
      ⟨(some 7), none, (.neg (.t 6))⟩,
      ⟨(some 8), none, (.conv (.toInt .u64) (.t 7))⟩,
      ⟨(some 9), none, (.bin .int .add (.t 8) (.c (.v (.int .u64 1))))⟩,
      ⟨(some 10), none, (.call (.c (.fn (.func 96) [] [])) [(.t 9)])⟩,
      ⟨(some 11), none, (.bin .str .add (.c (.v (.string (mkS [45])))) (.t 10))⟩,
      ⟨(some 2), none, (.mv (.t 11))⟩])
    .ret)
    .skip))
    (.seq (.ops [⟨(some 12), none, (.mv (.t 0))⟩,
      ⟨(some 13), none, (.conv (.toInt .u64) (.t 12))⟩,
      ⟨(some 14), none, (.call (.c (.fn (.func 96) [] [])) [(.t 13)])⟩,
      ⟨(some 2), none, (.mv (.t 14))⟩])
    .ret)))⟩
theorem L51_ok : lowFn Try.prog Try.f51 [] = some L51 := by kernel_rfl

/-- assessor_value.Parse$1 -/
def L54 : LFn := ⟨22, [(.tmp 5)], (.seq (.ops [⟨(some 5), none, (.mv (.c (.v (.bool false))))⟩])
    (.seq (.seq (.ops [⟨(some 6), none, (.load false 1 (.t 1))⟩,
      ⟨(some 7), none, (.load false 1 (.t 2))⟩,
      ⟨(some 8), none, (.iaddr 1 (.t 6) (.t 7))⟩,
      ⟨(some 9), none, (.load false 1 (.t 8))⟩,
      ⟨(some 10), none, (.mv (.t 0))⟩,
      ⟨(some 11), none, (.bin .str .neq (.t 9) (.t 10))⟩,
      ⟨(some 12), none, (.mv (.t 11))⟩,
      ⟨(some 13), (some (12, false)), (.load false 1 (.t 3))⟩,
      ⟨(some 14), (some (12, false)), (.load false 1 (.t 2))⟩,
      ⟨(some 15), (some (12, false)), (.iaddr 4 (.t 13) (.t 14))⟩,
      ⟨(some 16), (some (12, false)), (.faddr 0 (.t 15))⟩,
      ⟨(some 17), (some (12, false)), (.load false 1 (.t 16))⟩,
      ⟨(some 18), (some (12, false)), (.bin .int .eql (.t 17) (.c (.v (.int .i64 5))))⟩,
      ⟨(some 19), none, (.pick (.t 12) (.c (.v (.bool true))) (.t 18))⟩])
    (.cond (.t 19)
    (.seq (.ops [⟨(some 5), none, (.mv (.c (.v (.bool false))))⟩])
    .ret)
    .skip))
    (.seq (.ops [⟨(some 20), none, (.load false 1 (.t 2))⟩,
      ⟨(some 21), none, (.bin .int .add (.t 20) (.c (.v (.int .i64 1))))⟩,
      ⟨none, none, (.store 1 (.t 2) (.t 21))⟩])
    (.seq (.ops [⟨(some 5), none, (.mv (.c (.v (.bool true))))⟩])
    .ret))))⟩
theorem L54_ok : lowFn Try.prog Try.f54 [] = some L54 := by kernel_rfl

/-- assessor_value.Parse$2 -/
def L55 : LFn := ⟨43, [(.tmp 7), (.tmp 8)], (.seq (.ops [⟨(some 6), none, (.box false (.t 0))⟩,
      ⟨(some 7), none, (.mv (.c (.v (.int .i64 0))))⟩,
      ⟨(some 8), none, (.mv (.c (.v (.bool false))))⟩])
    (.seq (.seq (.ops [⟨(some 12), none, (.faddr 0 (.t 6))⟩,
      ⟨(some 13), none, (.load false 1 (.t 12))⟩,
      ⟨(some 14), none, (.bin .int .eql (.t 13) (.c (.v (.int .i64 2))))⟩])
    (.cond (.t 14)
    (.seq (.seq (.ops [⟨(some 15), none, (.load false 1 (.t 1))⟩,
      ⟨(some 16), none, (.call (.t 15) [(.c (.v (.string (mkS [116, 114, 117, 101]))))])⟩])
    (.cond (.t 16)
    (.seq (.ops [⟨(some 7), none, (.mv (.c (.v (.int .i64 1))))⟩,
      ⟨(some 8), none, (.mv (.c (.v (.bool true))))⟩])
    .ret)
    .skip))
    (.seq (.ops [⟨(some 17), none, (.load false 1 (.t 1))⟩,
      ⟨(some 18), none, (.call (.t 17) [(.c (.v (.string (mkS [102, 97, 108, 115, 101]))))])⟩,
      ⟨(some 7), none, (.mv (.c (.v (.int .i64 0))))⟩,
      ⟨(some 8), none, (.mv (.t 18))⟩])
    .ret))
    .skip))
    (.seq (.ops [⟨(some 19), none, (.load false 1 (.t 1))⟩,
      ⟨(some 20), none, (.call (.t 19) [(.c (.v (.string (mkS [45]))))])⟩,
      ⟨(some 9), none, (.mv (.t 20))⟩])
    (.seq (.ops [⟨(some 22), none, (.load false 1 (.t 2))⟩,
      ⟨(some 23), none, (.load false 1 (.t 3))⟩,
      ⟨(some 24), none, (.iaddr 1 (.t 22) (.t 23))⟩,
      ⟨(some 25), none, (.load false 1 (.t 24))⟩,
      ⟨(some 26), none, (.call (.c (.fn (.func 44) [] [])) [(.t 25)])⟩,
      ⟨(some 21), none, (.mv (.t 26))⟩,
      ⟨(some 27), none, (.ext (.t 21) 0)⟩,
      ⟨(some 28), none, (.ext (.t 21) 1)⟩,
      ⟨(some 10), none, (.mv (.t 27))⟩,
      ⟨(some 11), none, (.mv (.t 28))⟩])
    (.seq (.seq (.ops [⟨(some 29), none, (.mv (.t 11))⟩,
      ⟨(some 30), none, (.not (.t 29))⟩])
    (.cond (.t 30)
    (.seq (.ops [⟨(some 7), none, (.mv (.c (.v (.int .i64 0))))⟩,
      ⟨(some 8), none, (.mv (.c (.v (.bool false))))⟩])
    .ret)
    .skip))
    (.seq (.ops [⟨(some 31), none, (.load false 1 (.t 3))⟩,
      ⟨(some 32), none, (.bin .int .add (.t 31) (.c (.v (.int .i64 1))))⟩,
      ⟨none, none, (.store 1 (.t 3) (.t 32))⟩])
    (.seq (.seq (.ops [⟨(some 33), none, (.mv (.t 9))⟩])
    (.cond (.t 33)
    (.ops [⟨(some 34), none, (.mv (.t 10))⟩,
      ⟨(some 35), none, (.neg (.t 34))⟩,
      ⟨(some 10), none, (.mv (.t 35))⟩])
    .skip))
    (.seq (.ops [⟨(some 36), none, (.load false 1 (.t 4))⟩,
      ⟨(some 37), none, (.mv (.t 36))⟩,
      ⟨(some 38), (some (37, true)), (.load false 1 (.t 5))⟩,
      ⟨(some 39), (some (37, true)), (.mv (.t 10))⟩,
      ⟨(some 40), (some (37, true)), (.call (.c (.fn (.func 50) [] [])) [(.t 38), (.t 39)])⟩,
      ⟨(some 41), none, (.pick (.t 37) (.t 40) (.c (.v (.bool false))))⟩,
      ⟨none, none, (.store 1 (.t 4) (.t 41))⟩])
    (.seq (.ops [⟨(some 42), none, (.mv (.t 10))⟩,
      ⟨(some 7), none, (.mv (.t 42))⟩,
      ⟨(some 8), none, (.mv (.c (.v (.bool true))))⟩])
    .ret)))))))))⟩
theorem L55_ok : lowFn Try.prog Try.f55 [] = some L55 := by kernel_rfl

/-- assessor_value.operators -/
def L91 : LFn := ⟨3, [(.tmp 0)], (.seq (.ops [⟨(some 0), none, (.mv (.c (.v (.map none))))⟩])
    (.seq (.ops [⟨(some 1), none, .mkmap⟩,
      ⟨none, none, (.ins .str (.t 1) (.c (.v (.string (mkS [43])))) (.c (.fn (.func 109) [] [])))⟩,
      ⟨none, none, (.ins .str (.t 1) (.c (.v (.string (mkS [45])))) (.c (.fn (.func 110) [] [])))⟩,
      ⟨none, none, (.ins .str (.t 1) (.c (.v (.string (mkS [42])))) (.c (.fn (.func 111) [] [])))⟩,
      ⟨none, none, (.ins .str (.t 1) (.c (.v (.string (mkS [47])))) (.c (.fn (.func 112) [] [])))⟩,
      ⟨none, none, (.ins .str (.t 1) (.c (.v (.string (mkS [37])))) (.c (.fn (.func 113) [] [])))⟩,
      ⟨none, none, (.ins .str (.t 1) (.c (.v (.string (mkS [61, 61])))) (.c (.fn (.func 114) [] [])))⟩,
      ⟨none, none, (.ins .str (.t 1) (.c (.v (.string (mkS [33, 61])))) (.c (.fn (.func 116) [] [])))⟩,
      ⟨none, none, (.ins .str (.t 1) (.c (.v (.string (mkS [60])))) (.c (.fn (.func 117) [] [])))⟩,
      ⟨none, none, (.ins .str (.t 1) (.c (.v (.string (mkS [60, 61])))) (.c (.fn (.func 118) [] [])))⟩,
      ⟨none, none, (.ins .str (.t 1) (.c (.v (.string (mkS [62])))) (.c (.fn (.func 119) [] [])))⟩,
      ⟨none, none, (.ins .str (.t 1) (.c (.v (.string (mkS [62, 61])))) (.c (.fn (.func 120) [] [])))⟩,
      ⟨none, none, (.ins .str (.t 1) (.c (.v (.string (mkS [97, 110, 100])))) (.c (.fn (.func 121) [] [])))⟩,
      ⟨none, none, (.ins .str (.t 1) (.c (.v (.string (mkS [111, 114])))) (.c (.fn (.func 122) [] [])))⟩,
      ⟨(some 2), none, (.mv (.t 1))⟩,
      ⟨(some 0), none, (.mv (.t 2))⟩,
      ⟨(some 0), none, (.frz (.t 0))⟩])
    .ret))⟩
theorem L91_ok : lowFn Try.prog Try.f91 [⟨1, 16, (.pre 0 (.frz (.t 0)))⟩] = some L91 := by kernel_rfl

/-- assessor_value.Least -/
def L94 : LFn := ⟨9, [(.tmp 2)], (.seq (.ops [⟨(some 2), none, (.mv (.c (.v (.int .i64 0))))⟩])
    (.seq (.seq (.ops [⟨(some 3), none, (.mv (.t 0))⟩,
      ⟨(some 4), none, (.call (.c (.fn (.func 48) [] [])) [(.t 3)])⟩,
      ⟨(some 5), none, (.not (.t 4))⟩])
    (.cond (.t 5)
    (.seq (.ops [⟨(some 2), none, (.mv (.c (.v (.int .i64 0))))⟩])
    .ret)
    .skip))
    (.seq (.ops [⟨(some 6), none, (.mv (.t 0))⟩,
      ⟨(some 7), none, (.bin .int .sub (.t 6) (.c (.v (.int .i64 1))))⟩,
      ⟨(some 8), none, (.bin .int .shl (.c (.v (.int .i64 (-1)))) (.t 7))⟩,
      ⟨(some 2), none, (.mv (.t 8))⟩])
    .ret)))⟩
theorem L94_ok : lowFn Try.prog Try.f94 [] = some L94 := by kernel_rfl

/-- assessor_value.Greatest -/
def L95 : LFn := ⟨10, [(.tmp 2)], (.seq (.ops [⟨(some 2), none, (.mv (.c (.v (.int .i64 0))))⟩])
    (.seq (.seq (.ops [⟨(some 3), none, (.mv (.t 0))⟩,
      ⟨(some 4), none, (.call (.c (.fn (.func 48) [] [])) [(.t 3)])⟩,
      ⟨(some 5), none, (.not (.t 4))⟩])
    (.cond (.t 5)
    (.seq (.ops [⟨(some 2), none, (.mv (.c (.v (.int .i64 0))))⟩])
    .ret)
    .skip))
    (.seq (.ops [⟨(some 6), none, (.mv (.t 0))⟩,
      ⟨(some 7), none, (.bin .int .sub (.t 6) (.c (.v (.int .i64 1))))⟩,
      ⟨(some 8), none, (.bin .int .shl (.c (.v (.int .i64 1))) (.t 7))⟩,
      ⟨(some 9), none, (.bin .int .sub (.t 8) (.c (.v (.int .i64 1))))⟩,
      ⟨(some 2), none, (.mv (.t 9))⟩])
    .ret)))⟩
theorem L95_ok : lowFn Try.prog Try.f95 [] = some L95 := by kernel_rfl

/-- assessor_value.digits -/
def L96 : LFn := ⟨16, [(.tmp 2)], (.seq (.ops [⟨(some 2), none, (.mv (.c (.v (.string (mkS [])))))⟩])
    (.seq (.seq (.ops [⟨(some 3), none, (.mv (.t 0))⟩,
      ⟨(some 4), none, (.bin .int .lss (.t 3) (.c (.v (.int .u64 10))))⟩])
    (.cond (.t 4)
    (.seq (.ops [⟨(some 5), none, (.mv (.t 0))⟩,
      ⟨(some 6), none, (.bin .int .add (.c (.v (.int .u64 48))) (.t 5))⟩,
      ⟨(some 7), none, (.conv (.toInt .i32) (.t 6))⟩,
      ⟨(some 8), none, (.conv .runeStr (.t 7))⟩,
      ⟨(some 2), none, (.mv (.t 8))⟩])
    .ret)
    .skip))
    (.seq (.ops [⟨(some 9), none, (.mv (.t 0))⟩,
      ⟨(some 10), none, (.bin .int .quo (.t 9) (.c (.v (.int .u64 10))))⟩,
      ⟨(some 11), none, (.call (.c (.fn (.func 96) [] [])) [(.t 10)])⟩,
      ⟨(some 12), none, (.mv (.t 0))⟩,
      ⟨(some 13), none, (.bin .int .rem (.t 12) (.c (.v (.int .u64 10))))⟩,
      ⟨(some 14), none, (.call (.c (.fn (.func 96) [] [])) [(.t 13)])⟩,
      ⟨(some 15), none, (.bin .str .add (.t 11) (.t 14))⟩,
      ⟨(some 2), none, (.mv (.t 15))⟩])
    .ret)))⟩
theorem L96_ok : lowFn Try.prog Try.f96 [] = some L96 := by kernel_rfl

/-- assessor_value.operators$4 -/
def L112 : LFn := ⟨8, [(.tmp 4)], (.seq (.ops [⟨(some 4), none, (.mv (.c (.v (.int .i64 0))))⟩])
    (.seq (.ops [⟨(some 5), none, (.mv (.t 0))⟩,
      ⟨(some 6), none, (.mv (.t 1))⟩,
      ⟨(some 7), none, (.bin .int .quo (.t 5) (.t 6))⟩,
      ⟨(some 4), none, (.mv (.t 7))⟩])
    .ret))⟩
theorem L112_ok : lowFn Try.prog Try.f112 [] = some L112 := by kernel_rfl

/-- assessor_value.operators$5 -/
def L113 : LFn := ⟨8, [(.tmp 4)], (.seq (.ops [⟨(some 4), none, (.mv (.c (.v (.int .i64 0))))⟩])
    (.seq (.ops [⟨(some 5), none, (.mv (.t 0))⟩,
      ⟨(some 6), none, (.mv (.t 1))⟩,
      ⟨(some 7), none, (.bin .int .rem (.t 5) (.t 6))⟩,
      ⟨(some 4), none, (.mv (.t 7))⟩])
    .ret))⟩
theorem L113_ok : lowFn Try.prog Try.f113 [] = some L113 := by kernel_rfl

end Go.Proofs.Yteidffcimidinaa

/- The library functions that the laws reach, laid by the kit's tool. -/
namespace Go.Proofs
open Go.Shelf
def Try.lays156_ren : Go.Shelf.Ren := ⟨fun | 156 => 21 | 165 => 57 | 166 => 58 | 169 => 59 | 240 => 100 | 241 => 101 | 276 => 130 | 277 => 131 | n => n, fun | 31 => 54 | 9 => 9 | 3 => 3 | 4 => 4 | 0 => 0 | 20 => 20 | 72 => 108 | 76 => 112 | 70 => 105 | 37 => 106 | 75 => 111 | 127 => 138 | 164 => 146 | 5 => 5 | 80 => 114 | n => n, fun | n => n⟩
theorem Try.lays156 : Go.Proofs.Lays.n156 Try.prog Try.lays156_ren := {
  mixed := by kernel_rfl
  f156 := Try.func21.trans (congrArg some (by kernel_rfl))
  f165 := Try.func57.trans (congrArg some (by kernel_rfl))
  f166 := Try.func58.trans (congrArg some (by kernel_rfl))
  f169 := Try.func59.trans (congrArg some (by kernel_rfl))
  f240 := Try.func100.trans (congrArg some (by kernel_rfl))
  f241 := Try.func101.trans (congrArg some (by kernel_rfl))
  f276 := Try.func130.trans (congrArg some (by kernel_rfl))
  f277 := Try.func131.trans (congrArg some (by kernel_rfl))
  t0 := Try.underlying0
  a0 := Try.isAgg0
  z0 := Try.sizeOf0
  v0 := Try.zeroValue0
  t3 := Try.underlying3
  a3 := Try.isAgg3
  z3 := Try.sizeOf3
  v3 := Try.zeroValue3
  t4 := Try.underlying4
  a4 := Try.isAgg4
  z4 := Try.sizeOf4
  v4 := Try.zeroValue4
  t9 := Try.underlying9
  a9 := Try.isAgg9
  z9 := Try.sizeOf9
  v9 := Try.zeroValue9
  t20 := Try.underlying20
  a20 := Try.isAgg20
  z20 := Try.sizeOf20
  v20 := Try.zeroValue20
  t31 := Try.underlying54
  a31 := Try.isAgg54
  z31 := Try.sizeOf54
  v31 := Try.zeroValue54
  t37 := Try.underlying106
  a37 := Try.isAgg106
  z37 := Try.sizeOf106
  v37 := Try.zeroValue106
  t70 := Try.underlying105
  a70 := Try.isAgg105
  z70 := Try.sizeOf105
  v70 := Try.zeroValue105
  t72 := Try.underlying108
  a72 := Try.isAgg108
  z72 := Try.sizeOf108
  v72 := Try.zeroValue108
  t75 := Try.underlying111
  a75 := Try.isAgg111
  z75 := Try.sizeOf111
  v75 := Try.zeroValue111
  t76 := Try.underlying112
  a76 := Try.isAgg112
  z76 := Try.sizeOf112
  v76 := Try.zeroValue112
  t127 := Try.underlying138
  a127 := Try.isAgg138
  z127 := Try.sizeOf138
  v127 := Try.zeroValue138
  t164 := Try.underlying146
  a164 := Try.isAgg146
  z164 := Try.sizeOf146
  v164 := Try.zeroValue146 }
theorem Try.Builder_Extra_156 : Builder.Extra Try.prog Try.lays156_ren := {
  sizeBuilder := by kernel_rfl
  liesBuilder := by kernel_rfl
  t5 := Try.underlying5
  a5 := Try.isAgg5
  z5 := Try.sizeOf5
  v5 := Try.zeroValue5
  infoByte := by kernel_rfl
  cellsByte := by kernel_rfl
  sizeByte := by kernel_rfl
  neB5 := by decide }
open Go.RowKit in

theorem Try.strings_Join_none (a : Option Addr) (c : Nat) (sep : ByteArray) (w : World) :
    Calls Try.prog 21 #[.slice a 0 c, .string sep] w fun e w' => e = .returned (.string ⟨#[]⟩) ∧ w' = w := Any.strings_Join_none Try.lays156 Try.Builder_Extra_156 a c sep w
open Go.RowKit in

theorem Try.strings_Join (bk o c : Nat) (xs : List ByteArray) (sep : ByteArray) (w : World) (hcells : ∀ (j : Nat) x, xs[j]? = some x → w.cell? ⟨bk, o + j, none⟩ = some (.string x)) (hbk : bk < w.heap.size) (hN : xs.length ≤ 140737488355328) (hcap : xs.length ≤ c) (hlen : (Lib.join (xs.map (·.data.toList)) sep.data.toList).length ≤ 140737488355328) :
    Calls Try.prog 21 #[.slice (some ⟨bk, o, none⟩) xs.length c, .string sep] w fun e w' => e = .returned (.string ⟨(Lib.join (xs.map (·.data.toList)) sep.data.toList).toArray⟩) ∧ Below w.heap.size w w' := Any.strings_Join Try.lays156 Try.Builder_Extra_156 bk o c xs sep w hcells hbk hN hcap hlen
def Try.lays144_ren : Go.Shelf.Ren := ⟨fun | 144 => 92 | 143 => 123 | 219 => 142 | 217 => 148 | 225 => 149 | 224 => 150 | 267 => 151 | 266 => 153 | 314 => 154 | n => n, fun | 9 => 9 | 4 => 4 | 3 => 3 | 5 => 5 | 46 => 137 | 146 => 150 | 51 => 149 | n => n, fun | 1 => 0 | n => n⟩
theorem Try.lays144 : Go.Proofs.Lays.n144 Try.prog Try.lays144_ren := {
  mixed := by kernel_rfl
  f143 := Try.func123.trans (congrArg some (by kernel_rfl))
  f144 := Try.func92.trans (congrArg some (by kernel_rfl))
  f217 := Try.func148.trans (congrArg some (by kernel_rfl))
  f219 := Try.func142.trans (congrArg some (by kernel_rfl))
  f224 := Try.func150.trans (congrArg some (by kernel_rfl))
  f225 := Try.func149.trans (congrArg some (by kernel_rfl))
  f266 := Try.func153.trans (congrArg some (by kernel_rfl))
  f267 := Try.func151.trans (congrArg some (by kernel_rfl))
  f314 := Try.func154.trans (congrArg some (by kernel_rfl))
  t3 := Try.underlying3
  a3 := Try.isAgg3
  z3 := Try.sizeOf3
  v3 := Try.zeroValue3
  t4 := Try.underlying4
  a4 := Try.isAgg4
  z4 := Try.sizeOf4
  v4 := Try.zeroValue4
  t5 := Try.underlying5
  a5 := Try.isAgg5
  z5 := Try.sizeOf5
  v5 := Try.zeroValue5
  t9 := Try.underlying9
  a9 := Try.isAgg9
  z9 := Try.sizeOf9
  v9 := Try.zeroValue9
  t46 := Try.underlying137
  a46 := Try.isAgg137
  z46 := Try.sizeOf137
  v46 := Try.zeroValue137
  t51 := Try.underlying149
  a51 := Try.isAgg149
  z51 := Try.sizeOf149
  v51 := Try.zeroValue149
  t146 := Try.underlying150
  a146 := Try.isAgg150
  z146 := Try.sizeOf150
  v146 := Try.zeroValue150
  g1 := by kernel_rfl }
open Go.RowKit Go.Lib in

theorem Try.strings_Contains (s sub : ByteArray) (m : Int) (w : World) (hs : s.size < 4294967281) (hm : w.cell? ⟨0, 0, none⟩ = some (.int .i64 m)) :
    Calls Try.prog 92 #[.string s, .string sub] w fun e w' => e = .returned (.bool (Lib.contains s.data.toList sub.data.toList)) ∧ w' = w := Any.strings_Contains Try.lays144 s sub m w hs hm
end Go.Proofs

/- The library's functions, met by the contracts of the shelf, as calls over values without addresses: strings.Contains, strings.Join. -/
namespace Go.Proofs.Yteidffcimidinaa
open Go Go.Ax Go.RowKit
set_option maxRecDepth 100000
set_option linter.unusedSimpArgs false
set_option linter.unusedVariables false

theorem repL_two {w : World} {M : Nat → Prop} {ρ : Nat → Ax.Loc} {n : Nat} {x y : AV} {vs : Array Value} (h : RepL w M ρ n [x, y] vs) : ∃ a b, vs = #[a, b] ∧ Rep w M ρ n x a ∧ Rep w M ρ n y b := by
  obtain ⟨h1, h2⟩ := h
  match vs, h1 with
  | ⟨[a, b]⟩, _ => exact ⟨a, b, rfl, h2 0 x a rfl rfl, h2 1 y b rfl rfl⟩

theorem bs_mkS (l : List UInt8) : (mkS l).data.toList = l := rfl
theorem size_mkS (l : List UInt8) : (mkS l).size = l.length := rfl

theorem containsC (s p : List UInt8) (hs : s.length < 4294967281) (H : AHeap) : ACall Try.prog 92 [str s, str p] H fun x H' => x = bool (Lib.contains s p) ∧ H' = H := by
  refine ⟨⟨_, Try.func92, by kernel_rfl, by kernel_rfl⟩, fun X ρ w vs hrel hargs => ?_⟩
  obtain ⟨a, b, rfl, ha, hb⟩ := repL_two hargs
  have ha := rep_vx ha
  have hb := rep_vx hb
  subst ha
  subst hb
  obtain ⟨-, m, hm⟩ := hrel.gl 0 (by simp [glbs])
  refine (Try.strings_Contains (mkS s) (mkS p) m w (by rw [size_mkS]; exact hs) hm).mono ?_
  rintro e w' ⟨rfl, rfl⟩
  exact ⟨_, _, H, ρ, rfl, ⟨rfl, rfl⟩, hrel, .v _ _, Fut.refl _ _ _⟩

theorem joinC (xs : List (List UInt8)) (sep : List UInt8) (hn : xs.length ≤ 140737488355328) (hl : (Lib.join xs sep).length ≤ 140737488355328) (H : AHeap) :
    ACall Try.prog 21 [.sl 1 (xs.map fun x => [str x]), str sep] H fun x H' => x = str (Lib.join xs sep) ∧ H' = H := by
  refine ⟨⟨_, Try.func21, by kernel_rfl, by kernel_rfl⟩, fun X ρ w vs hrel hargs => ?_⟩
  obtain ⟨a, b, rfl, ha, hb⟩ := repL_two hargs
  have hb := rep_vx hb
  subst hb
  cases xs with
  | nil =>
    simp only [List.map_nil] at ha
    have : ∃ ad cap, a = .slice ad 0 cap := by
      cases ha with
      | slE => exact ⟨_, _, rfl⟩
      | slN => exact ⟨_, _, rfl⟩
    obtain ⟨ad, cap, rfl⟩ := this
    refine (Try.strings_Join_none ad cap (mkS sep) w).mono ?_
    rintro e w' ⟨rfl, rfl⟩
    exact ⟨_, _, H, ρ, rfl, ⟨rfl, rfl⟩, hrel, .v _ _, Fut.refl _ _ _⟩
  | cons x0 xr =>
    generalize hxs : x0 :: xr = xs at *
    have hne : xs.map (fun x => [str x]) ≠ [] := by rw [← hxs]; simp
    generalize hys : xs.map (fun x => [str x]) = ys at *
    cases ha with
    | slE => exact absurd rfl hne
    | slN _ _ _ b o cap c hm hb hcap hsz hcell hrep =>
      have hlen : ys.length = xs.length := by rw [← hys]; simp
      have hmm : (xs.map mkS).map (fun x => x.data.toList) = xs := by simp [Function.comp_def, bs_mkS]
      have hcells : ∀ (j : Nat) x, (xs.map mkS)[j]? = some x → w.cell? ⟨b, o + j, none⟩ = some (.string x) := by
        intro j x hx
        simp only [List.getElem?_map, Option.map_eq_some_iff] at hx
        obtain ⟨y, hy, rfl⟩ := hx
        have hyj : ys[j]? = some [str y] := by rw [← hys]; simp [hy]
        have h1 := hcell j 0 _ (str y) hyj rfl
        have h2 := rep_vx (hrep j 0 _ (str y) hyj rfl)
        simp only [Nat.mul_one, Nat.add_zero] at h1
        rw [h1.1, h2]
      have := Try.strings_Join b o cap (xs.map mkS) (mkS sep) w hcells hb (by simpa using hn) (by simp; omega) (by rw [hmm]; exact hl)
      rw [hmm, List.length_map, ← hlen] at this
      refine this.mono ?_
      rintro e w' ⟨rfl, hbel⟩
      obtain ⟨f1, f2⟩ := hrel.more ⟨hbel.os, hbel.tape, hbel.output, hbel.size⟩ hbel.block
      exact ⟨_, _, H, ρ, rfl, ⟨rfl, rfl⟩, f1, .v _ _, f2⟩
end Go.Proofs.Yteidffcimidinaa

/- The functions, lowered. Printed by a program (wip/tools/pl.py). -/
namespace Go.Proofs.Yteidffcimidinaa
open Go Go.Ax
set_option maxRecDepth 100000

/-- assessor_assessorref08.Few -/
def L6 : LFn := ⟨20, [(.tmp 2)], (.seq (.ops [⟨(some 2), none, (.mv (.c (.v (.bool false))))⟩])
    (.seq (.seq (.ops [⟨(some 3), none, (.mv (.c (.v (.int .i64 0))))⟩])
    (.block 0 (.loop (.seq (.seq (.ops [⟨(some 4), none, (.mv (.t 3))⟩,
      ⟨(some 5), none, (.mv (.t 0))⟩,
      ⟨(some 6), none, (.len .slc (.t 5))⟩,
      ⟨(some 7), none, (.bin .int .lss (.t 4) (.t 6))⟩])
    (.cond (.t 7)
    .skip
    (.exit 0)))
    (.seq (.block 1 (.seq (.ops [⟨(some 10), none, (.mv (.t 0))⟩,
      ⟨(some 11), none, (.mv (.t 3))⟩,
      ⟨(some 12), none, (.iaddr 2 (.t 10) (.t 11))⟩,
      ⟨(some 13), none, (.faddr 1 (.t 12))⟩,
      ⟨(some 14), none, (.load false 1 (.t 13))⟩,
      ⟨(some 15), none, (.len .slc (.t 14))⟩,
      ⟨(some 16), none, (.bin .int .gtr (.t 15) (.c (.v (.int .i64 20))))⟩])
    (.cond (.t 16)
    (.seq (.ops [⟨(some 2), none, (.mv (.c (.v (.bool false))))⟩])
    .ret)
    .skip)))
    (.ops [⟨(some 8), none, (.mv (.t 3))⟩,
      ⟨(some 9), none, (.bin .int .add (.t 8) (.c (.v (.int .i64 1))))⟩,
      ⟨(some 3), none, (.mv (.t 9))⟩]))))))
    (.seq (.ops [⟨(some 17), none, (.mv (.t 0))⟩,
      ⟨(some 18), none, (.len .slc (.t 17))⟩,
      ⟨(some 19), none, (.bin .int .leq (.t 18) (.c (.v (.int .i64 20))))⟩,
      ⟨(some 2), none, (.mv (.t 19))⟩])
    .ret)))⟩
theorem L6_ok : lowFn Try.prog Try.f6 [] = some L6 := by kernel_rfl

/-- assessor_types.Valid -/
def L7 : LFn := ⟨22, [(.tmp 4)], (.seq (.ops [⟨(some 2), none, (.box false (.t 0))⟩,
      ⟨(some 4), none, (.mv (.c (.v (.bool false))))⟩])
    (.seq (.draw [⟨(some 8), none, (.call (.c (.fn (.func 24) [] [])) [])⟩,
      ⟨(some 9), none, (.faddr 0 (.t 2))⟩,
      ⟨(some 10), none, (.load false 1 (.t 9))⟩,
      ⟨(some 11), none, (.look .int (.agg [(.v .nilFunc), (.v .nilFunc)]) true (.t 8) (.t 10))⟩,
      ⟨(some 7), none, (.mv (.t 11))⟩,
      ⟨(some 12), none, (.ext (.t 7) 0)⟩,
      ⟨(some 13), none, (.ext (.t 7) 1)⟩] [⟨(some 5), none, (.alloc [(.v .nilFunc), (.v .nilFunc)])⟩,
      ⟨none, none, (.store 2 (.t 5) (.t 12))⟩,
      ⟨(some 6), none, (.mv (.t 13))⟩])
    (.seq (.ops [⟨(some 14), none, (.mv (.t 6))⟩,
      ⟨(some 15), none, (.mv (.t 14))⟩,
      ⟨(some 16), (some (15, true)), (.faddr 0 (.t 5))⟩,
      ⟨(some 17), (some (15, true)), (.load false 1 (.t 16))⟩,
      ⟨(some 18), (some (15, true)), (.load true 3 (.t 2))⟩,
      ⟨(some 19), (some (15, true)), (.mv (.t 1))⟩,
      ⟨(some 20), (some (15, true)), (.call (.t 17) [(.t 18), (.t 19)])⟩,
      ⟨(some 21), none, (.pick (.t 15) (.t 20) (.c (.v (.bool false))))⟩,
      ⟨(some 4), none, (.mv (.t 21))⟩])
    .ret)))⟩
theorem L7_ok : lowFn Try.prog Try.f7 [⟨1, 7, .tail⟩] = some L7 := by kernel_rfl

/-- assessor_types.shapes -/
def L24 : LFn := ⟨13, [(.tmp 0)], (.seq (.ops [⟨(some 0), none, (.mv (.c (.v (.map none))))⟩])
    (.seq (.ops [⟨(some 1), none, (.mv (.c (.fn (.func 61) [] [])))⟩])
    (.seq (.ops [⟨(some 2), none, (.mv (.c (.fn (.func 62) [] [])))⟩])
    (.seq (.ops [⟨(some 3), none, .mkmap⟩,
      ⟨(some 4), none, (.mv (.t 1))⟩,
      ⟨(some 5), none, (.mv (.t 2))⟩,
      ⟨(some 6), none, (.build [(.v .nilFunc), (.v .nilFunc)] [(0, (1, (.t 4))), (1, (1, (.t 5)))])⟩,
      ⟨none, none, (.ins .int (.t 3) (.c (.v (.int .i64 1))) (.t 6))⟩,
      ⟨(some 7), none, (.mv (.t 1))⟩,
      ⟨(some 8), none, (.mv (.t 2))⟩,
      ⟨(some 9), none, (.build [(.v .nilFunc), (.v .nilFunc)] [(0, (1, (.t 7))), (1, (1, (.t 8)))])⟩,
      ⟨none, none, (.ins .int (.t 3) (.c (.v (.int .i64 2))) (.t 9))⟩,
      ⟨(some 10), none, (.build [(.v .nilFunc), (.v .nilFunc)] [(0, (1, (.c (.fn (.func 63) [] [])))), (1, (1, (.c (.fn (.func 64) [] []))))])⟩,
      ⟨none, none, (.ins .int (.t 3) (.c (.v (.int .i64 3))) (.t 10))⟩,
      ⟨(some 11), none, (.build [(.v .nilFunc), (.v .nilFunc)] [(0, (1, (.c (.fn (.func 66) [] [])))), (1, (1, (.c (.fn (.func 68) [] []))))])⟩,
      ⟨none, none, (.ins .int (.t 3) (.c (.v (.int .i64 4))) (.t 11))⟩,
      ⟨(some 12), none, (.mv (.t 3))⟩,
      ⟨(some 0), none, (.mv (.t 12))⟩,
      ⟨(some 0), none, (.frz (.t 0))⟩])
    .ret))))⟩
theorem L24_ok : lowFn Try.prog Try.f24 [⟨3, 15, (.pre 0 (.frz (.t 0)))⟩] = some L24 := by kernel_rfl

/-- assessor_types.Scalars -/
def L32 : LFn := ⟨30, [(.tmp 4)], (.seq (.ops [⟨(some 4), none, (.mv (.c (.v (.slice none 0 0))))⟩])
    (.seq (.ops [⟨(some 5), none, (.mv (.c (.v (.slice none 0 0))))⟩,
      ⟨(some 5), none, (.own 3 (.t 5))⟩])
    (.seq (.seq (.ops [⟨(some 8), none, (.mv (.t 1))⟩,
      ⟨(some 9), none, (.len .slc (.t 8))⟩,
      ⟨(some 10), none, (.mv (.c (.v (.int .i64 0))))⟩])
    (.block 0 (.loop (.seq (.ops [⟨(some 11), none, (.bin .int .lss (.t 10) (.t 9))⟩])
    (.seq (.cond (.t 11)
    .skip
    (.exit 0))
    (.seq (.block 1 (.seq (.ops [⟨(some 12), none, (.iaddr 3 (.t 8) (.t 10))⟩,
      ⟨(some 13), none, (.load true 3 (.t 12))⟩,
      ⟨(some 7), none, (.alloc [(.v (.int .i64 0)), (.v (.int .i64 0)), (.v (.string (mkS [])))])⟩,
      ⟨none, none, (.store 3 (.t 7) (.t 13))⟩])
    (.seq (.seq (.ops [⟨(some 14), none, (.load true 3 (.t 7))⟩,
      ⟨(some 15), none, (.mv (.t 0))⟩,
      ⟨(some 16), none, (.call (.c (.fn (.func 7) [] [])) [(.t 14), (.t 15)])⟩,
      ⟨(some 17), none, (.not (.t 16))⟩])
    (.cond (.t 17)
    (.seq (.ops [⟨(some 4), none, (.mv (.c (.v (.slice none 0 0))))⟩])
    .ret)
    .skip))
    (.draw [⟨(some 18), none, (.mv (.t 5))⟩,
      ⟨(some 19), none, (.call (.c (.fn (.func 24) [] [])) [])⟩,
      ⟨(some 20), none, (.faddr 0 (.t 7))⟩,
      ⟨(some 21), none, (.load false 1 (.t 20))⟩,
      ⟨(some 22), none, (.look .int (.agg [(.v .nilFunc), (.v .nilFunc)]) false (.t 19) (.t 21))⟩,
      ⟨(some 23), none, (.fld false 1 1 (.t 22))⟩,
      ⟨(some 24), none, (.load true 3 (.t 7))⟩,
      ⟨(some 25), none, (.mv (.t 0))⟩,
      ⟨(some 26), none, (.call (.t 23) [(.t 24), (.t 25)])⟩] [⟨(some 27), none, (.append 3 32 (.t 18) (.t 26))⟩,
      ⟨(some 5), none, (.mv (.t 27))⟩]))))
    (.ops [⟨(some 28), none, (.bin .int .add (.t 10) (.c (.v (.int .i64 1))))⟩,
      ⟨(some 10), none, (.mv (.t 28))⟩])))))))
    (.seq (.ops [⟨(some 29), none, (.mv (.t 5))⟩,
      ⟨(some 4), none, (.mv (.t 29))⟩,
      ⟨(some 4), none, (.frz (.t 4))⟩])
    .ret))))⟩
theorem L32_ok : lowFn Try.prog Try.f32 [⟨9, 2, (.pre 4 (.frz (.t 4)))⟩, ⟨1, 1, (.pre 5 (.own 3 (.t 5)))⟩, ⟨7, 9, .tail⟩] = some L32 := by kernel_rfl

/-- assessor_types.shapes$1 -/
def L61 : LFn := ⟨13, [(.tmp 4)], (.seq (.ops [⟨(some 2), none, (.box false (.t 0))⟩,
      ⟨(some 4), none, (.mv (.c (.v (.bool false))))⟩])
    (.seq (.ops [⟨(some 5), none, (.faddr 1 (.t 2))⟩,
      ⟨(some 6), none, (.load false 1 (.t 5))⟩,
      ⟨(some 7), none, (.bin .int .eql (.t 6) (.c (.v (.int .i64 0))))⟩,
      ⟨(some 8), none, (.mv (.t 7))⟩,
      ⟨(some 9), (some (8, true)), (.faddr 2 (.t 2))⟩,
      ⟨(some 10), (some (8, true)), (.load false 1 (.t 9))⟩,
      ⟨(some 11), (some (8, true)), (.bin .str .eql (.t 10) (.c (.v (.string (mkS [])))))⟩,
      ⟨(some 12), none, (.pick (.t 8) (.t 11) (.c (.v (.bool false))))⟩,
      ⟨(some 4), none, (.mv (.t 12))⟩])
    .ret))⟩
theorem L61_ok : lowFn Try.prog Try.f61 [] = some L61 := by kernel_rfl

/-- assessor_types.shapes$2 -/
def L62 : LFn := ⟨9, [(.tmp 4)], (.seq (.ops [⟨(some 2), none, (.box false (.t 0))⟩,
      ⟨(some 4), none, (.mv (.c (.v (.slice none 0 0))))⟩])
    (.seq (.ops [⟨(some 5), none, (.faddr 0 (.t 2))⟩,
      ⟨(some 6), none, (.load false 1 (.t 5))⟩,
      ⟨(some 7), none, (.build [(.v (.int .i64 0)), (.v (.int .i64 0)), (.v (.string (mkS [])))] [(0, (1, (.t 6)))])⟩,
      ⟨(some 8), none, (.bsl false 3 1 [(.v (.int .i64 0)), (.v (.int .i64 0)), (.v (.string (mkS [])))] [(0, (.t 7))])⟩,
      ⟨(some 4), none, (.mv (.t 8))⟩,
      ⟨(some 4), none, (.frz (.t 4))⟩])
    .ret))⟩
theorem L62_ok : lowFn Try.prog Try.f62 [⟨1, 5, (.pre 4 (.frz (.t 4)))⟩] = some L62 := by kernel_rfl

/-- assessor_types.shapes$3 -/
def L63 : LFn := ⟨18, [(.tmp 4)], (.seq (.ops [⟨(some 2), none, (.box false (.t 0))⟩,
      ⟨(some 4), none, (.mv (.c (.v (.bool false))))⟩])
    (.seq (.ops [⟨(some 5), none, (.faddr 1 (.t 2))⟩,
      ⟨(some 6), none, (.load false 1 (.t 5))⟩,
      ⟨(some 7), none, (.bin .int .geq (.t 6) (.c (.v (.int .i64 1))))⟩,
      ⟨(some 8), none, (.mv (.t 7))⟩,
      ⟨(some 9), (some (8, true)), (.faddr 1 (.t 2))⟩,
      ⟨(some 10), (some (8, true)), (.load false 1 (.t 9))⟩,
      ⟨(some 11), (some (8, true)), (.bin .int .leq (.t 10) (.c (.v (.int .i64 8))))⟩,
      ⟨(some 12), none, (.pick (.t 8) (.t 11) (.c (.v (.bool false))))⟩,
      ⟨(some 13), none, (.mv (.t 12))⟩,
      ⟨(some 14), (some (13, true)), (.faddr 2 (.t 2))⟩,
      ⟨(some 15), (some (13, true)), (.load false 1 (.t 14))⟩,
      ⟨(some 16), (some (13, true)), (.bin .str .eql (.t 15) (.c (.v (.string (mkS [])))))⟩,
      ⟨(some 17), none, (.pick (.t 13) (.t 16) (.c (.v (.bool false))))⟩,
      ⟨(some 4), none, (.mv (.t 17))⟩])
    .ret))⟩
theorem L63_ok : lowFn Try.prog Try.f63 [] = some L63 := by kernel_rfl

/-- assessor_types.shapes$4 -/
def L64 : LFn := ⟨10, [(.tmp 4)], (.seq (.ops [⟨(some 2), none, (.box false (.t 0))⟩,
      ⟨(some 4), none, (.mv (.c (.v (.slice none 0 0))))⟩])
    (.seq (.ops [⟨(some 5), none, (.build [(.v (.int .i64 0)), (.v (.int .i64 0)), (.v (.string (mkS [])))] [(0, (1, (.c (.v (.int .i64 1)))))])⟩,
      ⟨(some 6), none, (.bsl true 3 1 [(.v (.int .i64 0)), (.v (.int .i64 0)), (.v (.string (mkS [])))] [(0, (.t 5))])⟩,
      ⟨(some 7), none, (.faddr 1 (.t 2))⟩,
      ⟨(some 8), none, (.load false 1 (.t 7))⟩,
      ⟨(some 9), none, (.call (.c (.fn (.func 65) [] [])) [(.t 6), (.t 8)])⟩,
      ⟨(some 4), none, (.mv (.t 9))⟩,
      ⟨(some 4), none, (.frz (.t 4))⟩])
    .ret))⟩
theorem L64_ok : lowFn Try.prog Try.f64 [⟨1, 1, .imm⟩, ⟨1, 6, (.pre 4 (.frz (.t 4)))⟩] = some L64 := by kernel_rfl

/-- slices.Repeat___assessor_api.Type_assessor_api.Type_ -/
def L65 : LFn := ⟨48, [(.tmp 4)], (.seq (.ops [⟨(some 4), none, (.mv (.c (.v (.slice none 0 0))))⟩])
    (.seq (.seq (.ops [⟨(some 9), none, (.mv (.t 1))⟩,
      ⟨(some 10), none, (.bin .int .lss (.t 9) (.c (.v (.int .i64 0))))⟩])
    (.cond (.t 10)
    (.ops [⟨(some 11), none, .bad⟩,
      ⟨none, none, .bad⟩])
    .skip))
    (.seq (.ops [⟨(some 13), none, (.mv (.t 0))⟩,
      ⟨(some 14), none, (.len .slc (.t 13))⟩,
      ⟨(some 15), none, (.conv (.toInt .u64) (.t 14))⟩,
      ⟨(some 16), none, (.mv (.t 1))⟩,
      ⟨(some 17), none, (.conv (.toInt .u64) (.t 16))⟩,
      ⟨(some 18), none, (.call (.c (.fn (.func 102) [] [])) [(.t 15), (.t 17)])⟩,
      ⟨(some 12), none, (.mv (.t 18))⟩,
      ⟨(some 19), none, (.ext (.t 12) 0)⟩,
      ⟨(some 20), none, (.ext (.t 12) 1)⟩,
      ⟨(some 5), none, (.mv (.t 19))⟩,
      ⟨(some 6), none, (.mv (.t 20))⟩])
    (.seq (.seq (.ops [⟨(some 21), none, (.mv (.t 5))⟩,
      ⟨(some 22), none, (.bin .int .gtr (.t 21) (.c (.v (.int .u64 0))))⟩,
      ⟨(some 23), none, (.mv (.t 22))⟩,
      ⟨(some 24), (some (23, false)), (.mv (.t 6))⟩,
      ⟨(some 25), (some (23, false)), (.bin .int .gtr (.t 24) (.c (.v (.int .u64 9223372036854775807))))⟩,
      ⟨(some 26), none, (.pick (.t 23) (.c (.v (.bool true))) (.t 25))⟩])
    (.cond (.t 26)
    (.ops [⟨(some 27), none, .bad⟩,
      ⟨none, none, .bad⟩])
    .skip))
    (.seq (.ops [⟨(some 28), none, (.mv (.t 6))⟩,
      ⟨(some 29), none, (.conv (.toInt .i64) (.t 28))⟩,
      ⟨(some 30), none, (.msl 3 32 [(.v (.int .i64 0)), (.v (.int .i64 0)), (.v (.string (mkS [])))] (.t 29) (.t 29))⟩,
      ⟨(some 7), none, (.mv (.t 30))⟩])
    (.seq (.ops [⟨(some 31), none, (.mv (.t 7))⟩,
      ⟨(some 32), none, (.mv (.t 0))⟩,
      ⟨(some 33), none, (.copy 3 (.t 31) (.t 32))⟩,
      ⟨(some 8), none, (.mv (.t 33))⟩])
    (.seq (.block 0 (.loop (.seq (.seq (.ops [⟨(some 34), none, (.mv (.t 8))⟩,
      ⟨(some 35), none, (.mv (.t 7))⟩,
      ⟨(some 36), none, (.len .slc (.t 35))⟩,
      ⟨(some 37), none, (.bin .int .lss (.t 34) (.t 36))⟩])
    (.cond (.t 37)
    .skip
    (.exit 0)))
    (.block 1 (.draw [⟨(some 38), none, (.mv (.t 8))⟩,
      ⟨(some 39), none, (.mv (.t 7))⟩,
      ⟨(some 40), none, (.mv (.t 8))⟩,
      ⟨(some 41), none, (.slice .slc 3 (.t 39) (some (.t 40)) none)⟩,
      ⟨(some 42), none, (.mv (.t 7))⟩,
      ⟨(some 43), none, (.mv (.t 8))⟩,
      ⟨(some 44), none, (.slice .slc 3 (.t 42) none (some (.t 43)))⟩] [⟨(some 45), none, (.copy 3 (.t 41) (.t 44))⟩,
      ⟨(some 46), none, (.bin .int .add (.t 38) (.t 45))⟩,
      ⟨(some 8), none, (.mv (.t 46))⟩])))))
    (.seq (.ops [⟨(some 47), none, (.mv (.t 7))⟩,
      ⟨(some 4), none, (.mv (.t 47))⟩,
      ⟨(some 4), none, (.frz (.t 4))⟩])
    .ret))))))))⟩
theorem L65_ok : lowFn Try.prog Try.f65 [⟨10, 2, (.pre 4 (.frz (.t 4)))⟩, ⟨9, 7, .tail⟩] = some L65 := by kernel_rfl

/-- assessor_types.shapes$5 -/
def L66 : LFn := ⟨20, [(.tmp 4)], (.seq (.ops [⟨(some 2), none, (.box false (.t 0))⟩,
      ⟨(some 4), none, (.mv (.c (.v (.bool false))))⟩])
    (.seq (.ops [⟨(some 8), none, (.mv (.t 1))⟩,
      ⟨(some 9), none, (.faddr 2 (.t 2))⟩,
      ⟨(some 10), none, (.load false 1 (.t 9))⟩,
      ⟨(some 11), none, (.call (.c (.fn (.func 67) [] [])) [(.t 8), (.t 10)])⟩,
      ⟨(some 7), none, (.mv (.t 11))⟩,
      ⟨(some 12), none, (.ext (.t 7) 0)⟩,
      ⟨(some 13), none, (.ext (.t 7) 1)⟩,
      ⟨(some 5), none, (.alloc [(.v (.string (mkS []))), (.v (.slice none 0 0))])⟩,
      ⟨none, none, (.store 2 (.t 5) (.t 12))⟩,
      ⟨(some 6), none, (.mv (.t 13))⟩])
    (.seq (.ops [⟨(some 14), none, (.faddr 1 (.t 2))⟩,
      ⟨(some 15), none, (.load false 1 (.t 14))⟩,
      ⟨(some 16), none, (.bin .int .eql (.t 15) (.c (.v (.int .i64 0))))⟩,
      ⟨(some 17), none, (.mv (.t 16))⟩,
      ⟨(some 18), (some (17, true)), (.mv (.t 6))⟩,
      ⟨(some 19), none, (.pick (.t 17) (.t 18) (.c (.v (.bool false))))⟩,
      ⟨(some 4), none, (.mv (.t 19))⟩])
    .ret)))⟩
theorem L66_ok : lowFn Try.prog Try.f66 [] = some L66 := by kernel_rfl

/-- assessor_types.record -/
def L67 : LFn := ⟨17, [(.cell 4 true 2), (.tmp 5)], (.seq (.ops [⟨(some 3), none, (.box false (.t 1))⟩,
      ⟨(some 4), none, (.alloc [(.v (.string (mkS []))), (.v (.slice none 0 0))])⟩,
      ⟨(some 5), none, (.mv (.c (.v (.bool false))))⟩])
    (.seq (.ops [⟨(some 7), none, (.mv (.t 0))⟩,
      ⟨(some 8), none, (.mkfn (.func 104) [] [(.t 3)])⟩,
      ⟨(some 9), none, (.call (.c (.fn (.func 103) [] [])) [(.t 7), (.t 8)])⟩,
      ⟨(some 6), none, (.mv (.t 9))⟩])
    (.seq (.seq (.ops [⟨(some 10), none, (.mv (.t 6))⟩,
      ⟨(some 11), none, (.bin .int .lss (.t 10) (.c (.v (.int .i64 0))))⟩])
    (.cond (.t 11)
    (.seq (.ops [⟨(some 12), none, (.build [(.v (.string (mkS []))), (.v (.slice none 0 0))] [])⟩,
      ⟨none, none, (.store 2 (.t 4) (.t 12))⟩,
      ⟨(some 5), none, (.mv (.c (.v (.bool false))))⟩])
    .ret)
    .skip))
    (.seq (.ops [⟨(some 13), none, (.mv (.t 0))⟩,
      ⟨(some 14), none, (.mv (.t 6))⟩,
      ⟨(some 15), none, (.iaddr 2 (.t 13) (.t 14))⟩,
      ⟨(some 16), none, (.load true 2 (.t 15))⟩,
      ⟨none, none, (.store 2 (.t 4) (.t 16))⟩,
      ⟨(some 5), none, (.mv (.c (.v (.bool true))))⟩])
    .ret))))⟩
theorem L67_ok : lowFn Try.prog Try.f67 [] = some L67 := by kernel_rfl

/-- assessor_types.shapes$6 -/
def L68 : LFn := ⟨32, [(.tmp 4)], (.seq (.ops [⟨(some 2), none, (.box false (.t 0))⟩,
      ⟨(some 4), none, (.mv (.c (.v (.slice none 0 0))))⟩])
    (.seq (.ops [⟨(some 5), none, (.mv (.c (.v (.slice none 0 0))))⟩,
      ⟨(some 5), none, (.own 3 (.t 5))⟩])
    (.seq (.ops [⟨(some 11), none, (.mv (.t 1))⟩,
      ⟨(some 12), none, (.faddr 2 (.t 2))⟩,
      ⟨(some 13), none, (.load false 1 (.t 12))⟩,
      ⟨(some 14), none, (.call (.c (.fn (.func 67) [] [])) [(.t 11), (.t 13)])⟩,
      ⟨(some 10), none, (.mv (.t 14))⟩,
      ⟨(some 15), none, (.ext (.t 10) 0)⟩,
      ⟨(some 16), none, (.ext (.t 10) 1)⟩,
      ⟨(some 6), none, (.alloc [(.v (.string (mkS []))), (.v (.slice none 0 0))])⟩,
      ⟨none, none, (.store 2 (.t 6) (.t 15))⟩,
      ⟨(some 7), none, (.mv (.t 16))⟩])
    (.seq (.seq (.ops [⟨(some 17), none, (.faddr 1 (.t 6))⟩,
      ⟨(some 18), none, (.load false 1 (.t 17))⟩,
      ⟨(some 19), none, (.len .slc (.t 18))⟩,
      ⟨(some 20), none, (.mv (.c (.v (.int .i64 0))))⟩])
    (.block 0 (.loop (.seq (.ops [⟨(some 21), none, (.bin .int .lss (.t 20) (.t 19))⟩])
    (.seq (.cond (.t 21)
    .skip
    (.exit 0))
    (.seq (.block 1 (.seq (.ops [⟨(some 22), none, (.iaddr 4 (.t 18) (.t 20))⟩,
      ⟨(some 23), none, (.load true 4 (.t 22))⟩,
      ⟨(some 9), none, (.alloc [(.v (.string (mkS []))), (.v (.int .i64 0)), (.v (.int .i64 0)), (.v (.string (mkS [])))])⟩,
      ⟨none, none, (.store 4 (.t 9) (.t 23))⟩])
    (.ops [⟨(some 24), none, (.mv (.t 5))⟩,
      ⟨(some 25), none, (.faddr 1 (.t 9))⟩,
      ⟨(some 26), none, (.load true 3 (.t 25))⟩,
      ⟨(some 27), none, (.call (.c (.fn (.func 69) [] [])) [(.t 26)])⟩,
      ⟨(some 28), none, (.bsl true 3 1 [(.v (.int .i64 0)), (.v (.int .i64 0)), (.v (.string (mkS [])))] [(0, (.t 27))])⟩,
      ⟨(some 29), none, (.append 3 32 (.t 24) (.t 28))⟩,
      ⟨(some 5), none, (.mv (.t 29))⟩])))
    (.ops [⟨(some 30), none, (.bin .int .add (.t 20) (.c (.v (.int .i64 1))))⟩,
      ⟨(some 20), none, (.mv (.t 30))⟩])))))))
    (.seq (.ops [⟨(some 31), none, (.mv (.t 5))⟩,
      ⟨(some 4), none, (.mv (.t 31))⟩,
      ⟨(some 4), none, (.frz (.t 4))⟩])
    .ret)))))⟩
theorem L68_ok : lowFn Try.prog Try.f68 [⟨6, 4, .imm⟩, ⟨8, 2, (.pre 4 (.frz (.t 4)))⟩, ⟨1, 1, (.pre 5 (.own 3 (.t 5)))⟩] = some L68 := by kernel_rfl

/-- assessor_types.scalar -/
def L69 : LFn := ⟨8, [(.cell 2 true 3)], (.seq (.ops [⟨(some 1), none, (.box false (.t 0))⟩,
      ⟨(some 2), none, (.alloc [(.v (.int .i64 0)), (.v (.int .i64 0)), (.v (.string (mkS [])))])⟩])
    (.seq (.seq (.ops [⟨(some 3), none, (.faddr 0 (.t 1))⟩,
      ⟨(some 4), none, (.load false 1 (.t 3))⟩,
      ⟨(some 5), none, (.bin .int .eql (.t 4) (.c (.v (.int .i64 2))))⟩])
    (.cond (.t 5)
    (.seq (.ops [⟨(some 6), none, (.build [(.v (.int .i64 0)), (.v (.int .i64 0)), (.v (.string (mkS [])))] [(0, (1, (.c (.v (.int .i64 2)))))])⟩,
      ⟨none, none, (.store 3 (.t 2) (.t 6))⟩])
    .ret)
    .skip))
    (.seq (.ops [⟨(some 7), none, (.build [(.v (.int .i64 0)), (.v (.int .i64 0)), (.v (.string (mkS [])))] [(0, (1, (.c (.v (.int .i64 1)))))])⟩,
      ⟨none, none, (.store 3 (.t 2) (.t 7))⟩])
    .ret)))⟩
theorem L69_ok : lowFn Try.prog Try.f69 [] = some L69 := by kernel_rfl

/-- assessor_types.Size -/
def L76 : LFn := ⟨10, [(.tmp 4)], (.seq (.ops [⟨(some 2), none, (.box false (.t 0))⟩,
      ⟨(some 4), none, (.mv (.c (.v (.int .i64 0))))⟩])
    (.seq (.ops [⟨(some 5), none, (.mv (.t 1))⟩,
      ⟨(some 6), none, (.load true 3 (.t 2))⟩,
      ⟨(some 7), none, (.bsl true 3 1 [(.v (.int .i64 0)), (.v (.int .i64 0)), (.v (.string (mkS [])))] [(0, (.t 6))])⟩,
      ⟨(some 8), none, (.call (.c (.fn (.func 32) [] [])) [(.t 5), (.t 7)])⟩,
      ⟨(some 9), none, (.len .slc (.t 8))⟩,
      ⟨(some 4), none, (.mv (.t 9))⟩])
    .ret))⟩
theorem L76_ok : lowFn Try.prog Try.f76 [⟨1, 2, .imm⟩] = some L76 := by kernel_rfl

/-- slices.IndexFunc___assessor_api.Record_assessor_api.Record_ -/
def L103 : LFn := ⟨19, [(.tmp 4)], (.seq (.ops [⟨(some 4), none, (.mv (.c (.v (.int .i64 0))))⟩])
    (.seq (.seq (.ops [⟨(some 6), none, (.mv (.t 0))⟩,
      ⟨(some 7), none, (.len .slc (.t 6))⟩,
      ⟨(some 8), none, (.mv (.c (.v (.int .i64 0))))⟩])
    (.block 0 (.loop (.seq (.ops [⟨(some 9), none, (.bin .int .lss (.t 8) (.t 7))⟩])
    (.seq (.cond (.t 9)
    .skip
    (.exit 0))
    (.seq (.block 1 (.seq (.ops [⟨(some 10), none, (.mv (.t 8))⟩,
      ⟨(some 5), none, (.mv (.t 10))⟩])
    (.seq (.ops [⟨(some 11), none, (.mv (.t 1))⟩,
      ⟨(some 12), none, (.mv (.t 0))⟩,
      ⟨(some 13), none, (.mv (.t 5))⟩,
      ⟨(some 14), none, (.iaddr 2 (.t 12) (.t 13))⟩,
      ⟨(some 15), none, (.load true 2 (.t 14))⟩,
      ⟨(some 16), none, (.call (.t 11) [(.t 15)])⟩])
    (.cond (.t 16)
    (.seq (.ops [⟨(some 17), none, (.mv (.t 5))⟩,
      ⟨(some 4), none, (.mv (.t 17))⟩])
    .ret)
    .skip))))
    (.ops [⟨(some 18), none, (.bin .int .add (.t 8) (.c (.v (.int .i64 1))))⟩,
      ⟨(some 8), none, (.mv (.t 18))⟩])))))))
    (.seq (.ops [⟨(some 4), none, (.mv (.c (.v (.int .i64 (-1)))))⟩])
    .ret)))⟩
theorem L103_ok : lowFn Try.prog Try.f103 [] = some L103 := by kernel_rfl

/-- assessor_types.record$1 -/
def L104 : LFn := ⟨8, [(.tmp 3)], (.seq (.ops [⟨(some 2), none, (.box false (.t 0))⟩,
      ⟨(some 3), none, (.mv (.c (.v (.bool false))))⟩])
    (.seq (.ops [⟨(some 4), none, (.faddr 0 (.t 2))⟩,
      ⟨(some 5), none, (.load false 1 (.t 4))⟩,
      ⟨(some 6), none, (.load false 1 (.t 1))⟩,
      ⟨(some 7), none, (.bin .str .eql (.t 5) (.t 6))⟩,
      ⟨(some 3), none, (.mv (.t 7))⟩])
    .ret))⟩
theorem L104_ok : lowFn Try.prog Try.f104 [] = some L104 := by kernel_rfl

/-- math_bits.Mul -/
def L102 : LFn := ⟨30, [(.tmp 4), (.tmp 5)], (.seq (.ops [⟨(some 4), none, (.mv (.c (.v (.int .u64 0))))⟩,
      ⟨(some 5), none, (.mv (.c (.v (.int .u64 0))))⟩])
    (.seq (.cond (.c (.v (.bool false)))
    (.seq (.ops [⟨(some 11), none, (.mv (.t 0))⟩,
      ⟨(some 12), none, (.conv (.toInt .u32) (.t 11))⟩,
      ⟨(some 13), none, (.mv (.t 1))⟩,
      ⟨(some 14), none, (.conv (.toInt .u32) (.t 13))⟩,
      ⟨(some 15), none, (.call (.c (.fn (.func 132) [] [])) [(.t 12), (.t 14)])⟩,
      ⟨(some 10), none, (.mv (.t 15))⟩,
      ⟨(some 16), none, (.ext (.t 10) 0)⟩,
      ⟨(some 17), none, (.ext (.t 10) 1)⟩,
      ⟨(some 6), none, (.mv (.t 16))⟩,
      ⟨(some 7), none, (.mv (.t 17))⟩])
    (.seq (.ops [⟨(some 18), none, (.mv (.t 6))⟩,
      ⟨(some 19), none, (.conv (.toInt .u64) (.t 18))⟩,
      ⟨(some 20), none, (.mv (.t 7))⟩,
      ⟨(some 21), none, (.conv (.toInt .u64) (.t 20))⟩,
      ⟨(some 4), none, (.mv (.t 19))⟩,
      ⟨(some 5), none, (.mv (.t 21))⟩])
    .ret))
    .skip)
    (.seq (.ops [⟨(some 23), none, (.mv (.t 0))⟩,
      ⟨(some 24), none, (.mv (.t 1))⟩,
      ⟨(some 25), none, (.call (.c (.fn (.func 133) [] [])) [(.t 23), (.t 24)])⟩,
      ⟨(some 22), none, (.mv (.t 25))⟩,
      ⟨(some 26), none, (.ext (.t 22) 0)⟩,
      ⟨(some 27), none, (.ext (.t 22) 1)⟩,
      ⟨(some 8), none, (.mv (.t 26))⟩,
      ⟨(some 9), none, (.mv (.t 27))⟩])
    (.seq (.ops [⟨(some 28), none, (.mv (.t 8))⟩,
      ⟨(some 29), none, (.mv (.t 9))⟩,
      ⟨(some 4), none, (.mv (.t 28))⟩,
      ⟨(some 5), none, (.mv (.t 29))⟩])
    .ret))))⟩
theorem L102_ok : lowFn Try.prog Try.f102 [] = some L102 := by kernel_rfl

/-- math_bits.Mul64 -/
def L133 : LFn := ⟨51, [(.tmp 4), (.tmp 5)], (.seq (.ops [⟨(some 4), none, (.mv (.c (.v (.int .u64 0))))⟩,
      ⟨(some 5), none, (.mv (.c (.v (.int .u64 0))))⟩])
    (.seq (.ops [⟨(some 14), none, (.mv (.t 0))⟩,
      ⟨(some 15), none, (.bin .int .and (.t 14) (.c (.v (.int .u64 4294967295))))⟩,
      ⟨(some 6), none, (.mv (.t 15))⟩])
    (.seq (.ops [⟨(some 16), none, (.mv (.t 0))⟩,
      ⟨(some 17), none, (.bin .int .shr (.t 16) (.c (.v (.int .u64 32))))⟩,
      ⟨(some 7), none, (.mv (.t 17))⟩])
    (.seq (.ops [⟨(some 18), none, (.mv (.t 1))⟩,
      ⟨(some 19), none, (.bin .int .and (.t 18) (.c (.v (.int .u64 4294967295))))⟩,
      ⟨(some 8), none, (.mv (.t 19))⟩])
    (.seq (.ops [⟨(some 20), none, (.mv (.t 1))⟩,
      ⟨(some 21), none, (.bin .int .shr (.t 20) (.c (.v (.int .u64 32))))⟩,
      ⟨(some 9), none, (.mv (.t 21))⟩])
    (.seq (.ops [⟨(some 22), none, (.mv (.t 6))⟩,
      ⟨(some 23), none, (.mv (.t 8))⟩,
      ⟨(some 24), none, (.bin .int .mul (.t 22) (.t 23))⟩,
      ⟨(some 10), none, (.mv (.t 24))⟩])
    (.seq (.ops [⟨(some 25), none, (.mv (.t 7))⟩,
      ⟨(some 26), none, (.mv (.t 8))⟩,
      ⟨(some 27), none, (.bin .int .mul (.t 25) (.t 26))⟩,
      ⟨(some 28), none, (.mv (.t 10))⟩,
      ⟨(some 29), none, (.bin .int .shr (.t 28) (.c (.v (.int .u64 32))))⟩,
      ⟨(some 30), none, (.bin .int .add (.t 27) (.t 29))⟩,
      ⟨(some 11), none, (.mv (.t 30))⟩])
    (.seq (.ops [⟨(some 31), none, (.mv (.t 11))⟩,
      ⟨(some 32), none, (.bin .int .and (.t 31) (.c (.v (.int .u64 4294967295))))⟩,
      ⟨(some 12), none, (.mv (.t 32))⟩])
    (.seq (.ops [⟨(some 33), none, (.mv (.t 11))⟩,
      ⟨(some 34), none, (.bin .int .shr (.t 33) (.c (.v (.int .u64 32))))⟩,
      ⟨(some 13), none, (.mv (.t 34))⟩])
    (.seq (.ops [⟨(some 35), none, (.mv (.t 12))⟩,
      ⟨(some 36), none, (.mv (.t 6))⟩,
      ⟨(some 37), none, (.mv (.t 9))⟩,
      ⟨(some 38), none, (.bin .int .mul (.t 36) (.t 37))⟩,
      ⟨(some 39), none, (.bin .int .add (.t 35) (.t 38))⟩,
      ⟨(some 12), none, (.mv (.t 39))⟩])
    (.seq (.ops [⟨(some 40), none, (.mv (.t 7))⟩,
      ⟨(some 41), none, (.mv (.t 9))⟩,
      ⟨(some 42), none, (.bin .int .mul (.t 40) (.t 41))⟩,
      ⟨(some 43), none, (.mv (.t 13))⟩,
      ⟨(some 44), none, (.bin .int .add (.t 42) (.t 43))⟩,
      ⟨(some 45), none, (.mv (.t 12))⟩,
      ⟨(some 46), none, (.bin .int .shr (.t 45) (.c (.v (.int .u64 32))))⟩,
      ⟨(some 47), none, (.bin .int .add (.t 44) (.t 46))⟩,
      ⟨(some 4), none, (.mv (.t 47))⟩])
    (.seq (.ops [⟨(some 48), none, (.mv (.t 0))⟩,
      ⟨(some 49), none, (.mv (.t 1))⟩,
      ⟨(some 50), none, (.bin .int .mul (.t 48) (.t 49))⟩,
      ⟨(some 5), none, (.mv (.t 50))⟩])
    .ret))))))))))))⟩
theorem L133_ok : lowFn Try.prog Try.f133 [] = some L133 := by kernel_rfl

end Go.Proofs.Yteidffcimidinaa

/- The last step of a row: from the abstract call to the statement. -/
namespace Go.Ax
open Go Go.RowKit Go.WideShapes Go.ChangeShapes
set_option linter.unusedSimpArgs false
set_option linter.unusedVariables false

/-- Nothing is owned. -/
abbrev X0 : Nat → Prop := fun _ => False

theorem hrel_nil (w : World) (ρ : Nat → Loc) (hg : ∀ g ∈ glbs, ∃ m, w.cell? ⟨g, 0, none⟩ = some (.int .i64 m)) : HRel w X0 ρ [] where
  objs := fun r o h => by simp at h
  inj := fun r _ _ _ _ _ h => by simp at h
  lt := fun r _ _ h => by simp at h
  xlt := fun b h => h.elim
  gl := fun g h => ⟨fun ⟨r, o, hr, _⟩ => by simp at hr, hg g h⟩

/-- What a call from nothing leaves alone. -/
theorem Fut.below {w w' : World} {ρ ρ' : Nat → Loc} {n' : Nat} (h : Fut w ρ 0 w' ρ' n') : Below w.heap.size w w' :=
  ⟨h.os, h.tape, h.output, h.size, fun k hk => h.keep k hk fun ⟨r, o, hr, _⟩ => by omega⟩

/-- A call of values that name no object. -/
theorem ACall.top {P : Program} {k : FuncId} {args : List AV} {R : AV → AHeap → Prop} (h : ACall P k args [] R) {w : World} {vs : Array Value} (hargs : RepL w X0 (fun _ => {}) 0 args vs) (hg : ∀ g ∈ glbs, ∃ m, w.cell? ⟨g, 0, none⟩ = some (.int .i64 m)) :
    Calls P k vs w fun e w' => ∃ v x H' ρ', e = .returned v ∧ R x H' ∧ Rep w' (Mut X0 ρ' H'.length) ρ' H'.length x v ∧ Below w.heap.size w w' := by
  have hm : Mut X0 (fun _ => ({} : Loc)) 0 = X0 := by
    funext b
    simp [Mut, Own, X0]
  refine (h.2 X0 (fun _ => {}) w vs (hrel_nil _ _ hg) ?_).mono ?_
  · simpa [hm] using hargs
  · rintro e w' ⟨v, x, H', ρ', he, hR, _, hx, hf⟩
    exact ⟨v, x, H', ρ', he, hR, hx, hf.below⟩

section
variable {H : Type} {enc : TypeId × Value → H} {P : Program}
/-- A law's post: true is handed back, the arguments read as they did. -/
theorem post_law {f : Func} {s : ChangeSpec} {apart fresh handsOn again : Bool} {W W' : World} {args : Array Value} {ds : List (DataW H)} {before : List MemPlace} {tb : TypeId}
    (hW : DataW.Whole enc P f.params.toList s.vars apart W args.toList ds [] before) (hv : s.vars = [])
    (hf : f.resultTypes = #[tb]) (htb : P.underlying tb = some .bool) (hs : s.fn H ds = ⟨[.lit (.bool true)], ds, []⟩)
    (hargs : ∀ sp : Nat → Bool, (∀ p ∈ before, sp p.block = true) → DataW.TrodAll enc P W' 0 sp true f.params.toList args.toList ds before)
    (hb : Below W.heap.size W W') : s.post enc P f apart fresh handsOn again W args (.bool true) W' := by
  have hlt : ∀ p ∈ before, p.block < W.heap.size := fun p hp => hW.lt p hp
  have hold : ∀ p ∈ before, (fun b => decide (b < W.heap.size)) p.block = true := fun p hp => by simpa using hlt p hp
  have hs' : s.fn H (ds ++ []) = ⟨[.lit (.bool true)], ds, []⟩ := by rw [List.append_nil]; exact hs
  have hres : ∀ (b : Nat) (sp : Nat → Bool) (hd : Bool), DataW.TrodAll enc P W' b sp hd f.resultTypes.toList ((Value.bool true).resultList f.resultTypes.size) (s.fn H (ds ++ [])).results [] := by
    intro b sp hd
    rw [hs', hf]
    exact trodAll_mk1 (shut_bool htb true)
  have hvars : ∀ sp : Nat → Bool, DataW.TrodVars enc P W' sp s.vars (s.fn H (ds ++ [])).vars [] := by
    intro sp; rw [hs', hv]; rfl
  have hk : W.keptBut W' (· ∈ before) := hb.frame _
  refine ⟨ds, [], before, [], before, [], hW, hres _ _ _, ?_, hvars _, World.keptBut_mono (fun p hp => ⟨hp, .inr (.inl hp)⟩) hk, fun _ => ?_⟩
  · rw [hs']; exact hargs _ hold
  · obtain ⟨_, _, _, _, _, hz, hn⟩ := hW
    refine ⟨?_, _, _, ([] ++ before) ++ [], ⟨[] ++ before, [], trodAll_append (hargs _ fun _ _ => rfl) (hres 0 (fun _ => true) true), hvars _, rfl, ?_, ?_⟩, ?_⟩
    · intro j t r h1 h2
      rw [hf] at h1 h2
      cases j with
      | zero => simp [Value.resultList] at h1 h2; subst h1; subst h2; exact okWide_bool_mk htb true
      | succ j => simp at h1
    · intro b off hp
      have hin : MemPlace.cell b off ∈ before := by simpa using hp
      rw [hb.frozen (hlt _ hin)]
      exact hz b off (by simpa using hin)
    · intro ha
      simpa using hn ha
    · intro p hp _
      simpa using hp
end
end Go.Ax
