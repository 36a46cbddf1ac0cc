/- That an operation does what is said of it: '==' on structs; slices, fields, conversions. -/
import Derived.Test.YtdgmlepakippmaaAx7
namespace Go.Ax
open Go Go.RowKit

section
variable {P : Program} {w : World} {X : Nat → Prop} {ρ : Nat → Loc} {H : AHeap}

/-- Pairs of cells of these kinds. -/
def kAll : List KD → List Value → List Value → Prop
  | [], [], [] => True
  | k :: ks, a :: l, b :: m => (kIs k a = true ∧ kIs k b = true ∧ kCmp a b = true) ∧ kAll ks l m
  | _, _, _ => False
def kEqs : List Value → List Value → Bool
  | a :: l, b :: m => kEq a b && kEqs l m
  | _, _ => true

theorem cEq_all : ∀ (ks : List KD) (cs ds : List AV), (cEq ks cs ds).1 → ∃ la lb, cs = avs la ∧ ds = avs lb ∧ kAll ks la lb ∧ (cEq ks cs ds).2 = kEqs la lb
  | [], cs, ds, h => by
    cases cs <;> cases ds <;> simp [cEq] at h
    exact ⟨[], [], rfl, rfl, trivial, rfl⟩
  | k :: ks, cs, ds, h => by
    cases cs with
    | nil => simp [cEq] at h
    | cons x cs =>
      cases ds with
      | nil => cases x <;> simp [cEq] at h
      | cons y ds =>
        cases x with
        | v a =>
          cases y with
          | v b =>
            simp only [cEq] at h ⊢
            obtain ⟨la, lb, rfl, rfl, h1, h2⟩ := cEq_all ks cs ds h.2
            exact ⟨a :: la, b :: lb, rfl, rfl, ⟨h.1, h1⟩, by rw [h2]; rfl⟩
          | _ => simp [cEq] at h
        | _ => simp [cEq] at h

theorem kAll_len : ∀ {ks : List KD} {la lb : List Value}, kAll ks la lb → la.length = ks.length ∧ lb.length = ks.length
  | [], la, lb, h => by cases la <;> cases lb <;> simp [kAll] at h ⊢
  | k :: ks, la, lb, h => by
    cases la <;> cases lb <;> simp [kAll] at h ⊢
    exact kAll_len h.2

theorem kAll_append : ∀ {ks ms : List KD} {la lb : List Value}, kAll (ks ++ ms) la lb → kAll ks (la.take ks.length) (lb.take ks.length) ∧ kAll ms (la.drop ks.length) (lb.drop ks.length)
  | [], ms, la, lb, h => by simpa [kAll] using h
  | k :: ks, ms, la, lb, h => by
    cases la <;> cases lb <;> simp only [List.cons_append, kAll] at h <;> first | exact h.elim | skip
    have := kAll_append h.2
    simpa [kAll, h.1] using this

theorem kEqs_split (n : Nat) : ∀ (la lb : List Value), la.length = lb.length → kEqs la lb = (kEqs (la.take n) (lb.take n) && kEqs (la.drop n) (lb.drop n)) := by
  induction n with
  | zero => intro la lb _; simp [kEqs]
  | succ n ih =>
    intro la lb hl
    cases la <;> cases lb <;> simp at hl <;> simp [kEqs]
    rw [ih _ _ hl, Bool.and_assoc]

def valOf (P : Program) (t : TypeId) (l : List Value) : Value := if tyAg P t = some true then .agg l.toArray else l.headD undef

theorem part_ok {t : TypeId} {n : Nat} {ag : Bool} (hag : tyAg P t = some ag) (hsz : tySz P t = some n) {l : List Value} {off : Nat} (hl : off + n ≤ l.length) (h1 : ag = true ∨ 0 < n) :
    (part t l.toArray off).run P w = .ok (valOf P t ((l.drop off).take n)) w := by
  unfold part valOf
  simp only [Sem.run_bind, tyAg_run hag, Result.andThen_ok, Sem.run_ite, hag, Option.some.injEq]
  cases ag with
  | true =>
    simp only [if_true, tySz_run hsz, Result.andThen_ok, Sem.run_pure]
    congr 2
    apply Array.ext'
    simp [List.extract_eq_take_drop]
  | false =>
    have hn : 0 < n := by simpa using h1
    have hlt : off < l.length := by omega
    simp only [Bool.false_eq_true, if_false]
    have h2 : l.toArray[off]? = some l[off] := by simp [hlt]
    rw [h2]
    simp only [Sem.run_pure]
    congr 1
    cases n with
    | zero => omega
    | succ n =>
      rw [List.drop_eq_getElem_cons hlt]
      rfl

theorem kEq_int {t : TypeId} {k : IntKind} {D : Nat} {a b : Value} (ht : P.underlying t = some (.int k)) (ha : kIs .int a = true) (hb : kIs .int b = true) (hc : kCmp a b = true) :
    (Op.equalIn (D + 1) t a b).run P w = .ok (kEq a b) w := by
  cases a <;> simp [kIs] at ha
  cases b <;> simp [kIs] at hb
  simp only [kCmp, beq_iff_eq] at hc
  subst hc
  rw [run_equalIn_int w D t _ k _ _ ht]
  simp [kEq]
theorem kEq_str {t : TypeId} {D : Nat} {a b : Value} (ht : P.underlying t = some .string) (ha : kIs .str a = true) (hb : kIs .str b = true) :
    (Op.equalIn (D + 1) t a b).run P w = .ok (kEq a b) w := by
  cases a <;> simp [kIs] at ha
  cases b <;> simp [kIs] at hb
  rw [run_equalIn_string w D t _ _ ht]
  simp [kEq, toList_bs]
theorem kEq_bool {t : TypeId} {D : Nat} {a b : Value} (ht : P.underlying t = some .bool) (ha : kIs .bool a = true) (hb : kIs .bool b = true) :
    (Op.equalIn (D + 1) t a b).run P w = .ok (kEq a b) w := by
  cases a <;> simp [kIs] at ha
  cases b <;> simp [kIs] at hb
  rw [run_equalIn_bool' w D t _ _ ht]
  simp [kEq]

theorem flatFs_eq {g : TypeId → Option (List KD)} {D : Nat}
    (hg : ∀ t ks, g t = some ks → 0 < ks.length ∨ tyAg P t = some true) (ih : ∀ t ks la lb, g t = some ks → kAll ks la lb → (Op.equalIn D t (valOf P t la) (valOf P t lb)).run P w = .ok (kEqs la lb) w) :
    ∀ (fs : List Field) (l0 ks : List KD) (la lb : List Value), flatFs P g l0 fs = some ks → kAll ks la lb →
      (Op.eqFields D la.toArray lb.toArray fs).run P w = .ok (kEqs (la.drop l0.length) (lb.drop l0.length)) w ∧ ∃ r, ks = l0 ++ r := by
  intro fs
  induction fs with
  | nil =>
    intro l0 ks la lb h hk
    simp only [flatFs, Option.some.injEq] at h
    subst h
    obtain ⟨h1, h2⟩ := kAll_len hk
    refine ⟨?_, [], by simp⟩
    simp [Op.eqFields, ← h1, kEqs]
  | cons f fs ihf =>
    intro l0 ks la lb h hk
    simp only [flatFs] at h
    cases hm : g f.type with
    | none => simp [hm] at h
    | some m =>
      cases hn : tySz P f.type with
      | none => simp [hm, hn] at h
      | some n =>
        cases ha : tyAg P f.type with
        | none => simp [hm, hn, ha] at h
        | some ag =>
          simp only [hm, hn, ha] at h
          split at h
          · rename_i hc
            obtain ⟨hname, hoff, hlen⟩ := hc
            obtain ⟨h1, r, hr⟩ := ihf (l0 ++ m) ks la lb h hk
            have hks : ks = l0 ++ (m ++ r) := by rw [hr, List.append_assoc]
            refine ⟨?_, m ++ r, hks⟩
            obtain ⟨hla, hlb⟩ := kAll_len hk
            have hkl : ks.length = l0.length + (m.length + r.length) := by rw [hks]; simp
            rw [hks] at hk
            have k1 := (kAll_append hk).2
            have k2 := (kAll_append k1).1
            have hpos : ag = true ∨ 0 < n := by
              rcases hg _ _ hm with h2 | h2
              · exact .inr (by omega)
              · rw [ha] at h2; exact .inl (by simpa using h2)
            have e1 := ih f.type m _ _ hm k2
            unfold Op.eqFields
            rw [if_pos hname]
            simp only [Sem.run_bind]
            rw [part_ok (w := w) ha hn (l := la) (off := f.offset) (by omega) hpos]
            simp only [Result.andThen_ok]
            rw [part_ok (w := w) ha hn (l := lb) (off := f.offset) (by omega) hpos]
            simp only [Result.andThen_ok]
            rw [hoff, ← hlen, e1]
            simp only [Result.andThen_ok, Sem.run_ite, Sem.run_pure]
            rw [kEqs_split m.length (la.drop l0.length) (lb.drop l0.length) (by simp; omega), h1]
            have hd : ∀ l : List Value, (l.drop l0.length).drop m.length = l.drop (l0 ++ m).length := fun l => by rw [List.drop_drop, List.length_append]
            rw [hd, hd]
            cases kEqs ((la.drop l0.length).take m.length) ((lb.drop l0.length).take m.length) <;> simp
          · cases h

theorem flatTo_pos {d : Nat} {t : TypeId} {ks : List KD} (h : flatTo P d t = some ks) : 0 < ks.length ∨ tyAg P t = some true := by
  cases d with
  | zero => cases h
  | succ d =>
    unfold flatTo at h
    cases ht : P.underlying t with
    | none => simp [ht] at h
    | some ty =>
      cases ty <;> simp [ht] at h <;> first
        | (subst h; left; simp)
        | (right; simp [tyAg, ht])

theorem flat_eq : ∀ (d : Nat) (t : TypeId) (ks : List KD), flatTo P d t = some ks → ∀ (D : Nat) (la lb : List Value), d ≤ D → kAll ks la lb →
    (Op.equalIn D t (valOf P t la) (valOf P t lb)).run P w = .ok (kEqs la lb) w := by
  intro d
  induction d with
  | zero => intro t ks h; cases h
  | succ d ih =>
    intro t ks h D la lb hD hk
    obtain ⟨D, rfl⟩ : ∃ D', D = D' + 1 := ⟨D - 1, by omega⟩
    unfold flatTo at h
    cases ht : P.underlying t with
    | none => simp [ht] at h
    | some ty =>
      have hsc : tyAg P t = some false → ∀ k, ks = [k] → (∀ a b, kIs k a = true → kIs k b = true → kCmp a b = true → (Op.equalIn (D + 1) t a b).run P w = .ok (kEq a b) w) →
          (Op.equalIn (D + 1) t (valOf P t la) (valOf P t lb)).run P w = .ok (kEqs la lb) w := by
        intro hag k hks f
        subst hks
        obtain ⟨h1, h2⟩ := kAll_len hk
        match la, lb, h1, h2 with
        | [a], [b], _, _ =>
          simp only [kAll] at hk
          simp only [valOf, hag, kEqs, Bool.and_true, List.headD_cons]
          exact f a b hk.1.1 hk.1.2.1 hk.1.2.2
      cases ty <;> simp only [ht] at h <;> first | (cases h; done) | skip
      case int k =>
        simp only [Option.some.injEq] at h
        exact hsc (by simp [tyAg, ht]) .int h.symm fun a b ha hb hc => kEq_int ht ha hb hc
      case string =>
        simp only [Option.some.injEq] at h
        exact hsc (by simp [tyAg, ht]) .str h.symm fun a b ha hb _ => kEq_str ht ha hb
      case bool =>
        simp only [Option.some.injEq] at h
        exact hsc (by simp [tyAg, ht]) .bool h.symm fun a b ha hb _ => kEq_bool ht ha hb
      case struct fs =>
        split at h
        · cases h
        · rename_i hst
          have hag : tyAg P t = some true := by simp [tyAg, ht]
          simp only [valOf, hag, if_true]
          have hf : P.fieldsOf t = fs := by simp [Program.fieldsOf, ht]
          rw [run_equalIn_agg w D t _ _ (by rw [hf]; exact ht) (by simpa using hst), hf]
          have := (flatFs_eq (w := w) (D := D) (g := flatTo P d) (fun t ks hh => flatTo_pos hh) (fun t ks la lb hh hkk => ih t ks hh D la lb (by omega) hkk) fs.toList [] ks la lb h hk).1
          simpa using this

theorem rep_vx {n : Nat} {M : Nat → Prop} {x u : Value} (h : Rep w M ρ n (.v x) u) : u = x := by cases h; rfl

theorem avs_exact {n : Nat} {M : Nat → Prop} {la : List Value} {us : Array Value} (h : Rep w M ρ n (.agg (avs la)) (.agg us)) : us = la.toArray := by
  cases h with
  | agg _ _ _ hl hr =>
    apply Array.ext'
    apply List.ext_getElem?
    intro i
    simp only [avs, List.length_map] at hl
    by_cases hi : i < la.length
    · have := hr i (.v la[i]) us[i] (by simp [avs, hi]) (by simp [hl ▸ hi])
      have e := rep_vx this
      rw [List.getElem?_eq_getElem hi, Array.getElem?_toList, Array.getElem?_eq_getElem (hl ▸ hi), e]
    · rw [List.getElem?_eq_none (by simp; omega), List.getElem?_eq_none (by simpa using hi)]

theorem snd_bin {kd : KD} {op : BinOp} {t : TypeId} {ox oy : Operand} {x y : AV} {u v : Value} (hk : tyKD P t = some kd) (h : HRel w X ρ H) (hx : Rp w X ρ H x u) (hy : Rp w X ρ H y v) :
    Gives P (do eqGuard op t ox oy u v; binOp op t u v) w X ρ H (rBin kd op x y H) := by
  refine snd_bin0 hk h hx hy ?_
  intro ks cs ds us vs hkd hxe hye hue hve
  subst hkd hxe hye hue hve
  have hun : ∃ fs, P.underlying t = some (.struct fs) := by
    unfold tyKD at hk
    cases hd : P.underlying t with
    | none => simp [hd] at hk
    | some d => cases d <;> simp [hd] at hk; exact ⟨_, rfl⟩
  obtain ⟨fs, hfs⟩ := hun
  have hfl : flatTo P 8 t = some ks ∧ P.eqGuardType P.depth t = false := by
    unfold tyKD at hk
    simp only [hfs] at hk
    split at hk
    · cases hk
    · rename_i hg
      cases hh : flatTo P 8 t with
      | none => simp [hh] at hk
      | some m => simp [hh] at hk; subst hk; exact ⟨rfl, by simpa using hg⟩
  have hgd : ∀ o : BinOp, (eqGuard o t ox oy (.agg us) (.agg vs)).run P w = .ok () w := fun o => run_eqGuard_agg w o t ox oy us vs hfl.2
  have hag : tyAg P t = some true := by simp [tyAg, hfs]
  have hmain : (cEq ks cs ds).1 → (Op.equalIn 10000 t (.agg us) (.agg vs)).run P w = .ok (cEq ks cs ds).2 w := by
    intro hc
    obtain ⟨la, lb, rfl, rfl, h1, h2⟩ := cEq_all ks cs ds hc
    have e1 := avs_exact hx
    have e2 := avs_exact hy
    subst e1 e2
    have := flat_eq (w := w) 8 t ks hfl.1 10000 la lb (by omega) h1
    simp only [valOf, hag, if_true] at this
    rw [this, h2]
  cases op <;> simp only [eqRes] <;> first
    | exact gives_no
    | (refine gives_v h fun hp => ?_
       rw [Sem.run_bind, hgd, Result.andThen_ok, run_eql_struct, hmain hp]
       rfl)
    | (refine gives_v h fun hp => ?_
       rw [Sem.run_bind, hgd, Result.andThen_ok, run_neq_struct, hmain hp]
       rfl)
end
end Go.Ax
