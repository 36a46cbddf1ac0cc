/- Parts, merged by a program (wip/tools/merge.py): Ax8 Ax9 Ax10 Ax11 Ax12 Ax13 Ax14 Ax15 Ax16 Ax17 Ax18 Ax19 Ax20. -/
import Derived.Test.YteidffcimidinaaM1
import Derived.WideKeyRuns
import Derived.Deep.LoopGhost
import Derived.TacticsIn
import Derived.OrdersIn
import Derived.StillTail
/- That an operation does what is said of it: '==' on structs; slices, fields, conversions. -/
namespace Go.Ax
open Go Go.RowKit

section
variable {P : Program} {w : World} {X : Nat → Prop} {ρ : Nat → Loc} {H : AHeap}

/-- Pairs of cells of these kinds. -/
def kAll : List KD → List Value → List Value → Prop
  | [], [], [] => True
  | k :: ks, a :: l, b :: m => (kIs k a = true ∧ kIs k b = true ∧ kCmp a b = true) ∧ kAll ks l m
  | _, _, _ => False
def kEqs : List Value → List Value → Bool
  | a :: l, b :: m => kEq a b && kEqs l m
  | _, _ => true

theorem cEq_all : ∀ (ks : List KD) (cs ds : List AV), (cEq ks cs ds).1 → ∃ la lb, cs = avs la ∧ ds = avs lb ∧ kAll ks la lb ∧ (cEq ks cs ds).2 = kEqs la lb
  | [], cs, ds, h => by
    cases cs <;> cases ds <;> simp [cEq] at h
    exact ⟨[], [], rfl, rfl, trivial, rfl⟩
  | k :: ks, cs, ds, h => by
    cases cs with
    | nil => simp [cEq] at h
    | cons x cs =>
      cases ds with
      | nil => cases x <;> simp [cEq] at h
      | cons y ds =>
        cases x with
        | v a =>
          cases y with
          | v b =>
            simp only [cEq] at h ⊢
            obtain ⟨la, lb, rfl, rfl, h1, h2⟩ := cEq_all ks cs ds h.2
            exact ⟨a :: la, b :: lb, rfl, rfl, ⟨h.1, h1⟩, by rw [h2]; rfl⟩
          | _ => simp [cEq] at h
        | _ => simp [cEq] at h

theorem kAll_len : ∀ {ks : List KD} {la lb : List Value}, kAll ks la lb → la.length = ks.length ∧ lb.length = ks.length
  | [], la, lb, h => by cases la <;> cases lb <;> simp [kAll] at h ⊢
  | k :: ks, la, lb, h => by
    cases la <;> cases lb <;> simp [kAll] at h ⊢
    exact kAll_len h.2

theorem kAll_append : ∀ {ks ms : List KD} {la lb : List Value}, kAll (ks ++ ms) la lb → kAll ks (la.take ks.length) (lb.take ks.length) ∧ kAll ms (la.drop ks.length) (lb.drop ks.length)
  | [], ms, la, lb, h => by simpa [kAll] using h
  | k :: ks, ms, la, lb, h => by
    cases la <;> cases lb <;> simp only [List.cons_append, kAll] at h <;> first | exact h.elim | skip
    have := kAll_append h.2
    simpa [kAll, h.1] using this

theorem kEqs_split (n : Nat) : ∀ (la lb : List Value), la.length = lb.length → kEqs la lb = (kEqs (la.take n) (lb.take n) && kEqs (la.drop n) (lb.drop n)) := by
  induction n with
  | zero => intro la lb _; simp [kEqs]
  | succ n ih =>
    intro la lb hl
    cases la <;> cases lb <;> simp at hl <;> simp [kEqs]
    rw [ih _ _ hl, Bool.and_assoc]

def valOf (P : Program) (t : TypeId) (l : List Value) : Value := if tyAg P t = some true then .agg l.toArray else l.headD undef

theorem part_ok {t : TypeId} {n : Nat} {ag : Bool} (hag : tyAg P t = some ag) (hsz : tySz P t = some n) {l : List Value} {off : Nat} (hl : off + n ≤ l.length) (h1 : ag = true ∨ 0 < n) :
    (part t l.toArray off).run P w = .ok (valOf P t ((l.drop off).take n)) w := by
  unfold part valOf
  simp only [Sem.run_bind, tyAg_run hag, Result.andThen_ok, Sem.run_ite, hag, Option.some.injEq]
  cases ag with
  | true =>
    simp only [if_true, tySz_run hsz, Result.andThen_ok, Sem.run_pure]
    congr 2
    apply Array.ext'
    simp [List.extract_eq_take_drop]
  | false =>
    have hn : 0 < n := by simpa using h1
    have hlt : off < l.length := by omega
    simp only [Bool.false_eq_true, if_false]
    have h2 : l.toArray[off]? = some l[off] := by simp [hlt]
    rw [h2]
    simp only [Sem.run_pure]
    congr 1
    cases n with
    | zero => omega
    | succ n =>
      rw [List.drop_eq_getElem_cons hlt]
      rfl

theorem kEq_int {t : TypeId} {k : IntKind} {D : Nat} {a b : Value} (ht : P.underlying t = some (.int k)) (ha : kIs .int a = true) (hb : kIs .int b = true) (hc : kCmp a b = true) :
    (Op.equalIn (D + 1) t a b).run P w = .ok (kEq a b) w := by
  cases a <;> simp [kIs] at ha
  cases b <;> simp [kIs] at hb
  simp only [kCmp, beq_iff_eq] at hc
  subst hc
  rw [run_equalIn_int w D t _ k _ _ ht]
  simp [kEq]
theorem kEq_str {t : TypeId} {D : Nat} {a b : Value} (ht : P.underlying t = some .string) (ha : kIs .str a = true) (hb : kIs .str b = true) :
    (Op.equalIn (D + 1) t a b).run P w = .ok (kEq a b) w := by
  cases a <;> simp [kIs] at ha
  cases b <;> simp [kIs] at hb
  rw [run_equalIn_string w D t _ _ ht]
  simp [kEq, toList_bs]
theorem kEq_bool {t : TypeId} {D : Nat} {a b : Value} (ht : P.underlying t = some .bool) (ha : kIs .bool a = true) (hb : kIs .bool b = true) :
    (Op.equalIn (D + 1) t a b).run P w = .ok (kEq a b) w := by
  cases a <;> simp [kIs] at ha
  cases b <;> simp [kIs] at hb
  rw [run_equalIn_bool' w D t _ _ ht]
  simp [kEq]

theorem flatFs_eq {g : TypeId → Option (List KD)} {D : Nat}
    (hg : ∀ t ks, g t = some ks → 0 < ks.length ∨ tyAg P t = some true) (ih : ∀ t ks la lb, g t = some ks → kAll ks la lb → (Op.equalIn D t (valOf P t la) (valOf P t lb)).run P w = .ok (kEqs la lb) w) :
    ∀ (fs : List Field) (l0 ks : List KD) (la lb : List Value), flatFs P g l0 fs = some ks → kAll ks la lb →
      (Op.eqFields D la.toArray lb.toArray fs).run P w = .ok (kEqs (la.drop l0.length) (lb.drop l0.length)) w ∧ ∃ r, ks = l0 ++ r := by
  intro fs
  induction fs with
  | nil =>
    intro l0 ks la lb h hk
    simp only [flatFs, Option.some.injEq] at h
    subst h
    obtain ⟨h1, h2⟩ := kAll_len hk
    refine ⟨?_, [], by simp⟩
    simp [Op.eqFields, ← h1, kEqs]
  | cons f fs ihf =>
    intro l0 ks la lb h hk
    simp only [flatFs] at h
    cases hm : g f.type with
    | none => simp [hm] at h
    | some m =>
      cases hn : tySz P f.type with
      | none => simp [hm, hn] at h
      | some n =>
        cases ha : tyAg P f.type with
        | none => simp [hm, hn, ha] at h
        | some ag =>
          simp only [hm, hn, ha] at h
          split at h
          · rename_i hc
            obtain ⟨hname, hoff, hlen⟩ := hc
            obtain ⟨h1, r, hr⟩ := ihf (l0 ++ m) ks la lb h hk
            have hks : ks = l0 ++ (m ++ r) := by rw [hr, List.append_assoc]
            refine ⟨?_, m ++ r, hks⟩
            obtain ⟨hla, hlb⟩ := kAll_len hk
            have hkl : ks.length = l0.length + (m.length + r.length) := by rw [hks]; simp
            rw [hks] at hk
            have k1 := (kAll_append hk).2
            have k2 := (kAll_append k1).1
            have hpos : ag = true ∨ 0 < n := by
              rcases hg _ _ hm with h2 | h2
              · exact .inr (by omega)
              · rw [ha] at h2; exact .inl (by simpa using h2)
            have e1 := ih f.type m _ _ hm k2
            unfold Op.eqFields
            rw [if_pos hname]
            simp only [Sem.run_bind]
            rw [part_ok (w := w) ha hn (l := la) (off := f.offset) (by omega) hpos]
            simp only [Result.andThen_ok]
            rw [part_ok (w := w) ha hn (l := lb) (off := f.offset) (by omega) hpos]
            simp only [Result.andThen_ok]
            rw [hoff, ← hlen, e1]
            simp only [Result.andThen_ok, Sem.run_ite, Sem.run_pure]
            rw [kEqs_split m.length (la.drop l0.length) (lb.drop l0.length) (by simp; omega), h1]
            have hd : ∀ l : List Value, (l.drop l0.length).drop m.length = l.drop (l0 ++ m).length := fun l => by rw [List.drop_drop, List.length_append]
            rw [hd, hd]
            cases kEqs ((la.drop l0.length).take m.length) ((lb.drop l0.length).take m.length) <;> simp
          · cases h

theorem flatTo_pos {d : Nat} {t : TypeId} {ks : List KD} (h : flatTo P d t = some ks) : 0 < ks.length ∨ tyAg P t = some true := by
  cases d with
  | zero => cases h
  | succ d =>
    unfold flatTo at h
    cases ht : P.underlying t with
    | none => simp [ht] at h
    | some ty =>
      cases ty <;> simp [ht] at h <;> first
        | (subst h; left; simp)
        | (right; simp [tyAg, ht])

theorem flat_eq : ∀ (d : Nat) (t : TypeId) (ks : List KD), flatTo P d t = some ks → ∀ (D : Nat) (la lb : List Value), d ≤ D → kAll ks la lb →
    (Op.equalIn D t (valOf P t la) (valOf P t lb)).run P w = .ok (kEqs la lb) w := by
  intro d
  induction d with
  | zero => intro t ks h; cases h
  | succ d ih =>
    intro t ks h D la lb hD hk
    obtain ⟨D, rfl⟩ : ∃ D', D = D' + 1 := ⟨D - 1, by omega⟩
    unfold flatTo at h
    cases ht : P.underlying t with
    | none => simp [ht] at h
    | some ty =>
      have hsc : tyAg P t = some false → ∀ k, ks = [k] → (∀ a b, kIs k a = true → kIs k b = true → kCmp a b = true → (Op.equalIn (D + 1) t a b).run P w = .ok (kEq a b) w) →
          (Op.equalIn (D + 1) t (valOf P t la) (valOf P t lb)).run P w = .ok (kEqs la lb) w := by
        intro hag k hks f
        subst hks
        obtain ⟨h1, h2⟩ := kAll_len hk
        match la, lb, h1, h2 with
        | [a], [b], _, _ =>
          simp only [kAll] at hk
          simp only [valOf, hag, kEqs, Bool.and_true, List.headD_cons]
          exact f a b hk.1.1 hk.1.2.1 hk.1.2.2
      cases ty <;> simp only [ht] at h <;> first | (cases h; done) | skip
      case int k =>
        simp only [Option.some.injEq] at h
        exact hsc (by simp [tyAg, ht]) .int h.symm fun a b ha hb hc => kEq_int ht ha hb hc
      case string =>
        simp only [Option.some.injEq] at h
        exact hsc (by simp [tyAg, ht]) .str h.symm fun a b ha hb _ => kEq_str ht ha hb
      case bool =>
        simp only [Option.some.injEq] at h
        exact hsc (by simp [tyAg, ht]) .bool h.symm fun a b ha hb _ => kEq_bool ht ha hb
      case struct fs =>
        split at h
        · cases h
        · rename_i hst
          have hag : tyAg P t = some true := by simp [tyAg, ht]
          simp only [valOf, hag, if_true]
          have hf : P.fieldsOf t = fs := by simp [Program.fieldsOf, ht]
          rw [run_equalIn_agg w D t _ _ (by rw [hf]; exact ht) (by simpa using hst), hf]
          have := (flatFs_eq (w := w) (D := D) (g := flatTo P d) (fun t ks hh => flatTo_pos hh) (fun t ks la lb hh hkk => ih t ks hh D la lb (by omega) hkk) fs.toList [] ks la lb h hk).1
          simpa using this

theorem rep_vx {n : Nat} {M : Nat → Prop} {x u : Value} (h : Rep w M ρ n (.v x) u) : u = x := by cases h; rfl

theorem avs_exact {n : Nat} {M : Nat → Prop} {la : List Value} {us : Array Value} (h : Rep w M ρ n (.agg (avs la)) (.agg us)) : us = la.toArray := by
  cases h with
  | agg _ _ _ hl hr =>
    apply Array.ext'
    apply List.ext_getElem?
    intro i
    simp only [avs, List.length_map] at hl
    by_cases hi : i < la.length
    · have := hr i (.v la[i]) us[i] (by simp [avs, hi]) (by simp [hl ▸ hi])
      have e := rep_vx this
      rw [List.getElem?_eq_getElem hi, Array.getElem?_toList, Array.getElem?_eq_getElem (hl ▸ hi), e]
    · rw [List.getElem?_eq_none (by simp; omega), List.getElem?_eq_none (by simpa using hi)]

theorem snd_bin {kd : KD} {op : BinOp} {t : TypeId} {ox oy : Operand} {x y : AV} {u v : Value} (hk : tyKD P t = some kd) (h : HRel w X ρ H) (hx : Rp w X ρ H x u) (hy : Rp w X ρ H y v) :
    Gives P (do eqGuard op t ox oy u v; binOp op t u v) w X ρ H (rBin kd op x y H) := by
  refine snd_bin0 hk h hx hy ?_
  intro ks cs ds us vs hkd hxe hye hue hve
  subst hkd hxe hye hue hve
  have hun : ∃ fs, P.underlying t = some (.struct fs) := by
    unfold tyKD at hk
    cases hd : P.underlying t with
    | none => simp [hd] at hk
    | some d => cases d <;> simp [hd] at hk; exact ⟨_, rfl⟩
  obtain ⟨fs, hfs⟩ := hun
  have hfl : flatTo P 8 t = some ks ∧ P.eqGuardType P.depth t = false := by
    unfold tyKD at hk
    simp only [hfs] at hk
    split at hk
    · cases hk
    · rename_i hg
      cases hh : flatTo P 8 t with
      | none => simp [hh] at hk
      | some m => simp [hh] at hk; subst hk; exact ⟨rfl, by simpa using hg⟩
  have hgd : ∀ o : BinOp, (eqGuard o t ox oy (.agg us) (.agg vs)).run P w = .ok () w := fun o => run_eqGuard_agg w o t ox oy us vs hfl.2
  have hag : tyAg P t = some true := by simp [tyAg, hfs]
  have hmain : (cEq ks cs ds).1 → (Op.equalIn 10000 t (.agg us) (.agg vs)).run P w = .ok (cEq ks cs ds).2 w := by
    intro hc
    obtain ⟨la, lb, rfl, rfl, h1, h2⟩ := cEq_all ks cs ds hc
    have e1 := avs_exact hx
    have e2 := avs_exact hy
    subst e1 e2
    have := flat_eq (w := w) 8 t ks hfl.1 10000 la lb (by omega) h1
    simp only [valOf, hag, if_true] at this
    rw [this, h2]
  cases op <;> simp only [eqRes] <;> first
    | exact gives_no
    | (refine gives_v h fun hp => ?_
       rw [Sem.run_bind, hgd, Result.andThen_ok, run_eql_struct, hmain hp]
       rfl)
    | (refine gives_v h fun hp => ?_
       rw [Sem.run_bind, hgd, Result.andThen_ok, run_neq_struct, hmain hp]
       rfl)
end
end Go.Ax

/- That an operation does what is said of it: fields, elements, slices, look-ups, conversions. -/
namespace Go.Ax
open Go Go.RowKit

section
variable {P : Program} {w : World} {X : Nat → Prop} {ρ : Nat → Loc} {H : AHeap}

theorem snd_faddr {s : TypeId} {fs : Array Field} {f n : Nat} {fd : Field} {p : AV} {u : Value} (hs : P.underlying s = some (.struct fs)) (hf : fs[f]? = some fd) (hn : tySz P fd.type = some n) (hn0 : n ≠ 0)
    (h : HRel w X ρ H) (hp : Rp w X ρ H p u) : Gives P (Instr.fieldAt s u f) w X ρ H (rFaddr fd.offset p H) := by
  have key : ∀ b o : Nat, (Instr.fieldAt s (.pointer (some ⟨b, o, none⟩)) f).run P w = .ok (.pointer (some ⟨b, o + fd.offset, none⟩)) w := by
    intro b o
    simp [Instr.fieldAt, run_underlying hs, hf, Instr.sureAddr, fieldPlace, tySz_run hn, hn0, Addr.add_lit]
  cases p with
  | vp cs off =>
    refine gives_pure h fun _ => ?_
    cases hp with
    | vp _ _ _ b o c hm hb hcell hrep =>
      refine ⟨_, key _ _, ?_⟩
      rw [Nat.add_assoc]
      exact .vp _ _ _ _ _ c hm hb hcell hrep
  | ptr r ver off =>
    refine gives_pure h fun ⟨hb, hv⟩ => ?_
    obtain ⟨cs, ho⟩ := isBox_some hb
    rw [ho] at hv
    obtain ⟨hr, b, c, e, fr, hblk, rfl, hh, hl, hfr, hver, hrep⟩ := ptr_box h hp ho hv
    refine ⟨_, key _ _, ?_⟩
    simp only [isVer] at hv
    exact .ptr _ _ _ _ _ hr (by omega) rfl fun _ => ⟨b, 0, hblk, by simp⟩
  | pe r ver i off =>
    refine gives_pure h fun ⟨hb, hv⟩ => ?_
    obtain ⟨v, sz, xs, ho⟩ := isArr_some hb
    rw [ho] at hv
    simp only [isVer] at hv
    obtain ⟨h1, h2, h3, h4, h5, h6⟩ := h.objs r _ ho
    cases hp with
    | pe _ _ _ _ _ _ hr hle hone hpt =>
      obtain ⟨b, o, hblk, rfl⟩ := hpt (by omega)
      refine ⟨_, key _ _, ?_⟩
      exact .pe _ _ _ _ _ _ hr (by omega) rfl fun _ => ⟨b, o, hblk, by rw [Nat.add_assoc, Nat.add_assoc]⟩
  | _ => exact gives_no

theorem snd_fld {s : TypeId} {fs : Array Field} {f n : Nat} {ag : Bool} {fd : Field} {x : AV} {u : Value} (hs : P.underlying s = some (.struct fs)) (hf : fs[f]? = some fd) (hag : tyAg P fd.type = some ag) (hn : tySz P fd.type = some n)
    (h : HRel w X ρ H) (hx : Rp w X ρ H x u) : Gives P (Instr.field s u f) w X ρ H (rFld ag fd.offset n x H) := by
  cases x with
  | agg cs =>
    refine gives_pure h fun ⟨h1, h2⟩ => ?_
    cases hx with
    | agg _ _ us hl hr =>
      simp only [Instr.field, Sem.run_bind, run_underlying hs, Result.andThen_ok, hf, asAgg, Sem.run_pure, part, tyAg_run hag, Sem.run_ite]
      cases ag with
      | true =>
        refine ⟨.agg (us.extract fd.offset (fd.offset + n)), ?_, ?_⟩
        · simp [tySz_run hn]
        · simp only [cellsV, if_true]
          refine .agg _ _ _ (by simp; omega) fun i y v hy hv => ?_
          rw [List.getElem?_take] at hy
          split at hy
          · rename_i hi
            rw [List.getElem?_drop] at hy
            refine hr (fd.offset + i) y v hy ?_
            have hlt : fd.offset + i < us.size := by omega
            rw [Array.getElem?_extract] at hv
            simpa [show i < min (fd.offset + n) us.size - fd.offset by omega] using hv
          · cases hy
      | false =>
        have hn1 : n = 1 := by simpa using h2
        subst hn1
        have hlt : fd.offset < us.size := by omega
        refine ⟨us[fd.offset], ?_, ?_⟩
        · simp [hlt]
        · simp only [cellsV, Bool.false_eq_true, if_false]
          have hlt' : fd.offset < cs.length := by omega
          rw [List.drop_eq_getElem_cons hlt']
          exact hr fd.offset _ _ (by simp [hlt']) (by simp [hlt])
  | _ => exact gives_no

theorem os_arr (h : HRel w X ρ H) {r ver off len : Nat} {u : Value} (hx : Rp w X ρ H (.os r ver off len) u) {v sz : Nat} {xs : List (List AV)} (ho : H[r]? = some (.arr v sz xs)) (hv : ver = v) :
    r < H.length ∧ (ρ r).ver = ver ∧ (ρ r).sz = sz ∧ 0 < sz ∧ (∀ x ∈ xs, x.length = sz) ∧ xs.length * sz ≤ (ρ r).ext ∧ OsOk (ρ r) off len u ∧
      ∀ b o, (ρ r).blk = some (b, o) → ∃ c e fr, w.heap[b]? = some (.cells c e fr) ∧ o + (ρ r).ext ≤ c.size ∧ noFr fr c.size ∧
        ∀ (i j : Nat) (x : List AV) (y : AV) (u : Value), xs[i]? = some x → x[j]? = some y → c[o + i * sz + j]? = some u → Rep w (Mut X ρ H.length) ρ 0 y u ∧ one u = true := by
  obtain ⟨h1, h2, h3, h4, h5, h6⟩ := h.objs r _ ho
  cases hx with
  | os _ _ _ _ _ _ hr hle hone hp =>
    subst hv
    exact ⟨hr, h1, h2, h3, h4, h5, hp h1.symm, fun b o hblk => by rw [hblk] at h6; exact h6⟩

theorem snd_iaddr {t el : TypeId} {sz : Nat} {x i : AV} {u v : Value} (ht : P.underlying t = some (.slice el)) (hsz : tySz P el = some sz) (h : HRel w X ρ H) (hx : Rp w X ρ H x u) (hi : Rp w X ρ H i v) :
    Gives P (Instr.indexAt t u v) w X ρ H (rIaddr sz x i H) := by
  have key : ∀ (b o len cap : Nat) (k : IntKind) (n : Int), 0 ≤ n → n < len → (Instr.indexAt t (.slice (some ⟨b, o, none⟩) len cap) (.int k n)).run P w = .ok (.pointer (some ⟨b, o + n.toNat * sz, none⟩)) w := by
    intro b o len cap k n h0 h1
    simp [Instr.indexAt, asIntOf, run_underlying ht, h0, h1, tySz_run hsz, Addr.add_lit]
  cases x with
  | sl sz' xs =>
    cases i with
    | v i =>
      have := rep_v hi; subst this
      cases v <;> first | exact gives_no | skip
      rename_i k n
      refine gives_pure h fun ⟨hs, h0, h1⟩ => ?_
      subst hs
      cases hx with
      | slE => simp at h1; omega
      | slN _ _ _ b o cap c hm hb hcap hrow hcell hrep =>
        refine ⟨_, key _ _ _ _ _ _ h0 h1, ?_⟩
        have hlt : n.toNat < xs.length := by omega
        have hx : xs[n.toNat]? = some (xs.getD n.toNat []) := by simp [hlt]
        exact .vp _ _ 0 b (o + n.toNat * sz') (c n.toNat) hm hb (fun j y hy => hcell _ _ _ _ hx hy) (fun j y hy => hrep _ _ _ _ hx hy)
    | _ => exact gives_no
  | os r ver off len =>
    cases i with
    | v i =>
      have := rep_v hi; subst this
      cases v <;> first | exact gives_no | skip
      rename_i k n
      refine gives_pure h fun ⟨h0, h1, hs, hv⟩ => ?_
      simp only [szOk] at hs
      cases ho : H[r]? with
      | none => rw [ho] at hs; exact hs.elim
      | some obj =>
        rw [ho] at hs hv
        cases obj <;> simp at hs
        rename_i v' sz' xs
        subst hs
        simp only [isVer] at hv
        obtain ⟨hr, hver, hsz', _, _, _, ⟨a, cap, rfl, hlc, hcap⟩, _⟩ := os_arr h hx ho hv
        rcases hcap with hcap | ⟨b, o, hblk, rfl, hext⟩
        · omega
        · refine ⟨_, key _ _ _ _ _ _ h0 h1, ?_⟩
          refine .pe _ _ _ _ _ _ hr (by omega) rfl fun _ => ⟨b, o, hblk, ?_⟩
          rw [hsz', Nat.add_mul]
          simp [Nat.add_assoc]
    | _ => exact gives_no
  | _ => exact gives_no

theorem snd_ext {x : AV} {u : Value} {i : Nat} (h : HRel w X ρ H) (hx : Rp w X ρ H x u) : Gives P (Instr.extract u i) w X ρ H (rExt x i H) := by
  cases x with
  | tup xs =>
    refine gives_pure h fun hi => ?_
    cases hx with
    | tup _ _ us hl hr =>
      have hi' : i < us.size := by omega
      refine ⟨us[i], by simp [Instr.extract, hi'], ?_⟩
      exact hr i _ _ (by simp [hi]) (by simp [hi'])
  | _ => exact gives_no

theorem snd_len {t ty : TypeId} {lk : LK} {x : AV} {u : Value} (ht : (lk = .str → P.underlying t = some .string) ∧ (lk = .slc → ∃ e, P.underlying t = some (.slice e)) ∧ (lk = .map → ∃ k e, P.underlying t = some (.map k e)))
    (h : HRel w X ρ H) (hx : Rp w X ρ H x u) : Gives P (Builtin.len_ #[t] ty #[u]) w X ρ H (rLen lk x H) := by
  refine gives_pure h fun ⟨hk, hv⟩ => ?_
  cases lk with
  | str =>
    have h1 := ht.1 rfl
    cases x <;> simp [lkOk] at hk
    rename_i x
    have := rep_v hx; subst this
    cases u <;> simp at hk
    rename_i s
    have hs : (bs s).length = s.size := by cases s; rfl
    exact ⟨_, by simp [Builtin.len_, run_underlying h1, goInt]; rfl, by simp [lenOf, hs]; exact .v _ _⟩
  | slc =>
    obtain ⟨el, h1⟩ := ht.2.1 rfl
    have key : ∀ (a : Option Addr) (n c : Nat), (Builtin.len_ #[t] ty #[.slice a n c]).run P w = .ok (.int .i64 n) w := by
      intro a n c
      simp [Builtin.len_, run_underlying h1, goInt]
    cases x with
    | sl sz xs =>
      cases hx with
      | slE => exact ⟨_, key _ _ _, .v _ _⟩
      | slN => exact ⟨_, key _ _ _, .v _ _⟩
    | os r ver off len =>
      obtain ⟨hb, hver⟩ := hv
      obtain ⟨v', sz, xs, ho⟩ := isArr_some hb
      rw [ho] at hver
      obtain ⟨_, _, _, _, _, _, ⟨a, cap, rfl, _⟩, _⟩ := os_arr h hx ho hver
      exact ⟨_, key _ _ _, .v _ _⟩
    | nc =>
      cases hx
      exact ⟨_, key _ _ _, .v _ _⟩
    | v x =>
      have := rep_v hx; subst this
      cases u with
      | slice a n c =>
        cases a <;> cases n <;> cases c <;> simp [lkOk] at hk
        exact ⟨_, key _ _ _, .v _ _⟩
      | _ => simp [lkOk] at hk
    | _ => simp [lkOk] at hk
  | map =>
    obtain ⟨kt, el, h1⟩ := ht.2.2 rfl
    cases x with
    | mp ks vs =>
      cases hx with
      | mp _ _ _ b es clock hm hb hh hks hvs hr =>
        refine ⟨.int .i64 es.size, ?_, ?_⟩
        · simp [Builtin.len_, run_underlying h1, goInt, getObj, Sem.run, hh]
        · subst hks
          simp [lenOf]
          exact .v _ _
    | v x =>
      have := rep_v hx; subst this
      cases u with
      | map r => cases r with
        | none => exact ⟨_, by simp [Builtin.len_, run_underlying h1, goInt]; rfl, .v _ _⟩
        | some r => simp [lkOk] at hk
      | _ => simp [lkOk] at hk
    | _ => simp [lkOk] at hk
end
end Go.Ax

/- That an operation does what is said of it: slice expressions, look-ups, conversions. -/
namespace Go.Ax
open Go Go.RowKit

section
variable {P : Program} {w : World} {X : Nat → Prop} {ρ : Nat → Loc} {H : AHeap}

/-- Both there, or neither. -/
def RpO (w : World) (X : Nat → Prop) (ρ : Nat → Loc) (H : AHeap) : Option AV → Option Value → Prop
  | none, none => True
  | some x, some u => Rp w X ρ H x u
  | _, _ => False

theorem bnd_int {d : Int} {x : Option AV} {u : Option Value} {n : Int} (h : bnd d x = some n) (hx : RpO w X ρ H x u) : (x = none ∧ u = none ∧ n = d) ∨ ∃ k, u = some (.int k n) := by
  cases x with
  | none =>
    cases u with
    | none => simp [bnd] at h; exact .inl ⟨rfl, rfl, h.symm⟩
    | some u => exact hx.elim
  | some x =>
    cases u with
    | none => exact hx.elim
    | some u =>
      cases x with
      | v x =>
        have := rep_v (show Rp w X ρ H (.v x) u from hx)
        subst this
        cases u <;> simp [bnd] at h
        subst h
        exact .inr ⟨_, rfl⟩
      | _ => simp [bnd] at h

theorem bounds_ok {b : Bool} {len cap : Nat} {lo hi : Option AV} {lv hv : Option Value} {l h : Int} (hl : bnd 0 lo = some l) (hh : bnd len hi = some h) (rl : RpO w X ρ H lo lv) (rh : RpO w X ρ H hi hv)
    (h0 : 0 ≤ l) (h1 : l ≤ h) (h2 : h ≤ len) (h3 : len ≤ cap) : (Instr.sliceBounds b len cap lv hv none).run P w = .ok (l.toNat, h.toNat, cap) w := by
  have e1 : ∀ c, (Instr.sliceBound (.int c h) cap (if b then .sliceAcap else .sliceAlen)).run P w = .ok h.toNat w := fun c => run_sliceBound w c h cap _ (by omega) (by omega)
  have e2 : ∀ c, (Instr.sliceBound (.int c l) h.toNat .sliceB).run P w = .ok l.toNat w := fun c => run_sliceBound w c l _ _ (by omega) (by omega)
  unfold Instr.sliceBounds
  rcases bnd_int hh rh with ⟨rfl, rfl, rfl⟩ | ⟨k, rfl⟩
  · rcases bnd_int hl rl with ⟨rfl, rfl, rfl⟩ | ⟨k', rfl⟩
    · simp
    · have := e2 k'
      simp at this
      simp [this]
  · rcases bnd_int hl rl with ⟨rfl, rfl, rfl⟩ | ⟨k', rfl⟩
    · simp [e1 k]
    · simp [e1 k, e2 k']

theorem extract_bs (s : ByteArray) (l h : Nat) : s.extract l h = mkS (((bs s).drop l).take (h - l)) := by
  apply ByteArray.ext
  apply Array.ext'
  simp [mkS, bs, ByteArray.data_extract, List.extract_eq_take_drop]

theorem len_bs (s : ByteArray) : (bs s).length = s.size := by cases s; rfl

theorem rSliceN_l (x : AV) (b : Option Int) : rSliceN x none b H = .no H := by
  unfold rSliceN
  split <;> first | rfl | contradiction
theorem rSliceN_h (x : AV) (b : Option Int) : rSliceN x b none H = .no H := by
  unfold rSliceN
  split <;> first | rfl | contradiction

theorem snd_slice {t : TypeId} {lk : LK} {n : Nat} {x : AV} {u : Value} {lo hi : Option AV} {lv hv : Option Value} (ht : (lk = .str ∧ P.underlying t = some .string) ∨ (lk = .slc ∧ ∃ e, P.underlying t = some (.slice e) ∧ tySz P e = some n))
    (h : HRel w X ρ H) (hx : Rp w X ρ H x u) (rl : RpO w X ρ H lo lv) (rh : RpO w X ρ H hi hv) : Gives P (Instr.sliceAt t u lv hv none) w X ρ H (rSlice lk n x lo hi H) := by
  unfold rSlice
  refine gives_also fun ⟨hk, hso⟩ => ?_
  cases hl : bnd 0 lo with
  | none => rw [rSliceN_l]; exact gives_no
  | some l =>
    cases hh : bnd ((lenOf x).getD 0) hi with
    | none => rw [rSliceN_h]; exact gives_no
    | some hb =>
      rcases ht with ⟨rfl, ht⟩ | ⟨rfl, el, ht, hn⟩
      · cases x <;> simp [lkOk] at hk
        rename_i x
        have := rep_v hx; subst this
        cases u <;> simp at hk
        rename_i s
        simp only [rSliceN]
        simp only [lenOf, Option.getD_some] at hh
        refine gives_v h fun ⟨h0, h1, h2⟩ => ?_
        have hb := bounds_ok (P := P) (b := false) (len := s.size) (cap := s.size) hl (by rw [← len_bs]; exact hh) rl rh h0 h1 (by rw [← len_bs]; exact h2) (Nat.le_refl _)
        simp [Instr.sliceAt, Instr.slice, run_underlying ht, hb, extract_bs]
      · have key : ∀ (a : Option Addr) (len cap : Nat), (lenOf x).getD 0 = len → len ≤ cap → 0 ≤ l → l ≤ hb → hb ≤ len →
            (Instr.sliceAt t (.slice a len cap) lv hv none).run P w = .ok (.slice (if cap = l.toNat then a else a.map (·.add (l.toNat * n))) (hb.toNat - l.toNat) (cap - l.toNat)) w := by
          intro a len cap hlen hcap h0 h1 h2
          have hb' := bounds_ok (P := P) (b := true) (len := len) (cap := cap) hl (by rw [← hlen]; exact hh) rl rh h0 h1 h2 hcap
          simp [Instr.sliceAt, Instr.slice, run_underlying ht, hb', tySz_run hn]
        cases x with
        | sl sz xs =>
          simp only [rSliceN]
          refine gives_pure h fun ⟨h0, h1, h2⟩ => ?_
          have hlen : (lenOf (.sl sz xs)).getD 0 = xs.length := rfl
          have hsub : ∀ (a : Option Addr) (cap : Nat), u = .slice a xs.length cap → xs.length ≤ cap →
              ∃ v, (Instr.sliceAt t u lv hv none).run P w = .ok v w ∧ v = .slice (if cap = l.toNat then a else a.map (·.add (l.toNat * n))) (hb.toNat - l.toNat) (cap - l.toNat) :=
            fun a cap hu hc => ⟨_, by rw [hu]; exact key a _ cap hlen hc h0 h1 h2, rfl⟩
          cases hx with
          | slE _ _ a cap =>
            obtain ⟨v, hr, rfl⟩ := hsub a cap rfl (Nat.zero_le _)
            refine ⟨_, hr, ?_⟩
            simp only [List.drop_nil, List.take_nil]
            have : hb.toNat - l.toNat = 0 := by simp at h2; omega
            rw [this]
            exact .slE _ _ _ _
          | slN _ _ _ b o cap c hm hbl hcap hrow hcell hrep =>
            obtain ⟨v, hr, rfl⟩ := hsub _ cap rfl hcap
            refine ⟨_, hr, ?_⟩
            by_cases hd : hb.toNat - l.toNat = 0
            · rw [hd, List.take_zero]
              exact .slE _ _ _ _
            · have hne : cap ≠ l.toNat := by omega
              have hnn : xs ≠ [] := by intro h; subst h; simp at h2; omega
              have hs : sz = n := by simpa [szOk, hnn] using hso
              subst hs
              have hlen' : ((xs.drop l.toNat).take (hb.toNat - l.toNat)).length = hb.toNat - l.toNat := by simp; omega
              rw [if_neg hne]
              have hget : ∀ i x, ((xs.drop l.toNat).take (hb.toNat - l.toNat))[i]? = some x → xs[l.toNat + i]? = some x := by
                intro i x hx
                rw [List.getElem?_take] at hx
                split at hx
                · rwa [List.getElem?_drop] at hx
                · cases hx
              have := Rep.slN (w := w) (M := Mut X ρ H.length) (ρ := ρ) H.length sz ((xs.drop l.toNat).take (hb.toNat - l.toNat)) b (o + l.toNat * sz) (cap - l.toNat) (fun i j => c (l.toNat + i) j) hm hbl (by omega)
                (fun x hx => hrow x (List.mem_of_mem_drop (List.mem_of_mem_take hx)))
                (fun i j x y hx hy => by
                  have := hcell (l.toNat + i) j x y (hget i x hx) hy
                  rw [Nat.add_mul] at this
                  rw [show o + l.toNat * sz + i * sz + j = o + (l.toNat * sz + i * sz) + j by omega]
                  exact this)
                (fun i j x y hx hy => hrep _ _ _ _ (hget i x hx) hy)
              rw [hlen'] at this
              simpa [Addr.add_lit] using this
        | os r ver off len =>
          simp only [rSliceN]
          refine gives_pure h fun ⟨h0, h1, h2, hba, hv⟩ => ?_
          obtain ⟨v', sz, xs, ho⟩ := isArr_some hba
          rw [ho] at hv
          simp only [isVer] at hv
          have hlen : (lenOf (.os r ver off len)).getD 0 = len := rfl
          obtain ⟨hr, hver, hs', hs0, hrow, hext, ⟨a, cap, rfl, hlc, hcap⟩, _⟩ := os_arr h hx ho hv
          refine ⟨_, key a len cap hlen hlc h0 h1 h2, ?_⟩
          refine .os _ _ _ _ _ _ hr (by omega) rfl fun _ => ⟨_, _, rfl, by omega, ?_⟩
          by_cases hd : cap = l.toNat
          · exact .inl (by omega)
          · rcases hcap with hcap | ⟨b, o, hblk, rfl, he⟩
            · omega
            · refine .inr ⟨b, o, hblk, ?_, ?_⟩
              · rw [if_neg hd]
                have hs : sz = n := by simpa [szOk, ho] using hso
                rw [← hs, hs']
                simp [Addr.add_lit, Nat.add_mul, Nat.add_assoc]
              · rw [show off + l.toNat + (cap - l.toNat) = off + cap by omega]
                exact he
        | v x =>
          have := rep_v hx; subst this
          cases u with
          | slice a m c =>
            cases a <;> cases m <;> cases c <;> simp [lkOk] at hk
            simp only [rSliceN]
            refine gives_v h fun ⟨h1, h2⟩ => ?_
            subst h1 h2
            rw [key none 0 0 rfl (Nat.le_refl _) (by omega) (by omega) (by omega)]
            rfl
          | _ => simp [lkOk] at hk
        | nc => exact gives_no
        | _ => simp [lkOk] at hk

theorem findNow_ok {kd : KD} {kind : TypeDesc} (hk : (kd = .int → ∃ k, kind = .int k) ∧ (kd = .str → kind = .string) ∧ (kd = .bool → kind = .bool)) (hna : ∀ ks, kd ≠ .agg ks) {k : Value} (hkk : kIs kd k = true) :
    ∀ (es : List MapEntry) (vs : List AV) (i : Nat), vs.length = es.length → (∀ e ∈ es, kCmp k e.key = true) →
      ∃ r, Instr.findNow kind k es i = some r ∧ ((r = none ∧ mget k (es.map (·.key)) vs = none) ∨ ∃ j e x, r = some (i + j, e.val) ∧ es[j]? = some e ∧ vs[j]? = some x ∧ mget k (es.map (·.key)) vs = some x) := by
  intro es
  induction es with
  | nil => intro vs i _ _; exact ⟨none, rfl, .inl ⟨rfl, by cases vs <;> rfl⟩⟩
  | cons e es ih =>
    intro vs i hl hc
    cases vs with
    | nil => simp at hl
    | cons x vs =>
      have hs : Instr.sameNow kind k e.key = some (kEq k e.key) := by
        have h1 := hc e (by simp)
        cases kd with
        | int =>
          obtain ⟨kk, rfl⟩ := hk.1 rfl
          cases k <;> simp [kIs] at hkk
          cases hke : e.key <;> simp [hke, kCmp] at h1
          simp [Instr.sameNow, kEq, h1]
        | str =>
          have := hk.2.1 rfl; subst this
          cases k <;> simp [kIs] at hkk
          cases hke : e.key <;> simp [hke, kCmp] at h1
          simp [Instr.sameNow, kEq, beq_toListBytes, toList_bs]
        | bool =>
          have := hk.2.2 rfl; subst this
          cases k <;> simp [kIs] at hkk
          cases hke : e.key <;> simp [hke, kCmp] at h1
          simp [Instr.sameNow, kEq]
        | agg ks => exact absurd rfl (hna ks)
        | _ => cases k <;> simp [kIs] at hkk
      simp only [Instr.findNow, hs, List.map_cons, mget]
      cases hb : kEq k e.key with
      | true => exact ⟨_, rfl, .inr ⟨0, e, x, rfl, rfl, rfl, by simp⟩⟩
      | false =>
        obtain ⟨r, h1, h2⟩ := ih vs (i + 1) (by simpa using hl) (fun e' he' => hc e' (by simp [he']))
        refine ⟨r, h1, ?_⟩
        simp only [Bool.false_eq_true, if_false]
        rcases h2 with ⟨rfl, h2⟩ | ⟨j, e', x', rfl, h3, h4, h5⟩
        · exact .inl ⟨rfl, h2⟩
        · exact .inr ⟨j + 1, e', x', by rw [Nat.add_assoc, Nat.add_comm 1 j], by simpa using h3, by simpa using h4, h5⟩

theorem kd_kind {kt : TypeId} {kd : KD} (hk : keyKD P kt = some kd) : (∃ kind, P.underlying kt = some kind ∧ ((kd = .int → ∃ k, kind = .int k) ∧ (kd = .str → kind = .string) ∧ (kd = .bool → kind = .bool)) ∧ ∀ ks, kd ≠ .agg ks) ∨ ∃ e kk, kd = .agg [.int, .int] ∧ P.underlying kt = some (.array 2 e) ∧ P.underlying e = some (.int kk) ∧ P.cellsOf e = 1 := by
  unfold keyKD at hk
  cases hd : P.underlying kt with
  | none => simp [hd, tyKD] at hk
  | some d =>
    cases d <;> simp [hd, tyKD] at hk
    case array n e =>
      obtain ⟨⟨rfl, he, hc⟩, rfl⟩ := hk
      unfold isIntT at he
      cases hu : P.underlying e with
      | none => simp [hu] at he
      | some de =>
        cases de <;> simp [hu] at he
        rename_i kk
        exact .inr ⟨e, kk, rfl, rfl, hu, hc⟩
    all_goals (subst hk; exact .inl ⟨_, rfl, by simp, by simp⟩)
theorem info_of {e : TypeId} {d : TypeDesc} (h : P.underlying e = some d) : ∃ i, P.info? e = some i := by
  cases hi : P.info? e with
  | none => simp [Program.underlying, hi] at h
  | some i => exact ⟨i, rfl⟩
theorem plain_int {e : TypeId} {kk : IntKind} (h : P.underlying e = some (.int kk)) : P.plainKey e = true := by
  unfold Program.plainKey
  rw [h]
theorem kIs2_two {l : List Value} (h : kIs2 l = true) : ∃ k a k' b, l = [.int k a, .int k' b] := by
  unfold kIs2 at h
  split at h
  · exact ⟨_, _, _, _, rfl⟩
  · cases h

theorem checkKey_ok {kt : TypeId} {kd : KD} (hk : keyKD P kt = some kd) {k : Value} (hkk : kIs kd k = true) (b : Bool) (n : Nat) : (Instr.checkKey b (n + 2) kt k).run P w = .ok () w := by
  rcases kd_kind hk with ⟨kind, h1, h2, hna⟩ | ⟨e, kk, rfl, h1, h2, h3⟩
  · cases kd with
    | int =>
      obtain ⟨kk, rfl⟩ := h2.1 rfl
      cases k <;> simp [kIs] at hkk
      simp [Instr.checkKey, run_underlying h1]
    | str =>
      have := h2.2.1 rfl; subst this
      cases k <;> simp [kIs] at hkk
      simp [Instr.checkKey, run_underlying h1]
    | bool =>
      have := h2.2.2 rfl; subst this
      cases k <;> simp [kIs] at hkk
      simp [Instr.checkKey, run_underlying h1]
    | agg ks => exact absurd rfl (hna ks)
    | _ => cases k <;> simp [kIs] at hkk
  · cases k <;> simp [kIs] at hkk
    rename_i cs
    obtain ⟨k1, a, k2, b', hl⟩ := kIs2_two hkk
    have hcs : cs = #[.int k1 a, .int k2 b'] := by apply Array.ext'; simpa using hl
    subst hcs
    obtain ⟨i, hi⟩ := info_of h2
    have p1 : (part e #[.int k1 a, .int k2 b'] 0).run P w = .ok (.int k1 a) w := run_part_plain w (plain_int h2) rfl
    have p2 : (part e #[.int k1 a, .int k2 b'] 1).run P w = .ok (.int k2 b') w := run_part_plain w (plain_int h2) rfl
    have c1 : ∀ k x, (Instr.checkKey b (n + 1) e (.int k x)).run P w = .ok () w := fun k x => by simp [Instr.checkKey, run_underlying h2]
    unfold Instr.checkKey
    simp only [Sem.run_bind, run_underlying h1, Result.andThen_ok]
    simp [Std.Legacy.Range.forIn_eq_forIn_range', Std.Legacy.Range.size, List.range', run_sizeOf w hi, h3, p1, p2, c1]

theorem equal_two {kt e : TypeId} {kk : IntKind} (h1 : P.underlying kt = some (.array 2 e)) (h2 : P.underlying e = some (.int kk)) (h3 : P.cellsOf e = 1) {xs ys : Array Value} (hc : kCmp2 xs.toList ys.toList = true) :
    (Op.equal kt (.agg xs) (.agg ys)).run P w = .ok (kEq2 xs.toList ys.toList) w := by
  obtain ⟨i, hi⟩ := info_of h2
  have hx : ∃ k a l b c d, xs.toList = [.int k a, .int l b] ∧ ys.toList = [.int k c, .int l d] := by
    unfold kCmp2 at hc
    split at hc
    · rename_i hx hy
      simp only [Bool.and_eq_true, beq_iff_eq] at hc
      obtain ⟨rfl, rfl⟩ := hc
      exact ⟨_, _, _, _, _, _, hx, hy⟩
    · cases hc
  obtain ⟨k, a, l, b, c, d, hx, hy⟩ := hx
  have ex : xs = #[.int k a, .int l b] := by apply Array.ext'; simpa using hx
  have ey : ys = #[.int k c, .int l d] := by apply Array.ext'; simpa using hy
  subst ex ey
  have p1 : ∀ (m m' : IntKind) (x y : Int), (part e #[.int m x, .int m' y] 0).run P w = .ok (.int m x) w := fun m m' x y => run_part_plain w (plain_int h2) rfl
  have p2 : ∀ (m m' : IntKind) (x y : Int), (part e #[.int m x, .int m' y] 1).run P w = .ok (.int m' y) w := fun m m' x y => run_part_plain w (plain_int h2) rfl
  have q0 : ∀ (d : Nat) (m : IntKind) (x y : Int), (Op.equalIn (d + 1) e (.int m x) (.int m y)).run P w = .ok (x == y) w := fun d m x y => by simp [Op.equalIn, run_underlying h2]
  have q : ∀ (m : IntKind) (x y : Int), (Op.equalIn 9999 e (.int m x) (.int m y)).run P w = .ok (x == y) w := fun m x y => q0 9998 m x y
  unfold Op.equal
  show (Op.equalIn (9999 + 1) kt _ _).run P w = _
  rw [run_equalIn_array w 9999 _ _ h1 hi, h3]
  have hr : List.range 2 = [0, 1] := rfl
  rw [hr]
  simp only [Op.eqItems, Nat.zero_mul, Nat.one_mul, Sem.run_bind, p1, q, Result.andThen_ok]
  cases h : a == c <;> cases h' : b == d <;> simp [kEq2, h, h', p2, q]

theorem findAsk_ok {kt e : TypeId} {kk : IntKind} (h1 : P.underlying kt = some (.array 2 e)) (h2 : P.underlying e = some (.int kk)) (h3 : P.cellsOf e = 1) {k : Value} (hkk : kIs (.agg [.int, .int]) k = true) :
    ∀ (es : List MapEntry) (vs : List AV) (i : Nat), vs.length = es.length → (∀ e ∈ es, kCmp k e.key = true) →
      ∃ r, (Instr.findAsking kt k es i).run P w = .ok r w ∧ ((r = none ∧ mget k (es.map (·.key)) vs = none) ∨ ∃ j e x, r = some (i + j, e.val) ∧ es[j]? = some e ∧ vs[j]? = some x ∧ mget k (es.map (·.key)) vs = some x) := by
  intro es
  induction es with
  | nil => intro vs i _ _; exact ⟨none, by simp [Instr.findAsking], .inl ⟨rfl, by cases vs <;> rfl⟩⟩
  | cons e es ih =>
    intro vs i hl hc
    cases vs with
    | nil => simp at hl
    | cons x vs =>
      have hs : (Op.equal kt k e.key).run P w = .ok (kEq k e.key) w := by
        have h := hc e (by simp)
        cases k <;> simp [kIs] at hkk
        cases hke : e.key <;> simp [hke, kCmp] at h
        exact equal_two h1 h2 h3 h
      simp only [Instr.findAsking, Sem.run_bind, hs, Result.andThen_ok, List.map_cons, mget]
      cases hb : kEq k e.key with
      | true => exact ⟨some (i, e.val), by simp, .inr ⟨0, e, x, rfl, rfl, rfl, by simp⟩⟩
      | false =>
        obtain ⟨r, g1, g2⟩ := ih vs (i + 1) (by simpa using hl) (fun e' he' => hc e' (by simp [he']))
        refine ⟨r, by simpa using g1, ?_⟩
        simp only [Bool.false_eq_true, if_false]
        rcases g2 with ⟨rfl, g2⟩ | ⟨j, e', x', rfl, g3, g4, g5⟩
        · exact .inl ⟨rfl, g2⟩
        · exact .inr ⟨j + 1, e', x', by rw [Nat.add_assoc, Nat.add_comm 1 j], by simpa using g3, by simpa using g4, g5⟩

theorem findKey_ok {kt : TypeId} {kd : KD} (hk : keyKD P kt = some kd) {k : Value} (hkk : kIs kd k = true) (es : List MapEntry) (vs : List AV) (hl : vs.length = es.length) (hc : ∀ e ∈ es, kCmp k e.key = true) :
    ∃ r, (Instr.findKey kt k es).run P w = .ok r w ∧ ((r = none ∧ mget k (es.map (·.key)) vs = none) ∨ ∃ j e x, r = some (j, e.val) ∧ es[j]? = some e ∧ vs[j]? = some x ∧ mget k (es.map (·.key)) vs = some x) := by
  rcases kd_kind hk with ⟨kind, h1, h2, hna⟩ | ⟨e, kk, rfl, h1, h2, h3⟩
  · obtain ⟨r, h3, h4⟩ := findNow_ok h2 hna hkk es vs 0 hl hc
    refine ⟨r, ?_, by simpa using h4⟩
    simp [Instr.findKey, run_underlying h1, h3]
  · obtain ⟨r, h4, h5⟩ := findAsk_ok (w := w) h1 h2 h3 hkk es vs 0 hl hc
    refine ⟨r, ?_, by simpa using h5⟩
    rw [run_findKey_eq w (by rw [h1]) k es]
    exact h4

/-- A pair that is a key, as one value. -/
theorem keyV_rep {k : AV} {u : Value} (h : Rp w X ρ H k u) : Rp w X ρ H (keyV k) u := by
  unfold keyV
  split
  · rename_i a b
    obtain ⟨us, rfl⟩ : ∃ us, u = .agg us := by cases h; exact ⟨_, rfl⟩
    have e := avs_exact (la := [a, b]) h
    subst e
    exact .v _ _
  · exact h

theorem zeroA_rep {M : Nat → Prop} {k : Nat} (z : Value) : Rep w M ρ k (zeroA z) z := by
  cases z <;> first | exact .v _ _ | skip
  rename_i cs
  refine .agg _ _ _ (by simp [avs]) fun i x u hx hu => ?_
  simp only [avs, List.getElem?_map, Array.getElem?_toList, hu, Option.map_some, Option.some.injEq] at hx
  subst hx
  exact .v _ _

theorem snd_look {t kt el : TypeId} {kd : KD} {z : Value} {ok : Bool} {m k : AV} {u v : Value} (ht : P.underlying t = some (.map kt el)) (hk : keyKD P kt = some kd) (hz : tyZero P el = some z)
    (h : HRel w X ρ H) (hm : Rp w X ρ H m u) (hkr : Rp w X ρ H k v) : Gives P (Instr.lookup t u v ok) w X ρ H (rLook kd (zeroA z) ok m k H) := by
  have hzr : ∀ w : World, (zeroValue el).run P w = .ok z w := by
    intro w
    unfold tyZero at hz
    cases hi : P.info? el with
    | none => simp [hi] at hz
    | some i => simp [hi] at hz; simp [zeroValue, typeInfo, hi, hz]
  have key : ∀ (b : Nat) (es : Array MapEntry) (clock : Nat) (ks : List Value) (vs : List AV), w.heap[b]? = some (.map es clock) → ks = es.toList.map (·.key) → vs.length = es.size →
      (∀ (i : Nat) (x : AV) (e : MapEntry), vs[i]? = some x → es[i]? = some e → Rep w (Mut X ρ H.length) ρ 0 x e.val) → ∀ kv, (∀ k' ∈ ks, kCmp kv k' = true) ∧ kIs kd kv = true →
      ∃ r, (Instr.lookup t (.map (some b)) kv ok).run P w = .ok r w ∧ Rp w X ρ H (lookV (zeroA z) ok (mget kv ks vs)) r := by
    intro b es clock ks vs hb hks hvs hr kv ⟨h1, h2⟩
    subst hks
    obtain ⟨r, h3, h4⟩ := findKey_ok (w := w) hk h2 es.toList vs (by simpa using hvs) (fun e he => h1 _ (List.mem_map.2 ⟨e, he, rfl⟩))
    have hget : (getObj b).run P w = .ok (.map es clock) w := by simp [getObj, Sem.run, hb]
    unfold Instr.lookup
    simp only [Sem.run_bind, run_underlying ht, Result.andThen_ok, hget, Sem.run_pure, checkKey_ok hk h2, h3]
    rcases h4 with ⟨rfl, h4⟩ | ⟨j, e, x, rfl, h5, h6, h7⟩
    · rw [h4]
      cases ok with
      | true =>
        refine ⟨.tuple #[z, .bool false], by simp [hzr], ?_⟩
        refine .tup _ _ _ rfl fun i x u hx hu => ?_
        match i with
        | 0 => simp at hx hu; subst hx; subst hu; exact zeroA_rep z
        | 1 => simp at hx hu; subst hx; subst hu; exact .v _ _
        | n + 2 => simp at hx
      | false => exact ⟨z, by simp [hzr], zeroA_rep z⟩
    · rw [h7]
      have hrep : Rp w X ρ H x e.val := (hr j x e h6 (by simpa using h5)).mono (Nat.zero_le _)
      cases ok with
      | true =>
        refine ⟨.tuple #[e.val, .bool true], by simp, ?_⟩
        refine .tup _ _ _ rfl fun i x u hx hu => ?_
        match i with
        | 0 => simp at hx hu; subst hx; subst hu; exact hrep
        | 1 => simp at hx hu; subst hx; subst hu; exact .v _ _
        | n + 2 => simp at hx
      | false => exact ⟨e.val, by simp, hrep⟩
  cases m with
  | mp ks vs =>
    cases k with
    | v k =>
      have := rep_v hkr; subst this
      refine gives_pure h fun hp => ?_
      cases hm with
      | mp _ _ _ b es clock hmm hb hh hks hvs hr => exact key b es clock ks vs hh hks hvs hr v hp
    | _ => exact gives_no
  | om r ver =>
    cases k with
    | v k =>
      have := rep_v hkr; subst this
      simp only [rLook]
      cases ho : H[r]? with
      | none => exact gives_no
      | some obj =>
        cases obj <;> first | exact gives_no | skip
        rename_i ver' ks vs
        refine gives_also fun hver => ?_
        subst hver
        refine gives_pure h fun hp => ?_
        obtain ⟨h1, b, es, clock, hblk, hh, hks, hvs, hr⟩ := h.objs r _ ho
        cases hm with
        | om _ _ _ _ hrl hle hone hpt =>
          obtain ⟨b', o', hb', rfl⟩ := hpt h1.symm
          rw [hblk] at hb'
          simp only [Option.some.injEq, Prod.mk.injEq] at hb'
          obtain ⟨rfl, _⟩ := hb'
          exact key b es clock ks vs hh hks hvs hr v hp
    | _ => exact gives_no
  | _ => exact gives_no
end
end Go.Ax

/- That an operation does what is said of it: those that make memory, and stores. -/
namespace Go.Ax
open Go Go.RowKit

theorem one_eq (v : Value) : v.oneCell' = one v := by cases v <;> rfl

/-- A row of cells written into a list. -/
theorem getElem?_splice {α : Type} (l vs : List α) (o j : Nat) (h : o + vs.length ≤ l.length) :
    (l.take o ++ vs ++ l.drop (o + vs.length))[j]? = if j < o then l[j]? else if j < o + vs.length then vs[j - o]? else l[j]? := by
  have h1 : (l.take o).length = o := by simp; omega
  rw [List.append_assoc, List.getElem?_append, h1]
  split
  · rename_i hj; rw [List.getElem?_take, if_pos hj]
  · rename_i hj
    rw [List.getElem?_append]
    split
    · rename_i h2; rw [if_pos (by omega)]
    · rename_i h2
      rw [if_neg (by omega), List.getElem?_drop]
      congr 1
      omega

section
variable {P : Program} {w : World} {X : Nat → Prop} {ρ : Nat → Loc} {H : AHeap}

theorem run_storeCells_fr (g o : Nat) (t : TypeId) (fr : Nat × Nat) : ∀ (vs : List Value) (i : Nat) (cur : Array Value) (w : World), w.heap[g]? = some (.cells cur t fr) → noFr fr cur.size → o + i + vs.length ≤ cur.size → (∀ v ∈ vs, one v = true) →
    (storeCells ⟨g, o, none⟩ vs i).run P w = .ok () (w.setRow g (cur.toList.take (o + i) ++ vs ++ cur.toList.drop (o + i + vs.length)).toArray)
  | [], i, cur, w, hg, _, _, _ => by
    simp only [storeCells, List.append_nil, List.length_nil, Nat.add_zero, List.take_append_drop, Array.toArray_toList]
    rw [setRow_self w g cur t fr hg]
    rfl
  | v :: rest, i, cur, w, hg, hfr, hl, h1 => by
    have hi : o + i < cur.size := by simp at hl; omega
    have hadd : (⟨g, o, none⟩ : Addr).add i = ⟨g, o + i, none⟩ := Addr.add_lit _ _ _
    have hcell : w.cell? ⟨g, o + i, none⟩ = some cur[o + i] := by simp [World.cell?, hg, hi]
    have hfro : w.frozen? ⟨g, o + i, none⟩ = false := by
      simp only [World.frozen?, hg]
      rcases hfr with h | h
      · simp; omega
      · simp; omega
    have hst : (store ((⟨g, o, none⟩ : Addr).add i) v).run P w = .ok () (w.setRow g (cur.setIfInBounds (o + i) v)) := by
      rw [hadd, run_store P w _ v _ (by rw [one_eq]; exact h1 v (by simp)), hcell]
      simp [hfro, setCell_eq_setRow w g (o + i) cur t fr v hg]
    have ih := run_storeCells_fr g o t fr rest (i + 1) (cur.setIfInBounds (o + i) v) (w.setRow g (cur.setIfInBounds (o + i) v)) (setRow_heap w g cur _ t _ hg) (by simpa using hfr) (by simp at hl ⊢; omega) (fun x hx => h1 x (by simp [hx]))
    simp only [storeCells, Sem.run_bind, hst, Result.andThen_ok, ih, setRow_setRow]
    congr 3
    have e := list_seg_step cur.toList (o + i) v rest (by simp at hl ⊢; omega)
    simpa [Array.toList_setIfInBounds, Nat.add_assoc] using e

theorem Same.setRow (w : World) (g : Nat) (cs : Array Value) : Same w (w.setRow g cs) := ⟨rfl, rfl, rfl, by simp [World.setRow]⟩

/-- A variable is written. -/
theorem storeVar_ok {t : TypeId} {n b o : Nat} (hn : tySz P t = some n) {x : AV} {u : Value} {M : Nat → Prop} {k : Nat} (hx : Rep w M ρ k x u) (hl : (cellsOf x).length = n) (h1 : c1s (cellsOf x) = true)
    {c : Array Value} {e : TypeId} {fr : Nat × Nat} (hh : w.heap[b]? = some (.cells c e fr)) (hfr : noFr fr c.size) (hb : o + n ≤ c.size) :
    (storeVar t ⟨b, o, none⟩ u).run P w = .ok () (w.setRow b (c.toList.take o ++ u.cells.toList ++ c.toList.drop (o + u.cells.toList.length)).toArray) := by
  obtain ⟨hc, hr⟩ := rep_cells hx h1
  have hsz : u.cells.size = n := by omega
  have hst := run_storeCells_fr (P := P) b o e fr u.cells.toList 0 c w hh hfr (by simp [hsz]; omega) (fun v hv => by
    obtain ⟨i, hi⟩ := List.mem_iff_getElem?.1 hv
    have hlt : i < (cellsOf x).length := by
      have := (List.getElem?_eq_some_iff.1 hi).1
      simp at this
      omega
    exact (hr i (cellsOf x)[i] v (by simp [hlt]) (by simpa using hi)).2)
  simp only [Nat.add_zero] at hst
  simp [storeVar, tySz_run hn, hsz, hst]

theorem splice_bnil {cs new : List AV} {off : Nat} {t : TypeId} (hc : c1s new = true) (ho : off ≤ cs.length) (h : (splice cs off new)[0]? = some (.bnil t)) : cs[0]? = some (.bnil t) := by
  unfold splice at h
  cases off with
  | succ off =>
    cases cs with
    | nil => simp at ho
    | cons x cs => simpa using h
  | zero =>
    cases new with
    | nil => simpa using h
    | cons y new =>
      simp at h
      subst h
      simp [c1s, c1] at hc
theorem box_bn (h : HRel w X ρ H) {r : Nat} {cs : List AV} (ho : H[r]? = some (.box cs)) {b : Nat} {c : Array Value} {e : TypeId} {fr : Nat × Nat} (hb : (ρ r).blk = some (b, 0)) (hh : w.heap[b]? = some (.cells c e fr)) : ∀ t, cs[0]? = some (.bnil t) → e = t ∧ fr = (0, 0) := by
  obtain ⟨_, b', c', e', fr', h2, h3, _, h5, _⟩ := h.objs r _ ho
  rw [hb] at h2
  cases h2
  rw [hh] at h3
  cases h3
  exact h5.2

theorem snd_store {t : TypeId} {n : Nat} {p x : AV} {u v : Value} (hn : tySz P t = some n) (h : HRel w X ρ H) (hp : Rp w X ρ H p u) (hx : Rp w X ρ H x v) : GivesU P (Instr.storeAt t u v) w X ρ H (rStore n p x H) := by
  have at_ : ∀ a : Addr, Instr.storeAt t (.pointer (some a)) v = storeVar t a v := fun a => rfl
  cases p with
  | ptr r ver off =>
    simp only [rStore]
    rintro ⟨⟨hb, hv⟩, hok⟩
    obtain ⟨cs, ho⟩ := isBox_some hb
    rw [ho] at hv hok ⊢
    simp only [rStoreO] at hok
    obtain ⟨h1, h2, h3⟩ := hok
    obtain ⟨hr, b, c, e, fr, hblk, rfl, hh, hl, hfr, hver, hrep⟩ := ptr_box h hp ho hv
    obtain ⟨hcl, hcr⟩ := rep_cells hx h3
    rw [at_]
    have hst := storeVar_ok (P := P) hn hx h2 h3 hh hfr (o := off) (by omega)
    simp only [Res.also, rStoreO]
    obtain ⟨ρ', _, hrel, hfut⟩ := h.setAt (w' := w.setRow b (c.toList.take off ++ v.cells.toList ++ c.toList.drop (off + v.cells.toList.length)).toArray) hr (ρ r) (.box (splice cs off (cellsOf x)))
      (Same.setRow _ _ _) (.inl rfl) (fun b o hb => .inl ⟨o, hb⟩) (fun b' hb' hne => setRow_other _ _ _ _ (fun e => hne 0 (by rw [e]; exact hblk))) (fun ρ' hρ' hf => by
        refine ⟨hver, b, _, e, fr, hblk, setRow_heap w b c _ e fr hh, ?_, ?_, ?_⟩
        · simp [splice]; omega
        · have : ((c.toList.take off ++ v.cells.toList ++ c.toList.drop (off + v.cells.toList.length)).toArray).size = c.size := by simp; omega
          rw [this]; exact ⟨hfr, fun t ht => box_bn h ho hblk hh t (splice_bnil h3 (by omega) ht)⟩
        · intro j y z hy hz
          have hz' : (c.toList.take off ++ v.cells.toList ++ c.toList.drop (off + v.cells.toList.length))[j]? = some z := by simpa using hz
          rw [getElem?_splice _ _ _ _ (by simp; omega)] at hz'
          simp only [splice] at hy
          rw [getElem?_splice _ _ _ _ (by omega)] at hy
          have hlen : v.cells.toList.length = (cellsOf x).length := by simp; omega
          rw [hlen] at hz'
          by_cases hj1 : j < off
          · rw [if_pos hj1] at hy hz'
            have := hrep j y z hy (by simpa using hz')
            exact ⟨this.1.nextN hf, this.2⟩
          · rw [if_neg hj1] at hy hz'
            by_cases hj2 : j < off + (cellsOf x).length
            · rw [if_pos hj2] at hy hz'
              have := hcr (j - off) y z hy (by simpa using hz')
              exact ⟨this.1.nextN hf, this.2⟩
            · rw [if_neg hj2] at hy hz'
              have := hrep j y z hy (by simpa using hz')
              exact ⟨this.1.nextN hf, this.2⟩)
    exact ⟨trivial, _, ρ', hst, hrel, hfut⟩
  | pe r ver i off =>
    simp only [rStore]
    rintro ⟨⟨hb, hv⟩, hok⟩
    obtain ⟨ver', sz, xs, ho⟩ := isArr_some hb
    rw [ho] at hv hok ⊢
    simp only [rStoreO] at hok
    obtain ⟨h0, h1, h2, h3, h4⟩ := hok
    simp only [isVer] at hv
    obtain ⟨hr, b, o, c, e, fr, hblk, rfl, hh, hext, hfr, hle, hrow, hsz0, hver, hszr, hrep⟩ := pe_arr h hp ho hv h0
    obtain ⟨hcl, hcr⟩ := rep_cells hx h3
    have hgi : xs[i]? = some (xs.getD i []) := by simp [h0]
    have hxl : (xs.getD i []).length = sz := hrow _ (List.mem_of_getElem? hgi)
    have hin : o + (i * sz + off) + n ≤ c.size := by
      have : (i + 1) * sz ≤ xs.length * sz := Nat.mul_le_mul_right _ h0
      rw [Nat.add_mul] at this
      omega
    rw [at_]
    have hst := storeVar_ok (P := P) hn hx h2 h3 hh hfr (o := o + (i * sz + off)) hin
    simp only [Res.also, rStoreO]
    have hlen : v.cells.toList.length = (cellsOf x).length := by simp; omega
    obtain ⟨ρ', _, hrel, hfut⟩ := h.setAt (w' := w.setRow b (c.toList.take (o + (i * sz + off)) ++ v.cells.toList ++ c.toList.drop (o + (i * sz + off) + v.cells.toList.length)).toArray) hr (ρ r) (.arr ver' sz (xs.set i (splice (xs.getD i []) off (cellsOf x))))
      (Same.setRow _ _ _) (.inl rfl) (fun b o hb => .inl ⟨o, hb⟩) (fun b' hb' hne => setRow_other _ _ _ _ (fun e => hne o (by rw [e]; exact hblk))) (fun ρ' hρ' hf => by
        have hsl : (splice (xs.getD i []) off (cellsOf x)).length = sz := by simp only [splice, List.length_append, List.length_take, List.length_drop]; omega
        refine ⟨by omega, hszr, hsz0, ?_, by simpa using hle, ?_⟩
        · intro y hy
          rcases List.mem_or_eq_of_mem_set hy with hy | rfl
          · exact hrow y hy
          · exact hsl
        · rw [hblk]
          have hsize : ((c.toList.take (o + (i * sz + off)) ++ v.cells.toList ++ c.toList.drop (o + (i * sz + off) + v.cells.toList.length)).toArray).size = c.size := by simp; omega
          refine ⟨_, e, fr, setRow_heap w b c _ e fr hh, by rw [hsize]; exact hext, by rw [hsize]; exact hfr, ?_⟩
          intro i' j x' y z hx' hy hz
          have hz' : (c.toList.take (o + (i * sz + off)) ++ v.cells.toList ++ c.toList.drop (o + (i * sz + off) + v.cells.toList.length))[o + i' * sz + j]? = some z := by simpa using hz
          rw [getElem?_splice _ _ _ _ (by simp; omega), hlen] at hz'
          have hold : ∀ (x'' : List AV), xs[i']? = some x'' → x''[j]? = some y → c[o + i' * sz + j]? = some z → Rep (w.setRow b (c.toList.take (o + (i * sz + off)) ++ v.cells.toList ++ c.toList.drop (o + (i * sz + off) + v.cells.toList.length)).toArray) (Mut X ρ' H.length) ρ' 0 y z ∧ one z = true := fun x'' g1 g2 g3 => by
            have := hrep i' j x'' y z g1 g2 g3
            exact ⟨this.1.next hf (Nat.zero_le _), this.2⟩
          by_cases hii : i' = i
          · subst hii
            rw [List.getElem?_set_self h0] at hx'
            simp only [Option.some.injEq] at hx'
            subst hx'
            simp only [splice] at hy
            rw [getElem?_splice _ _ _ _ (by omega)] at hy
            by_cases hj1 : j < off
            · rw [if_pos (by omega)] at hz'
              rw [if_pos hj1] at hy
              exact hold _ hgi hy (by simpa using hz')
            · rw [if_neg (by omega)] at hz'
              rw [if_neg hj1] at hy
              by_cases hj2 : j < off + (cellsOf x).length
              · rw [if_pos (by omega)] at hz'
                rw [if_pos hj2] at hy
                rw [show o + i' * sz + j - (o + (i' * sz + off)) = j - off by omega] at hz'
                have := hcr (j - off) y z hy (by simpa using hz')
                have hcy := clL_all h4 hy
                exact ⟨(this.1.of_cl hcy).next hf (Nat.zero_le _), this.2⟩
              · rw [if_neg (by omega)] at hz'
                rw [if_neg hj2] at hy
                exact hold _ hgi hy (by simpa using hz')
          · rw [List.getElem?_set_ne (fun e => hii e.symm)] at hx'
            have hj : j < sz := by
              have := (List.getElem?_eq_some_iff.1 hy).1
              rw [hrow x' (List.mem_of_getElem? hx')] at this
              exact this
            have hi' : i' < xs.length := (List.getElem?_eq_some_iff.1 hx').1
            rcases Nat.lt_or_gt_of_ne hii with hlt | hgt
            · have : (i' + 1) * sz ≤ i * sz := Nat.mul_le_mul_right _ hlt
              rw [Nat.add_mul] at this
              rw [if_pos (by omega)] at hz'
              exact hold _ hx' hy (by simpa using hz')
            · have : (i + 1) * sz ≤ i' * sz := Nat.mul_le_mul_right _ hgt
              rw [Nat.add_mul] at this
              rw [if_neg (by omega), if_neg (by omega)] at hz'
              exact hold _ hx' hy (by simpa using hz'))
    exact ⟨trivial, _, ρ', hst, hrel, hfut⟩
  | _ => intro hok; exact hok.elim
end
end Go.Ax

/- That an operation does what is said of it: new variables, structs, slices and maps. -/
namespace Go.Ax
open Go Go.RowKit

section
variable {P : Program} {w : World} {X : Nat → Prop} {ρ : Nat → Loc} {H : AHeap}

theorem not_mut_new (h : HRel w X ρ H) {b : Nat} (hb : w.heap.size ≤ b) : ¬ Mut X ρ H.length b := by
  rintro (hx | ho)
  · have := h.xlt b hx; omega
  · have := ho.lt h; omega

theorem heap_new (w : World) (o : Obj) : (w.alloc o).heap[w.heap.size]? = some o := by
  show (w.heap.push o)[w.heap.size]? = _
  simp

/-- A new variable of these cells, which the run owns. -/
theorem push_box (h : HRel w X ρ H) {cs : List AV} {c : Array Value} {t : TypeId} (hbn : ∀ t', cs[0]? = some (.bnil t') → t = t') (hl : cs.length = c.size) (hr : ∀ (j : Nat) (y : AV) (u : Value), cs[j]? = some y → c[j]? = some u → Rp w X ρ H y u ∧ one u = true) :
    ∃ ρ', HRel (w.alloc (.cells c t)) X ρ' (H ++ [.box cs]) ∧ Rep (w.alloc (.cells c t)) (Mut X ρ' (H ++ [HO.box cs]).length) ρ' (H ++ [HO.box cs]).length (.ptr H.length 0 0) (.pointer (some ⟨w.heap.size, 0, none⟩)) ∧
      Fut w ρ H.length (w.alloc (.cells c t)) ρ' (H ++ [HO.box cs]).length := by
  obtain ⟨ρ', hl', hrel, hf⟩ := h.push (w' := w.alloc (.cells c t)) { blk := some (w.heap.size, 0) } (.box cs) (Same.alloc _ _) (fun b o hb => by simp at hb; obtain ⟨rfl, _⟩ := hb; simp) (heap_old w _)
    (fun ρ' hf hl' => ⟨rfl, w.heap.size, c, t, (0, 0), rfl, heap_new w _, hl, ⟨.inl rfl, fun t' ht => ⟨hbn t' ht, rfl⟩⟩, fun j y u hy hu => ⟨((hr j y u hy hu).1.next hf (Nat.le_refl _)).mono (Nat.le_succ _), (hr j y u hy hu).2⟩⟩)
  exact ⟨ρ', hrel, .ptr _ _ _ _ _ (by simp) (by rw [hl']; exact Nat.le_refl _) rfl fun _ => ⟨w.heap.size, 0, by rw [hl'], rfl⟩, hf⟩

theorem snd_alloc {t : TypeId} {z : Value} (hz : tyZero P t = some z) (h : HRel w X ρ H) :
    Gives P (Instr.alloc t true (.tuple #[])) w X ρ H ⟨c1s (avs z.cells.toList) = true, .ptr H.length 0 0, H ++ [.box (avs z.cells.toList)]⟩ := by
  intro hc
  have hzr : (zeroValue t).run P w = .ok z w := by
    unfold tyZero at hz
    cases hi : P.info? t with
    | none => simp [hi] at hz
    | some i => simp [hi] at hz; simp [zeroValue, typeInfo, hi, hz]
  obtain ⟨ρ', h1, h2, h3⟩ := push_box h (cs := avs z.cells.toList) (c := z.cells) (t := t) (fun t' ht => by rw [avs, List.getElem?_map] at ht; cases hz0 : z.cells.toList[0]? <;> rw [hz0] at ht <;> cases ht) (by simp [avs]) (fun j y u hy hu => by
    simp only [avs, List.getElem?_map, Array.getElem?_toList, hu, Option.map_some, Option.some.injEq] at hy
    subst hy
    refine ⟨.v _ _, ?_⟩
    simp only [c1s, List.all_eq_true, avs, List.mem_map] at hc
    exact hc (.v u) ⟨u, List.mem_of_getElem? (by simpa using hu), rfl⟩)
  exact ⟨_, _, ρ', by simp [Instr.alloc, hzr, newVar, newRow], h1, h2, h3⟩

theorem isNilP_eq {x : AV} (h : isNilP x = true) : x = .v (.pointer none) := by
  unfold isNilP at h
  split at h
  · rfl
  · cases h
/-- A new variable whose first cell is a nil pointer, and tells its type. -/
theorem snd_allocb {t : TypeId} {z : Value} (hz : tyZero P t = some z) (h : HRel w X ρ H) :
    Gives P (Instr.alloc t true (.tuple #[])) w X ρ H ⟨isNilP ((avs z.cells.toList).headD .any) = true ∧ c1s (avs z.cells.toList) = true, .ptr H.length 0 0, H ++ [.box (.bnil t :: (avs z.cells.toList).drop 1)]⟩ := by
  rintro ⟨hn, hc⟩
  have hzr : (zeroValue t).run P w = .ok z w := by
    unfold tyZero at hz
    cases hi : P.info? t with
    | none => simp [hi] at hz
    | some i => simp [hi] at hz; simp [zeroValue, typeInfo, hi, hz]
  have hn := isNilP_eq hn
  have hne : ∃ l, z.cells.toList = .pointer none :: l := by
    cases hzl : z.cells.toList with
    | nil => rw [hzl] at hn; cases hn
    | cons u l => rw [hzl] at hn; simp [avs] at hn; exact ⟨l, by rw [hn]⟩
  obtain ⟨l, hl⟩ := hne
  have hcs : .bnil t :: (avs z.cells.toList).drop 1 = .bnil t :: l.map .v := by rw [hl]; simp [avs]
  rw [hl] at hc
  have hsz : z.cells.size = l.length + 1 := by rw [← Array.length_toList, hl]; rfl
  have hget : ∀ j : Nat, z.cells[j]? = (.pointer none :: l)[j]? := fun j => by rw [← Array.getElem?_toList, hl]
  rw [hcs]
  obtain ⟨ρ', h1, h2, h3⟩ := push_box h (cs := .bnil t :: l.map .v) (c := z.cells) (t := t) (fun t' ht => by cases ht; rfl) (by simp [hsz]) (fun j y u hy hu => by
    rw [hget] at hu
    cases j with
    | zero => cases hy; cases hu; exact ⟨.bnil _ _, rfl⟩
    | succ j =>
      simp only [List.getElem?_cons_succ, List.getElem?_map] at hy hu
      rw [hu] at hy
      cases hy
      refine ⟨.v _ _, ?_⟩
      simp only [c1s, List.all_eq_true, avs, List.mem_map] at hc
      exact hc (.v u) ⟨u, by simp [List.mem_of_getElem? hu], rfl⟩)
  exact ⟨_, _, ρ', by simp [Instr.alloc, hzr, newVar, newRow], h1, h2, h3⟩

theorem snd_box {t : TypeId} {imm : Bool} {x : AV} {u : Value} (h : HRel w X ρ H) (hx : Rp w X ρ H x u) : Gives P (Instr.box t u) w X ρ H (rBox imm x H) := by
  have hrun : (Instr.box t u).run P w = .ok (.pointer (some ⟨w.heap.size, 0, none⟩)) (w.alloc (.cells u.cells t)) := by simp [Instr.box, newVar, newRow]
  unfold rBox
  cases imm with
  | true =>
    rw [if_pos rfl]
    rintro ⟨h1, h2⟩
    obtain ⟨hl, hr⟩ := rep_cells hx h1
    obtain ⟨hrel, hf⟩ := h.more (w' := w.alloc (.cells u.cells t)) (Same.alloc _ _) (heap_old w _)
    refine ⟨_, _, ρ, hrun, hrel, ?_, hf⟩
    have := Rep.vp (w := w.alloc (.cells u.cells t)) (M := Mut X ρ H.length) (ρ := ρ) H.length (cellsOf x) 0 w.heap.size 0 (fun j => u.cells.getD j undef) (not_mut_new h (Nat.le_refl _)) (by simp)
      (fun j y hy => by
        have hlt : j < u.cells.size := by have := (List.getElem?_eq_some_iff.1 hy).1; omega
        refine ⟨?_, ?_⟩
        · rw [cell_of_blk (heap_new w _), Nat.zero_add]; simp [hlt]
        · exact (hr j y _ hy (by simp [hlt])).2)
      (fun j y hy => by
        have hlt : j < u.cells.size := by have := (List.getElem?_eq_some_iff.1 hy).1; omega
        exact ((hr j y (u.cells.getD j undef) hy (by simp [hlt])).1.of_cl (clL_all h2 hy)).next hf (Nat.zero_le _))
    exact this
  | false =>
    rw [if_neg (by simp)]
    intro h1
    obtain ⟨hl, hr⟩ := rep_cells hx h1
    obtain ⟨ρ', h1, h2, h3⟩ := push_box h (t := t) (fun t' ht => by
      have hm := List.mem_of_getElem? ht
      rw [c1s, List.all_eq_true] at h1
      have := h1 _ hm
      cases this) hl hr
    exact ⟨_, _, ρ', hrun, h1, h2, h3⟩

/-- A part of a struct put in its place. -/
theorem fold_set (off : Nat) : ∀ (vs : List Value) (s : Nat) (c : Array Value), off + s + vs.length ≤ c.size →
    ((vs.zipIdx s).foldl (fun cs (x : Value × Nat) => cs.setIfInBounds (off + x.2) x.1) c).size = c.size ∧
    ∀ k, ((vs.zipIdx s).foldl (fun cs (x : Value × Nat) => cs.setIfInBounds (off + x.2) x.1) c)[k]? = if off + s ≤ k ∧ k < off + s + vs.length then vs[k - (off + s)]? else c[k]?
  | [], s, c, _ => by simp; intro k h1 h2; omega
  | v :: vs, s, c, h => by
    simp only [List.length_cons] at h
    obtain ⟨h1, h2⟩ := fold_set off vs (s + 1) (c.setIfInBounds (off + s) v) (by simp; omega)
    simp only [List.zipIdx_cons, List.foldl_cons]
    refine ⟨by rw [h1]; simp, fun k => ?_⟩
    rw [h2 k]
    simp only [List.length_cons]
    by_cases hk : k = off + s
    · subst hk
      rw [if_neg (by omega), if_pos (by omega)]
      simp [show off + s < c.size by omega]
    · by_cases hk2 : off + s < k ∧ k < off + s + (vs.length + 1)
      · rw [if_pos (by omega), if_pos (by omega)]
        rw [show k - (off + s) = (k - (off + (s + 1))) + 1 by omega, List.getElem?_cons_succ]
      · rw [if_neg (by omega), if_neg (by omega), Array.getElem?_setIfInBounds_ne (by omega)]

theorem zip_fold (off : Nat) (v c : Array Value) (h : off + v.size ≤ c.size) :
    (v.zipIdx.foldl (fun cs (x : Value × Nat) => cs.setIfInBounds (off + x.2) x.1) c).size = c.size ∧
    ∀ k, (v.zipIdx.foldl (fun cs (x : Value × Nat) => cs.setIfInBounds (off + x.2) x.1) c)[k]? = if off ≤ k ∧ k < off + v.size then v[k - off]? else c[k]? := by
  have := fold_set off v.toList 0 c (by simpa using h)
  rw [← Array.foldl_toList, Array.toList_zipIdx]
  simpa using this

/-- Operands and what they stand for, part by part. -/
def RpPs (w : World) (X : Nat → Prop) (ρ : Nat → Loc) (H : AHeap) (place : Nat → Option (Nat × Nat)) : List (Nat × Value) → List (Nat × Nat × AV) → Prop
  | [], [] => True
  | (i, u) :: l, (off, n, x) :: m => place i = some (off, n) ∧ Rp w X ρ H x u ∧ RpPs w X ρ H place l m
  | _, _ => False

theorem fill_ok {place : Nat → Option (Nat × Nat)} : ∀ (l : List (Nat × Value)) (m : List (Nat × Nat × AV)) (cs : List AV) (c : Array Value), RpPs w X ρ H place l m → cs.length = c.size →
    (∀ (j : Nat) (y : AV) (u : Value), cs[j]? = some y → c[j]? = some u → Rp w X ρ H y u) → (fillA cs m).1 →
    ∃ c', Instr.fill place c l = some c' ∧ (fillA cs m).2.length = c'.size ∧ ∀ (j : Nat) (y : AV) (u : Value), (fillA cs m).2[j]? = some y → c'[j]? = some u → Rp w X ρ H y u
  | [], [], cs, c, _, hl, hr, _ => ⟨c, rfl, hl, hr⟩
  | [], _ :: _, _, _, h, _, _, _ => h.elim
  | _ :: _, [], _, _, h, _, _, _ => h.elim
  | (i, u) :: l, (off, n, x) :: m, cs, c, ⟨hp, hx, hrest⟩, hl, hr, hok => by
    simp only [fillA] at hok ⊢
    obtain ⟨⟨h1, h2, h3⟩, hok⟩ := hok
    obtain ⟨hcl, hcr⟩ := rep_cells hx h3
    have hsz : u.cells.size = n := by omega
    obtain ⟨z1, z2⟩ := zip_fold off u.cells c (by omega)
    have hspl : (splice cs off (cellsOf x)).length = cs.length := by simp only [splice, List.length_append, List.length_take, List.length_drop]; omega
    obtain ⟨c', f1, f2, f3⟩ := fill_ok l m (splice cs off (cellsOf x)) _ hrest (by rw [hspl, z1]; exact hl) (fun j y v hy hv => by
      rw [z2 j] at hv
      simp only [splice] at hy
      rw [getElem?_splice _ _ _ _ (by omega)] at hy
      by_cases hj1 : j < off
      · rw [if_neg (by omega)] at hv; rw [if_pos hj1] at hy; exact hr j y v hy hv
      · rw [if_neg hj1] at hy
        by_cases hj2 : j < off + (cellsOf x).length
        · rw [if_pos (by omega)] at hv; rw [if_pos hj2] at hy; exact (hcr _ y v hy hv).1
        · rw [if_neg (by omega)] at hv; rw [if_neg hj2] at hy; exact hr j y v hy hv) hok
    refine ⟨c', ?_, f2, f3⟩
    simp only [Instr.fill, hp]
    rw [if_neg (by simp [hsz]; omega)]
    exact f1

theorem zero_run {t : TypeId} {z : Value} (hz : tyZero P t = some z) (w : World) : (zeroValue t).run P w = .ok z w := by
  unfold tyZero at hz
  cases hi : P.info? t with
  | none => simp [hi] at hz
  | some i => simp [hi] at hz; simp [zeroValue, typeInfo, hi, hz]

theorem places_run : ∀ (fs : List Field) (pl : List (Nat × Nat)), placesOf P fs = some pl → ∀ w, (fs.mapM (fun f => (do pure (f.offset, ← sizeOf f.type) : Sem (Nat × Nat)))).run P w = .ok pl w
  | [], pl, h, w => by simp [placesOf] at h; subst h; simp
  | f :: fs, pl, h, w => by
    simp only [placesOf] at h
    cases hn : tySz P f.type with
    | none => simp [hn] at h
    | some n =>
      cases hm : placesOf P fs with
      | none => simp [hn, hm] at h
      | some m =>
        simp [hn, hm] at h
        subst h
        have := places_run fs m hm w
        simp only [List.mapM_cons, Sem.run_bind, tySz_run hn, Result.andThen_ok, Sem.run_pure] at this ⊢
        rw [this]
        rfl

theorem agg_rep {cs : List AV} {c : Array Value} (hl : cs.length = c.size) (hr : ∀ (j : Nat) (y : AV) (u : Value), cs[j]? = some y → c[j]? = some u → Rp w X ρ H y u) : Rp w X ρ H (.agg cs) (.agg c) := .agg _ _ _ hl hr

theorem avs_rep (c : Array Value) : ∀ (j : Nat) (y : AV) (u : Value), (avs c.toList)[j]? = some y → c[j]? = some u → Rp w X ρ H y u := by
  intro j y u hy hu
  simp only [avs, List.getElem?_map, Array.getElem?_toList, hu, Option.map_some, Option.some.injEq] at hy
  subst hy
  exact .v _ _

theorem snd_build_struct {t : TypeId} {z : Array Value} {fs : Array Field} {pl : List (Nat × Nat)} {ps : Array (Nat × Value)} {m : List (Nat × Nat × AV)} (hz : tyZero P t = some (.agg z)) (ht : P.underlying t = some (.struct fs)) (hp : placesOf P fs.toList = some pl)
    (h : HRel w X ρ H) (hps : RpPs w X ρ H (fun i => pl[i]?) ps.toList m) : Gives P (Instr.build t ps) w X ρ H (rBuild (avs z.toList) m H) := by
  unfold rBuild
  refine gives_pure h fun hok => ?_
  obtain ⟨c', f1, f2, f3⟩ := fill_ok ps.toList m (avs z.toList) z hps (by simp [avs]) (avs_rep z) hok
  refine ⟨.agg c', ?_, agg_rep f2 f3⟩
  have hpl : (fs.mapM (fun f => (do pure (f.offset, ← sizeOf f.type) : Sem (Nat × Nat)))).run P w = .ok pl.toArray w := by
    rw [Array.mapM_eq_mapM_toList, Sem.run_map, places_run fs.toList pl hp w]
    rfl
  have hf : Instr.fill (fun x => pl.toArray[x]?) z ps.toList = some c' := by simpa using f1
  unfold Instr.build
  simp only [Sem.run_bind, zero_run hz, Result.andThen_ok, run_underlying ht, hpl, Value.cells, hf, Sem.run_pure]

theorem snd_build_array {t el : TypeId} {n sz : Nat} {z : Array Value} {ps : Array (Nat × Value)} {m : List (Nat × Nat × AV)} (hz : tyZero P t = some (.agg z)) (ht : P.underlying t = some (.array n el)) (hsz : tySz P el = some sz)
    (h : HRel w X ρ H) (hps : RpPs w X ρ H (fun i => some (i * sz, sz)) ps.toList m) : Gives P (Instr.build t ps) w X ρ H (rBuild (avs z.toList) m H) := by
  unfold rBuild
  refine gives_pure h fun hok => ?_
  obtain ⟨c', f1, f2, f3⟩ := fill_ok ps.toList m (avs z.toList) z hps (by simp [avs]) (avs_rep z) hok
  refine ⟨.agg c', ?_, agg_rep f2 f3⟩
  unfold Instr.build
  simp only [Sem.run_bind, zero_run hz, Result.andThen_ok, run_underlying ht, tySz_run hsz, Value.cells, f1, Sem.run_pure]
end
end Go.Ax

/- That an operation does what is said of it: slices that are made, appended to, copied. -/
namespace Go.Ax
open Go Go.RowKit

section
variable {P : Program} {w w1 : World} {X : Nat → Prop} {ρ : Nat → Loc} {H : AHeap}

theorem get_some {C : Array Value} {k : Nat} (h : k < C.size) : C[k]? = some (C.getD k undef) := by simp [h]

/-- The elements xs lie in the cells C from o on. -/
structure Rows (w : World) (M : Nat → Prop) (ρ : Nat → Loc) (C : Array Value) (o sz : Nat) (xs : List (List AV)) : Prop where
  fit : o + xs.length * sz ≤ C.size
  row : ∀ x ∈ xs, x.length = sz
  rep : ∀ (i j : Nat) (x : List AV) (y : AV) (u : Value), xs[i]? = some x → x[j]? = some y → C[o + i * sz + j]? = some u → Rep w M ρ 0 y u ∧ one u = true

theorem Rows.nil (w : World) (M : Nat → Prop) (ρ : Nat → Loc) (C : Array Value) (sz : Nat) : Rows w M ρ C 0 sz [] := ⟨by simp, fun x hx => by simp at hx, fun i j x y u hx => by simp at hx⟩

theorem Rows.lt {M : Nat → Prop} {C : Array Value} {o sz : Nat} {xs : List (List AV)} (h : Rows w M ρ C o sz xs) {i j : Nat} {x : List AV} {y : AV} (hx : xs[i]? = some x) (hy : x[j]? = some y) : o + i * sz + j < C.size := by
  have h1 : i < xs.length := (List.getElem?_eq_some_iff.1 hx).1
  have h2 : j < x.length := (List.getElem?_eq_some_iff.1 hy).1
  rw [h.row x (List.mem_of_getElem? hx)] at h2
  have := mul_lt_of h1 h2
  have := h.fit
  omega

/-- A new block: a slice over it that nobody changes. -/
theorem new_imm (h : HRel w X ρ H) (hs : Same w w1) (keep : ∀ b, b < w.heap.size → w1.heap[b]? = w.heap[b]?) {b : Nat} {C : Array Value} {el : TypeId} {fr : Nat × Nat} (hb : w.heap.size ≤ b) (hb1 : b < w1.heap.size)
    (hh : w1.heap[b]? = some (.cells C el fr)) {sz cap : Nat} {xs : List (List AV)} (hr : Rows w (Mut X ρ H.length) ρ C 0 sz xs) (hc : xs.length ≤ cap) :
    HRel w1 X ρ H ∧ Rp w1 X ρ H (.sl sz xs) (.slice (some ⟨b, 0, none⟩) xs.length cap) ∧ Fut w ρ H.length w1 ρ H.length := by
  obtain ⟨hrel, hf⟩ := h.more hs keep
  refine ⟨hrel, ?_, hf⟩
  refine .slN _ _ _ _ _ _ (fun i j => C.getD (0 + i * sz + j) undef) (not_mut_new h hb) hb1 hc hr.row (fun i j x y hx hy => ?_) (fun i j x y hx hy => ?_)
  · have hlt := hr.lt hx hy
    refine ⟨?_, ?_⟩
    · rw [cell_of_blk hh]; exact get_some hlt
    · exact (hr.rep i j x y _ hx hy (get_some hlt)).2
  · have hlt := hr.lt hx hy
    exact (hr.rep i j x y _ hx hy (get_some hlt)).1.next hf (Nat.zero_le _)

/-- A new block: a slice over it that the run owns. -/
theorem new_own (h : HRel w X ρ H) (hs : Same w w1) (keep : ∀ b, b < w.heap.size → w1.heap[b]? = w.heap[b]?) {b : Nat} {C : Array Value} {el : TypeId} {fr : Nat × Nat} (hb : w.heap.size ≤ b) (hb1 : b < w1.heap.size)
    (hh : w1.heap[b]? = some (.cells C el fr)) (hfr : noFr fr C.size) {sz len cap : Nat} {xs : List (List AV)} (hsz : 0 < sz) (hr : Rows w (Mut X ρ H.length) ρ C 0 sz xs) (hl : len ≤ cap) (hc : cap * sz ≤ C.size) :
    ∃ ρ', HRel w1 X ρ' (H ++ [.arr 0 sz xs]) ∧ Rep w1 (Mut X ρ' (H ++ [HO.arr 0 sz xs]).length) ρ' (H ++ [HO.arr 0 sz xs]).length (.os H.length 0 0 len) (.slice (some ⟨b, 0, none⟩) len cap) ∧ Fut w ρ H.length w1 ρ' (H ++ [HO.arr 0 sz xs]).length := by
  obtain ⟨ρ', hl', hrel, hf⟩ := h.push (w' := w1) { blk := some (b, 0), ext := C.size, sz := sz } (.arr 0 sz xs) hs (fun b' o hb' => by simp at hb'; obtain ⟨rfl, _⟩ := hb'; exact ⟨hb, hb1⟩) keep
    (fun ρ' hf hl' => by
      refine ⟨rfl, rfl, hsz, hr.row, by simpa using hr.fit, C, el, fr, hh, by simp, hfr, fun i j x y u hx hy hu => ?_⟩
      have := hr.rep i j x y u hx hy hu
      exact ⟨this.1.next hf (Nat.zero_le _), this.2⟩)
  refine ⟨ρ', hrel, ?_, hf⟩
  refine .os _ _ _ _ _ _ (by simp) (by rw [hl']; exact Nat.le_refl _) rfl fun _ => ⟨_, _, rfl, hl, .inr ⟨b, 0, by rw [hl'], by simp, ?_⟩⟩
  rw [hl']
  simpa using hc

/-- An empty slice without a block, which the run owns. -/
theorem none_own (h : HRel w X ρ H) {sz : Nat} (hsz : 0 < sz) (a : Option Addr) :
    ∃ ρ', HRel w X ρ' (H ++ [.arr 0 sz []]) ∧ Rep w (Mut X ρ' (H ++ [HO.arr 0 sz []]).length) ρ' (H ++ [HO.arr 0 sz []]).length (.os H.length 0 0 0) (.slice a 0 0) ∧ Fut w ρ H.length w ρ' (H ++ [HO.arr 0 sz []]).length := by
  obtain ⟨ρ', hl', hrel, hf⟩ := h.push (w' := w) { blk := none, sz := sz } (.arr 0 sz []) (Same.refl w) (fun b' o hb' => by simp at hb') (fun _ _ => rfl)
    (fun ρ' hf hl' => ⟨rfl, rfl, hsz, fun x hx => by simp at hx, by simp, rfl⟩)
  exact ⟨ρ', hrel, .os _ _ _ _ _ _ (by simp) (by rw [hl']; exact Nat.le_refl _) rfl fun _ => ⟨_, _, rfl, Nat.le_refl _, .inl rfl⟩, hf⟩

/-- n zero elements. -/
theorem zero_rows {M : Nat → Prop} {z : Array Value} {sz n : Nat} (hz : z.size = sz) (h1 : z.toList.all one = true) : Rows w M ρ ((Array.range (n * sz)).map (fun k => z[k % z.size]!)) 0 sz (List.replicate n (avs z.toList)) := by
  refine ⟨by simp, fun x hx => by rw [List.eq_of_mem_replicate hx]; simp [avs, hz], fun i j x y u hx hy hu => ?_⟩
  have hi : i < n := by have := (List.getElem?_eq_some_iff.1 hx).1; simpa using this
  rw [List.getElem?_replicate, if_pos hi] at hx
  simp only [Option.some.injEq] at hx
  subst hx
  have hj : j < sz := by have := (List.getElem?_eq_some_iff.1 hy).1; simp [avs] at this; omega
  have hlt : i * sz + j < n * sz := mul_lt_of hi hj
  have hmod : (i * sz + j) % z.size = j := by rw [hz, Nat.add_comm, Nat.add_mul_mod_self_right, Nat.mod_eq_of_lt hj]
  have hjz : j < z.size := by omega
  simp only [Nat.zero_add, Array.getElem?_map, Array.getElem?_range, hlt, if_true, Option.map_some, Option.some.injEq, hmod] at hu
  have hu' : z[j] = u := by rw [← hu]; simp [hjz]
  simp only [avs, List.getElem?_map, Array.getElem?_toList, Array.getElem?_eq_getElem hjz, Option.map_some, Option.some.injEq] at hy
  subst hy hu'
  refine ⟨.v _ _, ?_⟩
  exact List.all_eq_true.1 h1 _ (by simp)

def RpSs (w : World) (X : Nat → Prop) (ρ : Nat → Loc) (H : AHeap) : List (Nat × Value) → List (Nat × AV) → Prop
  | [], [] => True
  | (i, u) :: l, (i', x) :: m => i = i' ∧ Rp w X ρ H x u ∧ RpSs w X ρ H l m
  | _, _ => False

theorem fillS_ok {sz : Nat} : ∀ (l : List (Nat × Value)) (m : List (Nat × AV)) (xs : List (List AV)) (c : Array Value), RpSs w X ρ H l m → c.size = xs.length * sz → Rows w (Mut X ρ H.length) ρ c 0 sz xs → (fillS sz xs m).1 →
    ∃ c', Instr.fill (fun i => some (i * sz, sz)) c l = some c' ∧ (fillS sz xs m).2.length = xs.length ∧ c'.size = c.size ∧ Rows w (Mut X ρ H.length) ρ c' 0 sz (fillS sz xs m).2
  | [], [], xs, c, _, _, hr, _ => ⟨c, rfl, rfl, rfl, hr⟩
  | [], _ :: _, _, _, h, _, _, _ => h.elim
  | _ :: _, [], _, _, h, _, _, _ => h.elim
  | (i, u) :: l, (i', x) :: m, xs, c, ⟨hi, hx, hrest⟩, hc, hr, hok => by
    subst hi
    simp only [fillS] at hok ⊢
    obtain ⟨⟨h1, h2, h3, h4⟩, hok⟩ := hok
    obtain ⟨hcl, hcr⟩ := rep_cells hx h3
    have hsz : u.cells.size = sz := by omega
    have hfit : i * sz + u.cells.size ≤ c.size := by
      have : (i + 1) * sz ≤ xs.length * sz := Nat.mul_le_mul_right _ h2
      rw [Nat.add_mul] at this
      omega
    obtain ⟨z1, z2⟩ := zip_fold (i * sz) u.cells c hfit
    obtain ⟨c', f1, f2, f3, f4⟩ := fillS_ok l m (xs.set i (cellsOf x)) _ hrest (by rw [z1]; simpa using hc) ⟨by rw [z1]; simpa using hr.fit, fun y hy => by
      rcases List.mem_or_eq_of_mem_set hy with hy | rfl
      · exact hr.row y hy
      · exact h1, fun i' j x' y v hx' hy hv => by
      rw [z2] at hv
      by_cases hii : i' = i
      · subst hii
        rw [List.getElem?_set_self h2] at hx'
        simp only [Option.some.injEq] at hx'
        subst hx'
        have hj : j < (cellsOf x).length := (List.getElem?_eq_some_iff.1 hy).1
        rw [if_pos (by omega), show 0 + i' * sz + j - i' * sz = j by omega] at hv
        have := hcr j y v hy hv
        exact ⟨this.1.of_cl (clL_all h4 hy), this.2⟩
      · rw [List.getElem?_set_ne (fun e => hii e.symm)] at hx'
        have hj : j < sz := by
          have := (List.getElem?_eq_some_iff.1 hy).1
          rwa [hr.row x' (List.mem_of_getElem? hx')] at this
        have hne : ¬ (i * sz ≤ 0 + i' * sz + j ∧ 0 + i' * sz + j < i * sz + u.cells.size) := by
          rcases Nat.lt_or_gt_of_ne hii with hlt | hgt
          · have : (i' + 1) * sz ≤ i * sz := Nat.mul_le_mul_right _ hlt
            rw [Nat.add_mul] at this
            omega
          · have : (i + 1) * sz ≤ i' * sz := Nat.mul_le_mul_right _ hgt
            rw [Nat.add_mul] at this
            omega
        rw [if_neg hne] at hv
        exact hr.rep i' j x' y v hx' hy hv⟩ hok
    refine ⟨c', ?_, by rw [f2]; simp, by rw [f3, z1], f4⟩
    simp only [Instr.fill]
    rw [if_neg (by simp [hsz]; omega)]
    exact f1

theorem snd_bsl {t el : TypeId} {imm : Bool} {sz len : Nat} {z : Value} {ps : Array (Nat × Value)} {m : List (Nat × AV)} (ht : P.underlying t = some (.slice el)) (hn : tySz P el = some sz) (hz : tyZero P el = some z)
    (hsz : 0 < sz) (hzs : z.cells.size = sz) (hbig : len * sz ≤ 16777216) (h1 : z.cells.toList.all one = true) (h : HRel w X ρ H) (hps : RpSs w X ρ H ps.toList m) :
    Gives P (Instr.buildSlice t len ps) w X ρ H (rBsl imm sz len (avs z.cells.toList) m H) := by
  have key : (fillS sz (List.replicate len (avs z.cells.toList)) m).1 → ∃ c', (Instr.buildSlice t len ps).run P w = .ok (.slice (some ⟨w.heap.size, 0, none⟩) len len) (w.alloc (.cells c' el)) ∧ c'.size = len * sz ∧
      (fillS sz (List.replicate len (avs z.cells.toList)) m).2.length = len ∧ Rows w (Mut X ρ H.length) ρ c' 0 sz (fillS sz (List.replicate len (avs z.cells.toList)) m).2 := by
    intro hok
    obtain ⟨c', f1, f2, f3, f4⟩ := fillS_ok ps.toList m (List.replicate len (avs z.cells.toList)) ((Array.range (len * sz)).map (fun k => z.cells[k % z.cells.size]!)) hps (by simp) (zero_rows hzs h1) hok
    refine ⟨c', ?_, by rw [f3]; simp, by rw [f2]; simp, f4⟩
    unfold Instr.buildSlice
    simp only [Sem.run_bind, run_underlying ht, Result.andThen_ok, tySz_run hn, Sem.run_ite]
    rw [if_neg (by omega)]
    by_cases h0 : len * sz = 0
    · rw [h0] at f1
      have e0 : (Array.range 0).map (fun k => (#[] : Array Value)[k % (#[] : Array Value).size]!) = (Array.range 0).map (fun k => z.cells[k % z.cells.size]!) := by simp
      simp only [h0, if_true, Sem.run_pure, Result.andThen_ok, e0, f1, newRow, Sem.run_bind, run_newObj]
      rfl
    · simp only [h0, if_false, Sem.run_bind, zero_run hz, Sem.run_pure, Result.andThen_ok, f1, newRow, run_newObj]
      rfl
  unfold rBsl
  cases imm with
  | true =>
    rw [if_pos rfl]
    intro hok
    obtain ⟨c', hrun, hcs, hlen, hrows⟩ := key hok
    obtain ⟨g1, g2, g3⟩ := new_imm (w1 := w.alloc (.cells c' el)) h (Same.alloc _ _) (heap_old w _) (Nat.le_refl _) (by simp) (heap_new w _) hrows (cap := len) (by omega)
    rw [hlen] at g2
    exact ⟨_, _, ρ, hrun, g1, g2, g3⟩
  | false =>
    rw [if_neg (by simp)]
    intro hok
    obtain ⟨c', hrun, hcs, hlen, hrows⟩ := key hok
    obtain ⟨ρ', g1, g2, g3⟩ := new_own (w1 := w.alloc (.cells c' el)) h (Same.alloc _ _) (heap_old w _) (Nat.le_refl _) (by simp) (heap_new w _) (.inl rfl) hsz hrows (len := len) (cap := len) (Nat.le_refl _) (by omega)
    exact ⟨_, _, ρ', hrun, g1, g2, g3⟩

theorem snd_msl {t el : TypeId} {i : TypeInfo} {z : Value} {len cap : AV} {u v : Value} (ht : P.underlying t = some (.slice el)) (hi : P.info? el = some i) (hz : i.zero = some z) (hsz : 0 < i.size) (hzs : z.cells.size = i.size)
    (h1 : z.cells.toList.all one = true) (h : HRel w X ρ H) (hl : Rp w X ρ H len u) (hc : Rp w X ρ H cap v) : Gives P (Instr.makeSlice t u v) w X ρ H (rMsl i.size i.bytes (avs z.cells.toList) len cap H) := by
  cases len with
  | v x =>
    have := rep_v hl; subst this
    cases cap with
    | v y =>
      have := rep_v hc; subst this
      cases u <;> first | exact gives_no | skip
      rename_i k n
      cases k <;> first | exact gives_no | skip
      cases v <;> first | exact gives_no | skip
      rename_i k c
      cases k <;> first | exact gives_no | skip
      rintro ⟨h0, h2, h3, h4, h5⟩
      have wn : IntKind.i64.wrap n = n := IntWalk.i64_in _ (by omega)
      have wc : IntKind.i64.wrap c = c := IntWalk.i64_in _ (by omega)
      have hrun : (Instr.makeSlice t (.int .i64 n) (.int .i64 c)).run P w = .ok (.slice (some ⟨w.heap.size, 0, none⟩) n.toNat c.toNat) (w.alloc (.cells ((Array.range (c.toNat * i.size)).map (fun k => z.cells[k % z.cells.size]!)) el)) := by
        have e1 : ¬ (i.bytes : Int) * c > 2 ^ 48 := by
          have : (i.bytes : Int) * c = c * i.bytes := Int.mul_comm _ _
          omega
        have e2 : ¬ c < 0 := by omega
        have e3 : ¬ n < 0 := by omega
        have e4 : ¬ n > c := by omega
        have e5 : (askRoom (c.toNat * i.bytes)).run P w = .ok () w := by
          unfold askRoom
          split <;> rfl
        unfold Instr.makeSlice
        simp only [Sem.run_bind, run_underlying ht, Result.andThen_ok, asInt, asIntOf, Sem.run_pure, typeInfo, run_program, hi, wn, wc]
        simp only [e1, e2, e3, e4, decide_false, Bool.or_false, Bool.false_eq_true, if_false, e5, Result.andThen_ok, sizeOf, typeInfo, Sem.run_bind, run_program, hi, Sem.run_pure, Sem.run_ite, zeroValue, hz, newRow, run_newObj]
        by_cases hc0 : c.toNat * i.size = 0
        · simp [hc0, Array.range_zero']
        · simp [hc0]
      obtain ⟨ρ', g1, g2, g3⟩ := new_own (w1 := w.alloc (.cells ((Array.range (c.toNat * i.size)).map (fun k => z.cells[k % z.cells.size]!)) el)) h (Same.alloc _ _) (heap_old w _) (Nat.le_refl _) (by simp) (heap_new w _) (.inl rfl) hsz
        (zero_rows (n := c.toNat) hzs h1) (len := n.toNat) (cap := c.toNat) (by omega) (by simp)
      exact ⟨_, _, ρ', hrun, g1, g2, g3⟩
    | _ => cases u <;> first | exact gives_no | (rename_i k n; cases k <;> exact gives_no)
  | _ => exact gives_no
end
end Go.Ax

/- That an operation does what is said of it: append, copy, conversions, maps that are made. -/
namespace Go.Ax
open Go Go.RowKit

section
variable {P : Program} {w w1 : World} {X : Nat → Prop} {ρ : Nat → Loc} {H : AHeap}

/-- The elements that append and copy take: how many, and their cells. -/
theorem rows_src (h : HRel w X ρ H) {x : AV} {u : Value} {sz : Nat} {ys : List (List AV)} (hx : Rp w X ρ H x u) (hy : rowsOf H x = some ys) (hs : szOk H sz x) (hsz : 0 < sz) :
    (Builtin.lenOf u).run P w = .ok ys.length w ∧ ∀ m, m ≤ ys.length → ∃ cs : List Value, cs.length = m * sz ∧ (∀ w2 : World, (∀ a, w2.cell? a = w.cell? a) → (Builtin.firstCells sz m u).run P w2 = .ok cs.toArray w2) ∧ (∀ v ∈ cs, one v = true) ∧ (∀ y ∈ ys, y.length = sz) ∧
      ∀ (i j : Nat) (y : List AV) (z : AV) (v : Value), i < m → ys[i]? = some y → y[j]? = some z → cs[i * sz + j]? = some v → Rep w (Mut X ρ H.length) ρ 0 z v := by
  have mem : ∀ (b o len cap : Nat) (c : Nat → Nat → Value), (∀ y ∈ ys, y.length = sz) →
      (∀ (i j : Nat) (y : List AV) (z : AV), ys[i]? = some y → y[j]? = some z → w.cell? ⟨b, o + i * sz + j, none⟩ = some (c i j) ∧ one (c i j) = true ∧ Rep w (Mut X ρ H.length) ρ 0 z (c i j)) →
      ∀ m, m ≤ ys.length → ∃ cs : List Value, cs.length = m * sz ∧ (∀ w2 : World, (∀ a, w2.cell? a = w.cell? a) → (Builtin.firstCells sz m (.slice (some ⟨b, o, none⟩) len cap)).run P w2 = .ok cs.toArray w2) ∧ (∀ v ∈ cs, one v = true) ∧ (∀ y ∈ ys, y.length = sz) ∧
        ∀ (i j : Nat) (y : List AV) (z : AV) (v : Value), i < m → ys[i]? = some y → y[j]? = some z → cs[i * sz + j]? = some v → Rep w (Mut X ρ H.length) ρ 0 z v := by
    intro b o len cap c hrow hcell m hm
    have hat : ∀ k, k < m * sz → w.cell? ⟨b, o + k, none⟩ = some (c (k / sz) (k % sz)) ∧ one (c (k / sz) (k % sz)) = true := by
      intro k hk
      have h1 : k / sz < m := Nat.div_lt_of_lt_mul (by rw [Nat.mul_comm]; exact hk)
      have h2 : k % sz < sz := Nat.mod_lt _ hsz
      have h3 : k / sz < ys.length := by omega
      have h4 : ys[k / sz]? = some ys[k / sz] := by simp [h3]
      have h5 := hrow _ (List.mem_of_getElem? h4)
      have h6 : (ys[k / sz])[k % sz]? = some ((ys[k / sz])[k % sz]'(by omega)) := by simp [h5, h2]
      have := hcell _ _ _ _ h4 h6
      have e : o + k / sz * sz + k % sz = o + k := by have := Nat.div_add_mod k sz; rw [Nat.mul_comm] at this; omega
      rw [e] at this
      exact ⟨this.1, this.2.1⟩
    refine ⟨(List.range (m * sz)).map fun k => c (k / sz) (k % sz), by simp, ?_, ?_, hrow, ?_⟩
    · intro w2 hw2
      unfold Builtin.firstCells
      rw [run_loadCells w2 ⟨b, o, none⟩ (m * sz) (fun k => c (k / sz) (k % sz)) (fun j hj => by rw [Addr.add_lit, hw2]; exact (hat j hj).1)]
    · intro v hv
      simp only [List.mem_map, List.mem_range] at hv
      obtain ⟨k, hk, rfl⟩ := hv
      exact (hat k hk).2
    · intro i j y z v hi hy hz hv
      have hj : j < sz := by
        have := (List.getElem?_eq_some_iff.1 hz).1
        rwa [hrow y (List.mem_of_getElem? hy)] at this
      have hlt : i * sz + j < m * sz := mul_lt_of hi hj
      simp only [List.getElem?_map, List.getElem?_range hlt, Option.map_some, Option.some.injEq] at hv
      have e1 : (i * sz + j) / sz = i := by rw [Nat.add_comm, Nat.add_mul_div_right _ _ hsz, Nat.div_eq_of_lt hj, Nat.zero_add]
      have e2 : (i * sz + j) % sz = j := by rw [Nat.add_comm, Nat.add_mul_mod_self_right, Nat.mod_eq_of_lt hj]
      rw [e1, e2] at hv
      subst hv
      exact (hcell i j y z hy hz).2.2
  have none_ : ys = [] → ∀ (a : Option Addr) (len cap : Nat), u = .slice a len cap → ∀ m, m ≤ ys.length → ∃ cs : List Value, cs.length = m * sz ∧ (∀ w2 : World, (∀ a, w2.cell? a = w.cell? a) → (Builtin.firstCells sz m u).run P w2 = .ok cs.toArray w2) ∧ (∀ v ∈ cs, one v = true) ∧ (∀ y ∈ ys, y.length = sz) ∧
        ∀ (i j : Nat) (y : List AV) (z : AV) (v : Value), i < m → ys[i]? = some y → y[j]? = some z → cs[i * sz + j]? = some v → Rep w (Mut X ρ H.length) ρ 0 z v := by
    intro hn a len cap hu m hm
    subst hn
    simp only [List.length_nil, Nat.le_zero] at hm
    subst hm
    refine ⟨[], by simp, ?_, fun v hv => by simp at hv, fun y hy => by simp at hy, fun i j y z v hi => by omega⟩
    subst hu
    intro w2 _
    cases a <;> simp [Builtin.firstCells, loadCells, loadCellsFrom]
  cases x with
  | sl sz' xs =>
    simp only [rowsOf, Option.some.injEq] at hy
    subst hy
    cases hx with
    | slE => exact ⟨rfl, none_ rfl _ _ _ rfl⟩
    | slN _ _ _ b o cap c hm hb hcap hrow hcell hrep =>
      refine ⟨rfl, ?_⟩
      by_cases hn : xs = []
      · exact none_ hn _ _ _ rfl
      · have hs' : sz' = sz := by simpa [szOk, hn] using hs
        subst hs'
        exact mem b o _ cap c hrow fun i j y z hy hz => ⟨(hcell i j y z hy hz).1, (hcell i j y z hy hz).2, hrep i j y z hy hz⟩
  | os r ver off len =>
    simp only [rowsOf, osRows] at hy
    cases ho : H[r]? with
    | none => simp [ho] at hy
    | some obj =>
      rw [ho] at hy
      cases obj <;> simp at hy
      rename_i ver' sz' xs
      obtain ⟨⟨hv, hol⟩, rfl⟩ := hy
      obtain ⟨hr, hver, hs', hs0, hrow, hext, ⟨a, cap, rfl, hlc, hcap⟩, hblk⟩ := os_arr h hx ho hv
      have hss : sz' = sz := by simpa [szOk, ho] using hs
      subst hss
      have hlen : ((xs.drop off).take len).length = len := by simp; omega
      refine ⟨by rw [hlen]; rfl, ?_⟩
      rcases hcap with hcap | ⟨b, o, hb, rfl, he⟩
      · have h0 : len = 0 := by omega
        subst h0
        exact none_ (by simp) _ _ _ rfl
      · obtain ⟨c, e, fr, hh, hsz', hfr, hrep⟩ := hblk b o hb
        have hget : ∀ i y, ((xs.drop off).take len)[i]? = some y → xs[off + i]? = some y := by
          intro i y hy
          rw [List.getElem?_take] at hy
          split at hy
          · rwa [List.getElem?_drop] at hy
          · cases hy
        refine mem b (o + off * (ρ r).sz) _ cap (fun i j => c.getD (o + (off + i) * sz' + j) undef) (fun y hy => hrow y (List.mem_of_mem_drop (List.mem_of_mem_take hy))) fun i j y z hy hz => ?_
        have g := hget i y hy
        have hlt : o + (off + i) * sz' + j < c.size := by
          have h1 : off + i < xs.length := (List.getElem?_eq_some_iff.1 g).1
          have h2 : j < y.length := (List.getElem?_eq_some_iff.1 hz).1
          rw [hrow y (List.mem_of_getElem? g)] at h2
          have := mul_lt_of h1 h2
          omega
        have hg := get_some hlt
        refine ⟨?_, (hrep _ _ _ _ _ g hz hg).2, (hrep _ _ _ _ _ g hz hg).1⟩
        rw [cell_of_blk hh, hs', show o + off * sz' + i * sz' + j = o + (off + i) * sz' + j by rw [Nat.add_mul]; omega]
        exact hg
  | nc =>
    simp only [rowsOf, Option.some.injEq] at hy
    subst hy
    cases hx
    exact ⟨rfl, none_ rfl _ _ _ rfl⟩
  | v x =>
    have := rep_v hx; subst this
    cases u with
    | slice a n c =>
      cases a <;> cases n <;> cases c <;> simp [rowsOf] at hy
      subst hy
      exact ⟨rfl, none_ rfl _ _ _ rfl⟩
    | string s =>
      simp only [rowsOf, Option.some.injEq] at hy
      have h1 : sz = 1 := by simpa [szOk] using hs
      subst h1 hy
      refine ⟨by simp [Builtin.lenOf, len_bs], fun m hm => ?_⟩
      simp only [List.length_map] at hm
      refine ⟨((bs s).take m).map fun b => .int .u8 b.toNat, by simp; omega, ?_, ?_, ?_, ?_⟩
      · intro w2 _
        simp only [Builtin.firstCells, Sem.run_pure]
        congr 1
        apply Array.ext'
        simp [bs, ByteArray.data_extract, List.extract_eq_take_drop]
      · intro v hv
        simp only [List.mem_map] at hv
        obtain ⟨b, _, rfl⟩ := hv
        rfl
      · intro y hy
        simp only [List.mem_map] at hy
        obtain ⟨b, _, rfl⟩ := hy
        rfl
      · intro i j y z v hi hy hz hv
        simp only [List.getElem?_map] at hy
        cases hb : (bs s)[i]? with
        | none => simp [hb] at hy
        | some b =>
          simp [hb] at hy
          subst hy
          cases j with
          | succ j => simp [byteRow] at hz
          | zero =>
            simp [byteRow] at hz
            subst hz
            simp [hi, hb] at hv
            subst hv
            exact .v _ _
    | _ => simp [rowsOf] at hy
  | _ => simp [rowsOf] at hy

theorem growBy_le (n : Nat) : ∀ (r c : Nat), 256 ≤ c → c ≤ 2 * n → Builtin.growBy n r c ≤ 2 * n
  | 0, c, _, h => h
  | r + 1, c, h0, h => by
    simp only [Builtin.growBy]
    split
    · exact h
    · exact growBy_le n r _ (by omega) (by omega)
theorem nextcap_le {n c : Nat} (h : c < n) : Builtin.nextslicecap n c ≤ 2 * n := by
  unfold Builtin.nextslicecap
  split
  · omega
  · split
    · omega
    · exact growBy_le n 4 c (by omega) (by omega)

theorem append_run {t u el : TypeId} {i : TypeInfo} {ty : TypeId} {s x z : Value} (ht : P.underlying t = some (.slice el)) (hu : ∃ d, P.underlying u = some d ∧ ∀ k, d ≠ .int k) (hi : P.info? el = some i) (hz : i.zero = some z)
    {base : Option Addr} {sLen sCap n : Nat} (hs : s = .slice base sLen sCap) (hn : (Builtin.lenOf x).run P w = .ok n w) {cs : List Value} (hf0 : ∀ w2 : World, (∀ a, w2.cell? a = w.cell? a) → (Builtin.firstCells i.size n x).run P w2 = .ok cs.toArray w2) :
    (sLen + n ≤ sCap → ∀ w', (match base with | some a => (storeCells (a.add (sLen * i.size)) cs).run P w = .ok () w' | none => w' = w) → (Builtin.append_ #[t, u] ty #[s, x]).run P w = .ok (.slice base (sLen + n) sCap) w') ∧
    (¬ sLen + n ≤ sCap → (sLen + n) * i.bytes ≤ 140737488355328 → sLen + n ≤ 140737488355328 → ∀ old : List Value, (∀ w2 : World, (∀ a, w2.cell? a = w.cell? a) → (Builtin.firstCells i.size sLen s).run P w2 = .ok old.toArray w2) → ∃ cap, sLen + n ≤ cap ∧
      (Builtin.append_ #[t, u] ty #[s, x]).run P w = .ok (.slice (some ⟨w.heap.size, 0, none⟩) (sLen + n) cap) (w.drew.alloc (.cells (old.toArray ++ cs.toArray ++ Builtin.zeroCells z.cells (cap - (sLen + n))) el))) := by
  obtain ⟨d, hd, hnd⟩ := hu
  have e5 : ∀ b (w : World), (askRoom b).run P w = .ok () w := fun b w => by
    unfold askRoom
    split <;> rfl
  subst hs
  constructor
  · intro hle w' hst
    have hf := hf0 w fun _ => rfl
    unfold Builtin.append_
    simp only [List.getElem?_toArray, List.getElem?_cons_zero, List.getElem?_cons_succ, Sem.run_bind, run_underlying ht, Result.andThen_ok, sizeOf, typeInfo, run_program, hi, Sem.run_pure, run_underlying hd, Bool.false_eq_true, if_false, hn, Sem.run_ite, if_pos hle, hf, Bool.not_false, if_true]
    cases base with
    | none => simp only [Sem.run_pure]; rw [hst]
    | some a => simp only at hst; simp [hst]
  · intro hle hb1 hb2 old hold
    refine ⟨grownCap w (sLen + n) sCap el, grownCap_ge _ _ _ _, ?_⟩
    have hnext := nextcap_le (n := sLen + n) (c := sCap) (by omega)
    have h48 : ¬ Builtin.nextslicecap (sLen + n) sCap * i.bytes > 2 ^ 48 := by
      have := Nat.mul_le_mul_right i.bytes hnext
      rw [Nat.mul_assoc] at this
      omega
    have hch : (choose (.appendCap (sLen + n) sCap el)).run P w = .ok (grownCap w (sLen + n) sCap el) w.drew := by
      simp [choose, Sem.run, Question.forced, grownCap]
    have hf' := hf0 w.drew fun _ => rfl
    have hold' := hold w.drew fun _ => rfl
    unfold Builtin.append_
    simp only [List.getElem?_toArray, List.getElem?_cons_zero, List.getElem?_cons_succ, Sem.run_bind, run_underlying ht, Result.andThen_ok, sizeOf, typeInfo, run_program, hi, Sem.run_pure, run_underlying hd, Bool.false_eq_true, if_false, hn, Sem.run_ite, if_neg hle, if_neg h48, hch, e5, hold', hf', Bool.not_false, if_true]
    rw [if_neg (by rw [IntKind.max_i64]; omega)]
    simp [zeroValue, typeInfo, hi, hz, newRow]

theorem zeroCells_size (z : Array Value) (n : Nat) : (Builtin.zeroCells z n).size = n * z.size := by simp [Builtin.zeroCells]

/-- Old elements, new elements, and whatever lies behind them. -/
theorem rows_app {M : Nat → Prop} {sz : Nat} {xs ys : List (List AV)} {old cs : List Value} {Z : Array Value} (hx : ∀ x ∈ xs, x.length = sz) (hy : ∀ y ∈ ys, y.length = sz) (ho : old.length = xs.length * sz) (hc : cs.length = ys.length * sz)
    (ro : ∀ (i j : Nat) (y : List AV) (z : AV) (v : Value), xs[i]? = some y → y[j]? = some z → old[i * sz + j]? = some v → Rep w M ρ 0 z v ∧ one v = true)
    (rc : ∀ (i j : Nat) (y : List AV) (z : AV) (v : Value), ys[i]? = some y → y[j]? = some z → cs[i * sz + j]? = some v → Rep w M ρ 0 z v ∧ one v = true) :
    Rows w M ρ (old.toArray ++ cs.toArray ++ Z) 0 sz (xs ++ ys) := by
  refine ⟨by simp [ho, hc, Nat.add_mul], fun x hx' => ?_, fun i j x y u hx' hy' hu => ?_⟩
  · rcases List.mem_append.1 hx' with h | h
    · exact hx x h
    · exact hy x h
  · have hj : j < sz := by
      have := (List.getElem?_eq_some_iff.1 hy').1
      have hm : x.length = sz := by
        rcases List.mem_append.1 (List.mem_of_getElem? hx') with h | h
        · exact hx x h
        · exact hy x h
      omega
    rw [List.getElem?_append] at hx'
    split at hx'
    · rename_i hi
      have hlt : i * sz + j < old.length := by rw [ho]; exact mul_lt_of hi hj
      have : old[i * sz + j]? = some u := by
        rw [Nat.zero_add, Array.getElem?_append_left (by simp; omega), Array.getElem?_append_left (by simpa using hlt)] at hu
        simpa using hu
      exact ro i j x y u hx' hy' this
    · rename_i hi
      have hi2 : i - xs.length < ys.length := (List.getElem?_eq_some_iff.1 hx').1
      have hlt : (i - xs.length) * sz + j < cs.length := by rw [hc]; exact mul_lt_of hi2 hj
      have he : i * sz = xs.length * sz + (i - xs.length) * sz := by rw [← Nat.add_mul]; congr 1; omega
      have : cs[(i - xs.length) * sz + j]? = some u := by
        rw [Nat.zero_add, Array.getElem?_append_left (by simp; omega), Array.getElem?_append_right (by simp; omega)] at hu
        have e2 : i * sz + j - old.toArray.size = (i - xs.length) * sz + j := by simp; omega
        rw [e2] at hu
        simpa using hu
      exact rc _ j x y u hx' hy' this

theorem one_of_mem {cs : List Value} (h : ∀ v ∈ cs, one v = true) {k : Nat} {v : Value} (hk : cs[k]? = some v) : one v = true := h v (List.mem_of_getElem? hk)

theorem snd_append_nil {t u el : TypeId} {i : TypeInfo} {ty : TypeId} {z : Value} {x : AV} {v : Value} {base : Option Addr} (ht : P.underlying t = some (.slice el)) (hu : ∃ d, P.underlying u = some d ∧ ∀ k, d ≠ .int k) (hi : P.info? el = some i) (hz : i.zero = some z) (hzs : z.cells.size = i.size)
    (h : HRel w X ρ H) (hx : Rp w X ρ H x v) : Gives P (Builtin.append_ #[t, u] ty #[.slice base 0 0, v]) w X ρ H ((rAppendN i.size i.bytes (rowsOf H x) H).also (szOk H i.size x)) := by
  refine gives_also fun hso => ?_
  cases hr : rowsOf H x with
  | none => exact gives_no
  | some ys =>
    rintro ⟨hsz, hb, hb2⟩
    obtain ⟨hlen, hsrc⟩ := rows_src (P := P) h hx hr hso hsz
    obtain ⟨cs, hl, hf, h1, hrow, hrep⟩ := hsrc ys.length (Nat.le_refl _)
    obtain ⟨ha, hg⟩ := append_run (ty := ty) (s := .slice base 0 0) ht hu hi hz rfl hlen hf
    by_cases h0 : ys.length = 0
    · have hys : ys = [] := List.eq_nil_of_length_eq_zero h0
      subst hys
      have hcs : cs = [] := List.eq_nil_of_length_eq_zero (by simpa using hl)
      subst hcs
      have hrun := ha (by simp) w (by cases base <;> simp [storeCells])
      obtain ⟨ρ', g1, g2, g3⟩ := none_own h hsz base
      exact ⟨_, _, ρ', hrun, g1, g2, g3⟩
    · obtain ⟨cap, hcap, hrun⟩ := hg (by omega) (by simpa using hb) (by omega) [] (by intro w2 _; cases base <;> simp [Builtin.firstCells, loadCells, loadCellsFrom])
      simp only [Nat.zero_add] at hrun hcap
      have hrows := rows_app (w := w) (M := Mut X ρ H.length) (ρ := ρ) (sz := i.size) (xs := []) (ys := ys) (old := []) (cs := cs) (Z := Builtin.zeroCells z.cells (cap - ys.length)) (fun x hx => by simp at hx) hrow (by simp) hl
        (fun i j y z v hy => by simp at hy) (fun i j y z v hy hz hv => ⟨hrep i j y z v (List.getElem?_eq_some_iff.1 hy).1 hy hz hv, one_of_mem h1 hv⟩)
      obtain ⟨ρ', g1, g2, g3⟩ := new_own (w1 := w.drew.alloc (.cells ([].toArray ++ cs.toArray ++ Builtin.zeroCells z.cells (cap - ys.length)) el)) h ((Same.drew w).trans (Same.alloc _ _)) (heap_old w.drew _) (Nat.le_refl _) (by simp) (heap_new w.drew _) (.inl rfl) hsz hrows
        (len := ys.length) (cap := cap) hcap (by simp [zeroCells_size, hzs, hl, ← Nat.add_mul]; exact Nat.mul_le_mul_right _ (by omega))
      exact ⟨_, _, ρ', hrun, g1, by simpa [rAppendN] using g2, g3⟩

theorem snd_append {t u el : TypeId} {i : TypeInfo} {ty : TypeId} {z : Value} {s x : AV} {sv v : Value} (ht : P.underlying t = some (.slice el)) (hu : ∃ d, P.underlying u = some d ∧ ∀ k, d ≠ .int k) (hi : P.info? el = some i) (hz : i.zero = some z) (hzs : z.cells.size = i.size)
    (h : HRel w X ρ H) (hs : Rp w X ρ H s sv) (hx : Rp w X ρ H x v) : Gives P (Builtin.append_ #[t, u] ty #[sv, v]) w X ρ H (rAppend i.size i.bytes s x H) := by
  cases s with
  | nc =>
    cases hs
    exact snd_append_nil ht hu hi hz hzs h hx
  | v sx =>
    have := rep_v hs; subst this
    cases sv with
    | slice a n c => cases a <;> cases n <;> cases c <;> first | exact gives_no | exact snd_append_nil ht hu hi hz hzs h hx
    | _ => exact gives_no
  | os r ver off len =>
    cases off with
    | succ off => exact gives_no
    | zero =>
      simp only [rAppend]
      refine gives_also fun hso => ?_
      cases ho : H[r]? with
      | none => exact gives_no
      | some obj =>
        cases obj <;> first | exact gives_no | skip
        rename_i ver' sz' xs
        cases hr : rowsOf H x with
        | none => exact gives_no
        | some ys =>
          rintro ⟨hv, hss, hlx, hb, hb2⟩
          subst hv hss
          obtain ⟨hrl, hver, hsz', hsz, hrowx, hext, ⟨a, cap, rfl, hlc, hcap⟩, hblk⟩ := os_arr h hs ho rfl
          obtain ⟨hlen, hsrc⟩ := rows_src (P := P) h hx hr hso hsz
          obtain ⟨cs, hl, hf, h1, hrow, hrep⟩ := hsrc ys.length (Nat.le_refl _)
          obtain ⟨ha, hg⟩ := append_run (ty := ty) (s := .slice a len cap) ht hu hi hz rfl hlen hf
          have hobj := h.objs r _ ho
          by_cases hin : len + ys.length ≤ cap
          · rcases hcap with hc0 | ⟨b, o, hb', rfl, he⟩
            · have hl0 : len = 0 := by omega
              have hy0 : ys = [] := List.eq_nil_of_length_eq_zero (by omega)
              subst hl0 hy0 hc0
              have hcs : cs = [] := List.eq_nil_of_length_eq_zero (by simpa using hl)
              subst hcs
              have hrun := ha hin w (by cases a <;> simp [storeCells])
              obtain ⟨ρ', hρ, g1, g2⟩ := h.setAt (w' := w) hrl { ρ r with ver := ver + 1 } (.arr (ver + 1) i.size (xs.take 0 ++ [])) (Same.refl w) (.inr (by show (ρ r).ver < ver + 1; omega)) (fun b o hb => .inl ⟨o, hb⟩) (fun _ _ _ => rfl)
                (fun ρ' _ hf' => by
                  refine ⟨rfl, hsz', hsz, fun x hx => by simp at hx, by simp, ?_⟩
                  show match (ρ r).blk with | none => _ | some (b, o) => _
                  cases hbk : (ρ r).blk with
                  | none => simp
                  | some bo =>
                    obtain ⟨b, o⟩ := bo
                    obtain ⟨c, e, fr, q1, q2, q3, _⟩ := hblk b o hbk
                    exact ⟨c, e, fr, q1, q2, q3, fun i j x y u hx => by simp at hx⟩)
              refine ⟨_, _, ρ', hrun, g1, ?_, g2⟩
              exact .os _ _ _ _ _ _ (by simpa [rAppendO] using hrl) (by rw [hρ]; exact Nat.le_refl _) rfl fun _ => ⟨_, _, rfl, by simp, .inl rfl⟩
            · obtain ⟨c, e, fr, hh, hsize, hfr, hrepo⟩ := hblk b o hb'
              rw [hsz'] at he
              have hfit : o + len * i.size + cs.length ≤ c.size := by
                rw [hl]
                have : (len + ys.length) * i.size ≤ cap * i.size := Nat.mul_le_mul_right _ hin
                rw [Nat.add_mul] at this
                simp only [Nat.zero_add] at he
                omega
              have hst := run_storeCells_fr (P := P) b (o + len * i.size) e fr cs 0 c w hh hfr (by simpa using hfit) h1
              simp only [Nat.add_zero] at hst
              have hadd : (⟨b, o + 0 * (ρ r).sz, none⟩ : Addr).add (len * i.size) = ⟨b, o + len * i.size, none⟩ := by rw [Addr.add_lit]; simp
              have hrun := ha hin _ (by simp only; rw [hadd]; exact hst)
              obtain ⟨ρ', hρ, g1, g2⟩ := h.setAt (w' := w.setRow b (c.toList.take (o + len * i.size) ++ cs ++ c.toList.drop (o + len * i.size + cs.length)).toArray) hrl { ρ r with ver := ver + 1 } (.arr (ver + 1) i.size (xs.take len ++ ys)) (Same.setRow _ _ _)
                (.inr (by show (ρ r).ver < ver + 1; omega)) (fun b o hb => .inl ⟨o, hb⟩) (fun b' _ hne => setRow_other _ _ _ _ (fun e => hne o (by rw [e]; exact hb')))
                (fun ρ' _ hf' => by
                  have hcsz : ((c.toList.take (o + len * i.size) ++ cs ++ c.toList.drop (o + len * i.size + cs.length)).toArray).size = c.size := by simp; omega
                  refine ⟨rfl, hsz', hsz, ?_, ?_, ?_⟩
                  · intro y hy
                    rcases List.mem_append.1 hy with hy | hy
                    · exact hrowx y (List.mem_of_mem_take hy)
                    · exact hrow y hy
                  · show _ ≤ (ρ r).ext
                    simp only [List.length_append, List.length_take, Nat.min_eq_left hlx]
                    have : (len + ys.length) * i.size ≤ cap * i.size := Nat.mul_le_mul_right _ hin
                    simp only [Nat.zero_add] at he
                    omega
                  · show match (ρ r).blk with | none => _ | some (b, o) => _
                    rw [hb']
                    refine ⟨_, e, fr, setRow_heap w b c _ e fr hh, by rw [hcsz]; exact hsize, by rw [hcsz]; exact hfr, ?_⟩
                    intro k j x' y zz hx' hy hzz
                    have hj : j < i.size := by
                      have h2 := (List.getElem?_eq_some_iff.1 hy).1
                      have hm : x'.length = i.size := by
                        rcases List.mem_append.1 (List.mem_of_getElem? hx') with h | h
                        · exact hrowx x' (List.mem_of_mem_take h)
                        · exact hrow x' h
                      omega
                    have hzz' : (c.toList.take (o + len * i.size) ++ cs ++ c.toList.drop (o + len * i.size + cs.length))[o + k * i.size + j]? = some zz := by simpa using hzz
                    rw [getElem?_splice _ _ _ _ (by simpa using hfit)] at hzz'
                    rw [List.getElem?_append, List.length_take, Nat.min_eq_left hlx] at hx'
                    split at hx'
                    · rename_i hk
                      have := mul_lt_of hk hj
                      rw [if_pos (by omega)] at hzz'
                      rw [List.getElem?_take, if_pos hk] at hx'
                      have := hrepo k j x' y zz hx' hy (by simpa using hzz')
                      exact ⟨this.1.next hf' (Nat.zero_le _), this.2⟩
                    · rename_i hk
                      have hk2 : k - len < ys.length := (List.getElem?_eq_some_iff.1 hx').1
                      have hke : k * i.size = len * i.size + (k - len) * i.size := by rw [← Nat.add_mul]; congr 1; omega
                      have := mul_lt_of hk2 hj
                      rw [if_neg (by omega), if_pos (by omega), show o + k * i.size + j - (o + len * i.size) = (k - len) * i.size + j by omega] at hzz'
                      exact ⟨(hrep _ j x' y zz hk2 hx' hy hzz').next hf' (Nat.zero_le _), one_of_mem h1 hzz'⟩)
              refine ⟨_, _, ρ', hrun, g1, ?_, g2⟩
              refine .os _ _ _ _ _ _ (by simpa [rAppendO] using hrl) (by rw [hρ]; exact Nat.le_refl _) rfl fun _ => ⟨_, _, rfl, hin, .inr ⟨b, o, by rw [hρ]; exact hb', by rw [hρ], ?_⟩⟩
              rw [hρ]
              show (0 + cap) * (ρ r).sz ≤ (ρ r).ext
              rw [hsz']
              exact he
          · have hselfR : rowsOf H (.os r ver 0 len) = some (xs.take len) := by simp [rowsOf, osRows, ho, hlx]
            have hselfS : szOk H i.size (.os r ver 0 len) := by simp [szOk, ho]
            obtain ⟨_, hself⟩ := rows_src (P := P) h hs hselfR hselfS hsz
            have htl : (xs.take len).length = len := by simp; omega
            obtain ⟨old, hol, hfo, h1o, _, hrepold⟩ := hself len (by omega)
            obtain ⟨cap', hcap', hrun⟩ := hg hin (by simpa using hb) hb2 old hfo
            have hrows := rows_app (w := w) (M := Mut X ρ H.length) (ρ := ρ) (sz := i.size) (xs := xs.take len) (ys := ys) (old := old) (cs := cs) (Z := Builtin.zeroCells z.cells (cap' - (len + ys.length)))
              (fun x hx => hrowx x (List.mem_of_mem_take hx)) hrow (by rw [htl]; exact hol) hl
              (fun k j y zz v hy hzz hv => ⟨hrepold k j y zz v (by have := (List.getElem?_eq_some_iff.1 hy).1; omega) hy hzz hv, one_of_mem h1o hv⟩)
              (fun k j y zz v hy hzz hv => ⟨hrep k j y zz v (List.getElem?_eq_some_iff.1 hy).1 hy hzz hv, one_of_mem h1 hv⟩)
            have hCs : (old.toArray ++ cs.toArray ++ Builtin.zeroCells z.cells (cap' - (len + ys.length))).size = cap' * i.size := by
              simp [zeroCells_size, hzs, hl, hol, ← Nat.add_mul]
              congr 1
              omega
            obtain ⟨ρ', hρ, g1, g2⟩ := h.setAt (w' := w.drew.alloc (.cells (old.toArray ++ cs.toArray ++ Builtin.zeroCells z.cells (cap' - (len + ys.length))) el)) hrl { blk := some (w.heap.size, 0), ext := cap' * i.size, ver := ver + 1, sz := i.size } (.arr (ver + 1) i.size (xs.take len ++ ys))
              ((Same.drew w).trans (Same.alloc _ _)) (.inr (by show (ρ r).ver < ver + 1; omega)) (fun b o hb => .inr (by simp at hb; obtain ⟨rfl, _⟩ := hb; simp)) (fun b hb _ => heap_old w.drew _ b hb)
              (fun ρ' _ hf' => by
                refine ⟨rfl, rfl, hsz, hrows.row, ?_, _, el, (0, 0), heap_new w.drew _, ?_, .inl rfl, ?_⟩
                · show _ ≤ cap' * i.size
                  have := hrows.fit
                  omega
                · show 0 + cap' * i.size ≤ _
                  omega
                · intro k j x' y zz hx' hy hzz
                  have := hrows.rep k j x' y zz hx' hy hzz
                  exact ⟨this.1.next hf' (Nat.zero_le _), this.2⟩)
            refine ⟨_, _, ρ', hrun, g1, ?_, g2⟩
            refine .os _ _ _ _ _ _ (by simpa [rAppendO] using hrl) (by rw [hρ]; exact Nat.le_refl _) rfl fun _ => ⟨_, _, rfl, hcap', .inr ⟨w.heap.size, 0, by rw [hρ], by simp, ?_⟩⟩
            rw [hρ]
            simp
  | _ => exact gives_no

theorem rep_vx' {n : Nat} {M : Nat → Prop} {x u : Value} (h : Rep w M ρ n (.v x) u) : u = x := by cases h; rfl
/-- Bytes of a known type: where they lie. -/
theorem os_barr (h : HRel w X ρ H) {r ver off len : Nat} {u : Value} (hx : Rp w X ρ H (.os r ver off len) u) {t v : Nat} {bl : List UInt8} (ho : H[r]? = some (.barr t v bl)) (hv : ver = v) :
    r < H.length ∧ (ρ r).ver = ver ∧ (ρ r).sz = 1 ∧ bl.length ≤ (ρ r).ext ∧ OsOk (ρ r) off len u ∧ (match (ρ r).blk with
      | none => bl = []
      | some (b, o) => ∃ c fr, w.heap[b]? = some (.cells c t fr) ∧ o + (ρ r).ext ≤ c.size ∧ noFr fr c.size ∧ ∀ (i : Nat) (x : UInt8), bl[i]? = some x → c[o + i]? = some (.int .u8 x.toNat)) := by
  obtain ⟨h1, h2, h3, h4⟩ := h.objs r _ ho
  cases hx with
  | os _ _ _ _ _ _ hr hle hone hp =>
    subst hv
    exact ⟨hr, h1, h2, h3, hp h1.symm, h4⟩
theorem str_cells (h : HRel w X ρ H) {y : ByteArray} : ∃ cs : List Value, cs = (bs y).map (fun x => Value.int .u8 x.toNat) ∧ (Builtin.lenOf (.string y)).run P w = .ok (bs y).length w ∧ ∀ w2 : World, (∀ a, w2.cell? a = w.cell? a) → (Builtin.firstCells 1 (bs y).length (.string y)).run P w2 = .ok cs.toArray w2 := by
  obtain ⟨hlen, hsrc⟩ := rows_src (P := P) (sz := 1) h (.v _ (.string y)) (ys := (bs y).map byteRow) rfl (by simp [szOk]) (by decide)
  obtain ⟨cs, hl, hf, h1, hrow, hrep⟩ := hsrc _ (Nat.le_refl _)
  rw [List.length_map] at hlen hl hf
  refine ⟨cs, ?_, hlen, hf⟩
  apply List.ext_getElem?
  intro i
  rw [List.getElem?_map]
  by_cases hi : i < (bs y).length
  · have hci : i < cs.length := by omega
    rw [List.getElem?_eq_getElem hci, List.getElem?_eq_getElem hi]
    have := hrep i 0 (byteRow (bs y)[i]) (u8 (bs y)[i].toNat) cs[i] (by simpa using hi) (by simp [hi]) rfl (by simp [hci])
    rw [rep_vx' this]
    rfl
  · rw [List.getElem?_eq_none (by omega), List.getElem?_eq_none (by omega)]
    rfl
theorem cells_at {l : List UInt8} {i : Nat} {x : UInt8} (h : l[i]? = some x) : (l.map (fun x => Value.int .u8 x.toNat))[i]? = some (.int .u8 x.toNat) := by
  rw [List.getElem?_map, h]; rfl

theorem snd_appendb {t u el : TypeId} {i : TypeInfo} {ty : TypeId} {z : Value} {s x : AV} {sv v : Value} (ht : P.underlying t = some (.slice el)) (hu : ∃ d, P.underlying u = some d ∧ ∀ k, d ≠ .int k) (hi : P.info? el = some i) (hz : i.zero = some z) (hzs : z.cells.size = 1) (hs1 : i.size = 1) (hb1 : i.bytes = 1)
    (h : HRel w X ρ H) (hs : Rp w X ρ H s sv) (hx : Rp w X ρ H x v) : Gives P (Builtin.append_ #[t, u] ty #[sv, v]) w X ρ H (rAppendB el s x H) := by
  cases x with
  | v xv =>
    have := rep_v hx; subst this
    cases v with
    | string y =>
      obtain ⟨cs, hcs, hlen, hf⟩ := str_cells (P := P) h (y := y)
      have hone : ∀ v ∈ cs, one v = true := fun v hv => by
        rw [hcs] at hv
        obtain ⟨b, _, rfl⟩ := List.mem_map.1 hv
        rfl
      have hcl : cs.length = (bs y).length := by rw [hcs, List.length_map]
      show Gives P _ w X ρ H (rAppendBS el s (bs y) H)
      have hf' : ∀ w2 : World, (∀ a, w2.cell? a = w.cell? a) → (Builtin.firstCells i.size (bs y).length (.string y)).run P w2 = .ok cs.toArray w2 := by rw [hs1]; exact hf
      cases s with
      | v sx =>
        have := rep_v hs; subst this
        cases sv with
        | slice a n c =>
          cases a <;> cases n <;> cases c <;> first | exact gives_no | skip
          obtain ⟨ha, hg⟩ := append_run (ty := ty) (s := .slice none 0 0) ht hu hi hz rfl hlen hf'
          show Gives P _ w X ρ H (rAppendBZ el (bs y) H)
          by_cases hy0 : bs y = []
          · rw [hy0]
            have hrun := ha (by rw [hy0]; simp) w rfl
            rw [hy0] at hrun
            intro _
            exact ⟨_, w, ρ, hrun, h, .v _ _, Fut.refl _ _ _⟩
          · have h0 : ¬ (bs y).length = 0 := fun e => hy0 (List.eq_nil_of_length_eq_zero e)
            rw [show rAppendBZ el (bs y) H = ⟨(bs y).length ≤ 140737488355328, .os H.length 0 0 (bs y).length, H ++ [.barr el 0 (bs y)]⟩ from if_neg hy0]
            intro hb
            change (bs y).length ≤ 140737488355328 at hb
            obtain ⟨cap, hcap, hrun⟩ := hg (by omega) (by rw [hb1]; simpa using hb) (by simpa using hb) [] (by intro w2 _; simp [Builtin.firstCells])
            simp only [Nat.zero_add] at hrun hcap
            have hsz : ((([] : List Value).toArray ++ cs.toArray ++ Builtin.zeroCells z.cells (cap - (bs y).length))).size = cap := by simp [zeroCells_size, hzs, hcl]; omega
            obtain ⟨ρ', hl', hrel, hfu⟩ := h.push (w' := w.drew.alloc (.cells (([] : List Value).toArray ++ cs.toArray ++ Builtin.zeroCells z.cells (cap - (bs y).length)) el)) { blk := some (w.heap.size, 0), ext := cap, sz := 1 } (.barr el 0 (bs y)) ((Same.drew w).trans (Same.alloc _ _)) (fun b' o hb' => by simp at hb'; obtain ⟨rfl, _⟩ := hb'; simp) (heap_old w.drew _)
              (fun ρ' hf hl' => ⟨rfl, rfl, hcap, _, (0, 0), heap_new w.drew _, by rw [hsz]; simp, .inl rfl, fun k x hk => by
                have hlt : k < (bs y).length := (List.getElem?_eq_some_iff.1 hk).1
                rw [Nat.zero_add, Array.getElem?_append_left (by simp; omega), Array.getElem?_append_right (by simp)]
                have := cells_at hk
                rw [← hcs] at this
                simpa using this⟩)
            refine ⟨_, _, ρ', hrun, hrel, .os _ _ _ _ _ _ (by show H.length < (H ++ [_]).length; simp) (by rw [hl']; exact Nat.le_refl _) rfl fun _ => ⟨_, _, rfl, hcap, .inr ⟨w.heap.size, 0, by rw [hl'], by simp, ?_⟩⟩, hfu⟩
            rw [hl']
            simp
        | _ => exact gives_no
      | os r ver off len =>
        cases off with
        | succ off => exact gives_no
        | zero =>
          show Gives P _ w X ρ H (rAppendBO el r ver len (bs y) H H[r]?)
          cases ho : H[r]? with
          | none => exact gives_no
          | some obj =>
            cases obj <;> first | exact gives_no | skip
            rename_i t' ver' bl
            rintro ⟨hv, htt, hll, hb⟩
            subst hv htt
            obtain ⟨hrl, hver, hsz', hext, ⟨a, cap, rfl, hlc, hcap⟩, hblk⟩ := os_barr h hs ho rfl
            obtain ⟨ha, hg⟩ := append_run (ty := ty) (s := .slice a len cap) ht hu hi hz rfl hlen hf'
            by_cases hin : len + (bs y).length ≤ cap
            · rcases hcap with hc0 | ⟨b, o, hb', rfl, he⟩
              · have hl0 : len = 0 := by omega
                have hy0 : bs y = [] := List.eq_nil_of_length_eq_zero (by omega)
                have hcs0 : cs = [] := by rw [hcs, hy0]; rfl
                have hrun := ha hin w (by rw [hcs0]; cases a <;> simp [storeCells])
                obtain ⟨ρ', hρ, g1, g2⟩ := h.setAt (w' := w) hrl { ρ r with ver := ver + 1 } (.barr el (ver + 1) (bl ++ bs y)) (Same.refl w) (.inr (by show (ρ r).ver < ver + 1; omega)) (fun b o hb => .inl ⟨o, hb⟩) (fun _ _ _ => rfl)
                  (fun ρ' _ hf' => by
                    rw [hy0, List.append_nil]
                    exact ⟨rfl, hsz', hext, hblk⟩)
                refine ⟨_, _, ρ', hrun, g1, ?_, g2⟩
                exact .os _ _ _ _ _ _ (by simpa [rAppendBO] using hrl) (by rw [hρ]; exact Nat.le_refl _) rfl fun _ => ⟨_, _, rfl, by omega, .inl hc0⟩
              · rw [hb'] at hblk
                obtain ⟨c, fr, hh, hsize, hfr, hrepo⟩ := hblk
                rw [hsz'] at he
                simp only [Nat.zero_add, Nat.mul_one] at he
                have hfit : o + len + cs.length ≤ c.size := by omega
                have hst := run_storeCells_fr (P := P) b (o + len) el fr cs 0 c w hh hfr (by simpa using hfit) hone
                simp only [Nat.add_zero] at hst
                have hadd : (⟨b, o + 0 * (ρ r).sz, none⟩ : Addr).add (len * i.size) = ⟨b, o + len, none⟩ := by rw [Addr.add_lit, hs1]; simp
                have hrun := ha hin _ (by simp only; rw [hadd]; exact hst)
                obtain ⟨ρ', hρ, g1, g2⟩ := h.setAt (w' := w.setRow b (c.toList.take (o + len) ++ cs ++ c.toList.drop (o + len + cs.length)).toArray) hrl { ρ r with ver := ver + 1 } (.barr el (ver + 1) (bl ++ bs y)) (Same.setRow _ _ _)
                  (.inr (by show (ρ r).ver < ver + 1; omega)) (fun b o hb => .inl ⟨o, hb⟩) (fun b' _ hne => setRow_other _ _ _ _ (fun e => hne o (by rw [e]; exact hb')))
                  (fun ρ' _ hf' => by
                    have hcsz : ((c.toList.take (o + len) ++ cs ++ c.toList.drop (o + len + cs.length)).toArray).size = c.size := by simp; omega
                    refine ⟨rfl, hsz', ?_, ?_⟩
                    · show _ ≤ (ρ r).ext
                      rw [List.length_append]; omega
                    · show match (ρ r).blk with | none => _ | some (b, o) => _
                      rw [hb']
                      refine ⟨_, fr, setRow_heap w b c _ el fr hh, by rw [hcsz]; exact hsize, by rw [hcsz]; exact hfr, ?_⟩
                      intro k x hk
                      rw [List.getElem?_toArray, getElem?_splice _ _ _ _ (by simpa using hfit)]
                      rw [List.getElem?_append] at hk
                      split at hk
                      · rename_i hkl
                        rw [if_pos (by omega)]
                        have := hrepo k x hk
                        simpa using this
                      · rename_i hkl
                        have hlt : k - bl.length < (bs y).length := (List.getElem?_eq_some_iff.1 hk).1
                        rw [if_neg (by omega), if_pos (by omega), show o + k - (o + len) = k - bl.length by omega, hcs]
                        exact cells_at hk)
                refine ⟨_, _, ρ', hrun, g1, ?_, g2⟩
                refine .os _ _ _ _ _ _ (by simpa [rAppendBO] using hrl) (by rw [hρ]; exact Nat.le_refl _) rfl fun _ => ⟨_, _, rfl, hin, .inr ⟨b, o, by rw [hρ]; exact hb', by rw [hρ], ?_⟩⟩
                rw [hρ]
                show (0 + cap) * (ρ r).sz ≤ (ρ r).ext
                rw [hsz']
                omega
            · obtain ⟨old, hol, hfo⟩ : ∃ old : List Value, old = bl.map (fun x => Value.int .u8 x.toNat) ∧ ∀ w2 : World, (∀ a, w2.cell? a = w.cell? a) → (Builtin.firstCells i.size len (.slice a len cap)).run P w2 = .ok old.toArray w2 := by
                refine ⟨_, rfl, fun w2 hw2 => ?_⟩
                rw [hs1]
                by_cases hl0 : len = 0
                · have hb0 : bl = [] := List.eq_nil_of_length_eq_zero (by omega)
                  subst hl0
                  rw [hb0]
                  cases a <;> simp [Builtin.firstCells, loadCells, loadCellsFrom]
                · rcases hcap with hc0 | ⟨b, o, hb', rfl, he⟩
                  · omega
                  · rw [hb'] at hblk
                    obtain ⟨c, fr, hh, hsize, hfr, hrepo⟩ := hblk
                    refine run_firstCells_some w2 1 len _ len cap _ (by simp; omega) fun j v hj => ?_
                    rw [List.getElem?_map] at hj
                    cases hbj : bl[j]? with
                    | none => rw [hbj] at hj; cases hj
                    | some x =>
                      rw [hbj] at hj
                      cases hj
                      rw [hw2, Addr.add_lit]
                      have := hrepo j x hbj
                      have hcell := cell_of_blk hh (o + j)
                      simpa [hcell] using this
              obtain ⟨cap', hcap', hrun⟩ := hg hin (by rw [hb1]; simpa using hb) hb old hfo
              have hsz : (old.toArray ++ cs.toArray ++ Builtin.zeroCells z.cells (cap' - (len + (bs y).length))).size = cap' := by simp [zeroCells_size, hzs, hcl, hol]; omega
              obtain ⟨ρ', hρ, g1, g2⟩ := h.setAt (w' := w.drew.alloc (.cells (old.toArray ++ cs.toArray ++ Builtin.zeroCells z.cells (cap' - (len + (bs y).length))) el)) hrl { blk := some (w.heap.size, 0), ext := cap', ver := ver + 1, sz := 1 } (.barr el (ver + 1) (bl ++ bs y))
                ((Same.drew w).trans (Same.alloc _ _)) (.inr (by show (ρ r).ver < ver + 1; omega)) (fun b o hb => .inr (by simp at hb; obtain ⟨rfl, _⟩ := hb; simp)) (fun b hb _ => heap_old w.drew _ b hb)
                (fun ρ' _ hf' => by
                  refine ⟨rfl, rfl, ?_, _, (0, 0), heap_new w.drew _, ?_, .inl rfl, ?_⟩
                  · show _ ≤ cap'
                    rw [List.length_append]; omega
                  · show 0 + cap' ≤ _
                    rw [hsz]; omega
                  · intro k x hk
                    have hkl : k < bl.length + (bs y).length := by have := (List.getElem?_eq_some_iff.1 hk).1; simpa using this
                    rw [Nat.zero_add, Array.getElem?_append_left (by simp [hol, hcl]; omega), show old.toArray ++ cs.toArray = (old ++ cs).toArray by simp, List.getElem?_toArray, hol, hcs, ← List.map_append]
                    exact cells_at hk)
              refine ⟨_, _, ρ', hrun, g1, ?_, g2⟩
              refine .os _ _ _ _ _ _ (by simpa [rAppendBO] using hrl) (by rw [hρ]; exact Nat.le_refl _) rfl fun _ => ⟨_, _, rfl, hcap', .inr ⟨w.heap.size, 0, by rw [hρ], by simp, ?_⟩⟩
              rw [hρ]
              simp
      | _ => exact gives_no
    | _ => exact gives_no
  | _ => exact gives_no
end
end Go.Ax

/- That an operation does what is said of it: copy, conversions, maps that are made; what the proof turns by itself. -/
namespace Go.Ax
open Go Go.RowKit

section
variable {P : Program} {w w1 : World} {X : Nat → Prop} {ρ : Nat → Loc} {H : AHeap}

theorem snd_copy {t u el : TypeId} {sz : Nat} {ty : TypeId} {s x : AV} {sv v : Value} (ht : P.underlying t = some (.slice el)) (hn : tySz P el = some sz) (hsz : 0 < sz)
    (h : HRel w X ρ H) (hs : Rp w X ρ H s sv) (hx : Rp w X ρ H x v) : Gives P (Builtin.copy_ #[t, u] ty #[sv, v]) w X ρ H (rCopy sz s x H) := by
  cases s with
  | os r ver off len =>
    cases hr : rowsOf H x with
    | none => simp only [rCopy, hr]; exact gives_no
    | some ys =>
      simp only [rCopy, hr]
      cases ho : H[r]? with
      | none => exact gives_no
      | some obj =>
        cases obj <;> first | exact gives_no | skip
        rename_i ver' sz' xs
        rintro ⟨hv, hss, hso, hfitx⟩
        subst hv hss
        obtain ⟨hrl, hver, hsz', _, hrowx, hext, ⟨a, cap, rfl, hlc, hcap⟩, hblk⟩ := os_arr h hs ho rfl
        obtain ⟨hlen, hsrc⟩ := rows_src (P := P) h hx hr hso hsz
        generalize hm : min ys.length len = m
        obtain ⟨cs, hl, hf, h1, hrow, hrep⟩ := hsrc m (by omega)
        have hf := hf w fun _ => rfl
        have hrunA : ∀ w', (match a with | some a => (storeCells a cs).run P w = .ok () w' | none => w' = w) → (Builtin.copy_ #[t, u] ty #[.slice a len cap, v]).run P w = .ok (.int .i64 (m : Nat)) w' := by
          intro w' hst
          have hmin : Nat.min ys.length len = m := hm
          unfold Builtin.copy_
          simp only [List.getElem?_toArray, List.getElem?_cons_zero, List.getElem?_cons_succ, Sem.run_bind, run_underlying ht, Result.andThen_ok, hlen, hmin, tySz_run hn, hf]
          cases a with
          | none => simp only at hst; subst hst; simp [goInt]
          | some a => simp only at hst; simp [hst, goInt]
        have hy' : (ys.take m).length = m := by simp; omega
        rcases hcap with hc0 | ⟨b, o, hb', rfl, he⟩
        · have hl0 : len = 0 := by omega
          have hm0 : m = 0 := by omega
          subst hm0
          have hcs : cs = [] := List.eq_nil_of_length_eq_zero (by simpa using hl)
          subst hcs
          have hrun := hrunA w (by cases a <;> simp [storeCells])
          obtain ⟨ρ', hρ, g1, g2⟩ := h.setAt (w' := w) hrl (ρ r) (.arr ver sz' (xs.take off ++ ys.take 0 ++ xs.drop (off + 0))) (Same.refl w) (.inl rfl) (fun b o hb => .inl ⟨o, hb⟩) (fun _ _ _ => rfl)
            (fun ρ' _ hf' => by
              simp only [List.take_zero, List.append_nil, Nat.add_zero, List.take_append_drop]
              exact (h.objs r _ ho).next hf' fun _ _ _ => rfl)
          exact ⟨_, _, ρ', hrun, g1, .v _ _, g2⟩
        · obtain ⟨c, e, fr, hh, hsize, hfr, hrepo⟩ := hblk b o hb'
          have hxs := hext
          have hofs : (off + m) * sz' ≤ xs.length * sz' := Nat.mul_le_mul_right _ (by omega)
          rw [Nat.add_mul] at hofs
          have hfit : o + off * sz' + cs.length ≤ c.size := by rw [hl]; omega
          have hst := run_storeCells_fr (P := P) b (o + off * sz') e fr cs 0 c w hh hfr (by simpa using hfit) h1
          simp only [Nat.add_zero] at hst
          have hrun := hrunA _ (by simp only; rw [hsz']; exact hst)
          obtain ⟨ρ', hρ, g1, g2⟩ := h.setAt (w' := w.setRow b (c.toList.take (o + off * sz') ++ cs ++ c.toList.drop (o + off * sz' + cs.length)).toArray) hrl (ρ r) (.arr ver sz' (xs.take off ++ ys.take m ++ xs.drop (off + m))) (Same.setRow _ _ _)
            (.inl rfl) (fun b o hb => .inl ⟨o, hb⟩) (fun b' _ hne => setRow_other _ _ _ _ (fun e => hne o (by rw [e]; exact hb')))
            (fun ρ' _ hf' => by
              have hcsz : ((c.toList.take (o + off * sz') ++ cs ++ c.toList.drop (o + off * sz' + cs.length)).toArray).size = c.size := by simp; omega
              refine ⟨hver, hsz', hsz, ?_, ?_, ?_⟩
              · intro y hy
                rcases List.mem_append.1 hy with hy | hy
                · rcases List.mem_append.1 hy with hy | hy
                  · exact hrowx y (List.mem_of_mem_take hy)
                  · exact hrow y (List.mem_of_mem_take hy)
                · exact hrowx y (List.mem_of_mem_drop hy)
              · have : (xs.take off ++ ys.take m ++ xs.drop (off + m)).length = xs.length := by simp; omega
                rw [this]
                exact hext
              · rw [hb']
                refine ⟨_, e, fr, setRow_heap w b c _ e fr hh, by rw [hcsz]; exact hsize, by rw [hcsz]; exact hfr, ?_⟩
                intro k j x' y zz hx' hy hzz
                have hzz' : (c.toList.take (o + off * sz') ++ cs ++ c.toList.drop (o + off * sz' + cs.length))[o + k * sz' + j]? = some zz := by simpa using hzz
                rw [getElem?_splice _ _ _ _ (by simpa using hfit), hl] at hzz'
                have hx2 : (xs.take off ++ ys.take m ++ xs.drop (off + (ys.take m).length))[k]? = some x' := by rw [hy']; exact hx'
                rw [getElem?_splice _ _ _ _ (by rw [hy']; omega), hy'] at hx2
                have hj : j < sz' := by
                  have h2 := (List.getElem?_eq_some_iff.1 hy).1
                  have hmm : x'.length = sz' := by
                    rcases List.mem_append.1 (List.mem_of_getElem? hx') with h | h
                    · rcases List.mem_append.1 h with h | h
                      · exact hrowx x' (List.mem_of_mem_take h)
                      · exact hrow x' (List.mem_of_mem_take h)
                    · exact hrowx x' (List.mem_of_mem_drop h)
                  omega
                by_cases hk1 : k < off
                · have := mul_lt_of hk1 hj
                  rw [if_pos hk1] at hx2
                  rw [if_pos (by omega)] at hzz'
                  have := hrepo k j x' y zz hx2 hy (by simpa using hzz')
                  exact ⟨this.1.next hf' (Nat.zero_le _), this.2⟩
                · rw [if_neg hk1] at hx2
                  have hke : k * sz' = off * sz' + (k - off) * sz' := by rw [← Nat.add_mul]; congr 1; omega
                  by_cases hk2 : k < off + m
                  · have hk3 : k - off < m := by omega
                    have := mul_lt_of hk3 hj
                    rw [if_pos hk2, List.getElem?_take, if_pos hk3] at hx2
                    rw [if_neg (by omega), if_pos (by omega), show o + k * sz' + j - (o + off * sz') = (k - off) * sz' + j by omega] at hzz'
                    exact ⟨(hrep _ j x' y zz hk3 hx2 hy hzz').next hf' (Nat.zero_le _), one_of_mem h1 hzz'⟩
                  · rw [if_neg hk2] at hx2
                    have : m * sz' ≤ (k - off) * sz' := Nat.mul_le_mul_right _ (by omega)
                    rw [if_neg (by omega), if_neg (by omega)] at hzz'
                    have := hrepo k j x' y zz hx2 hy (by simpa using hzz')
                    exact ⟨this.1.next hf' (Nat.zero_le _), this.2⟩)
          exact ⟨_, _, ρ', hrun, g1, .v _ _, g2⟩
  | _ => simp only [rCopy]; exact gives_no

theorem snd_mkmap {t : TypeId} (h : HRel w X ρ H) : Gives P (Instr.makeMap t none) w X ρ H ⟨True, .om H.length 0, H ++ [.map 0 [] []]⟩ := by
  intro _
  obtain ⟨ρ', hl, hrel, hf⟩ := h.push (w' := w.alloc (.map #[] 0)) { blk := some (w.heap.size, 0) } (.map 0 [] []) (Same.alloc _ _) (fun b o hb => by simp at hb; obtain ⟨rfl, _⟩ := hb; simp) (heap_old w _)
    (fun ρ' hf hl' => ⟨rfl, w.heap.size, #[], 0, rfl, heap_new w _, rfl, rfl, fun i x e hx => by simp at hx⟩)
  refine ⟨.map (some w.heap.size), _, ρ', by simp [Instr.makeMap], hrel, ?_, hf⟩
  exact .om _ _ _ _ (by simp) (by rw [hl]; exact Nat.le_refl _) rfl fun _ => ⟨w.heap.size, 0, by rw [hl], rfl⟩

theorem mget_fresh {k : Value} : ∀ (ks : List Value) (vs : List AV), (∀ k' ∈ ks, kEq k k' = false) → mget k ks vs = none
  | [], vs, _ => by cases vs <;> rfl
  | k' :: ks, [], _ => rfl
  | k' :: ks, v :: vs, h => by
    simp only [mget, h k' (by simp), Bool.false_eq_true, if_false]
    exact mget_fresh ks vs fun k hk => h k (by simp [hk])

theorem snd_ins {t kt el : TypeId} {kd : KD} {m k x : AV} {mu ku u : Value} (ht : P.underlying t = some (.map kt el)) (hk : keyKD P kt = some kd) (h : HRel w X ρ H) (hm : Rp w X ρ H m mu) (hkr : Rp w X ρ H k ku) (hx : Rp w X ρ H x u) :
    GivesU P (Instr.mapUpdate t mu ku u) w X ρ H (rIns kd m k x H) := by
  cases m with
  | om r ver =>
    cases k with
    | v k =>
      have := rep_v hkr; subst this
      simp only [rIns]
      cases ho : H[r]? with
      | none => intro hok; exact hok.elim
      | some obj =>
        cases obj <;> first | (intro hok; exact hok.elim) | skip
        rename_i ver' ks vs
        rintro ⟨hv, hfr, hki, hcl⟩
        subst hv
        obtain ⟨h1, b, es, clock, hblk, hh, hks, hvs, hr⟩ := h.objs r _ ho
        cases hm with
        | om _ _ _ _ hrl hle hone hpt =>
          obtain ⟨b', o', hb', rfl⟩ := hpt h1.symm
          rw [hblk] at hb'
          simp only [Option.some.injEq, Prod.mk.injEq] at hb'
          obtain ⟨rfl, _⟩ := hb'
          obtain ⟨r', hf1, hf2⟩ := findKey_ok (w := w) hk hki es.toList vs (by simpa using hvs) (fun e he => (hfr _ (by rw [hks]; exact List.mem_map.2 ⟨e, he, rfl⟩)).1)
          have hnone : r' = none := by
            rcases hf2 with ⟨h2, _⟩ | ⟨j, e, y, _, _, _, h2⟩
            · exact h2
            · rw [← hks, mget_fresh ks vs fun k' hk' => (hfr k' hk').2] at h2; cases h2
          subst hnone
          have hblt : b < w.heap.size := (h.lt r b 0 hrl hblk).1
          have hget : (getObj b).run P w = .ok (.map es clock) w := by simp [getObj, Sem.run, hh]
          have hset : (setObj b (.map (es.push { key := ku, val := u, born := clock }) (clock + 1))).run P w = .ok () { w with heap := w.heap.setIfInBounds b (.map (es.push { key := ku, val := u, born := clock }) (clock + 1)) } := by
            simp [setObj, Sem.run, hh]
          have hrun : (Instr.mapUpdate t (.map (some b)) ku u).run P w = .ok () { w with heap := w.heap.setIfInBounds b (.map (es.push { key := ku, val := u, born := clock }) (clock + 1)) } := by
            unfold Instr.mapUpdate
            simp only [Sem.run_bind, run_underlying ht, Result.andThen_ok, hget, checkKey_ok hk hki, hf1, hset]
          obtain ⟨ρ', hρ, g1, g2⟩ := h.setAt (w' := { w with heap := w.heap.setIfInBounds b (.map (es.push { key := ku, val := u, born := clock }) (clock + 1)) }) hrl (ρ r) (.map ver (ks ++ [ku]) (vs ++ [x]))
            ⟨rfl, rfl, rfl, by simp⟩ (.inl rfl) (fun b o hb => .inl ⟨o, hb⟩) (fun b' _ hne => by
              have : b ≠ b' := fun e => hne 0 (by rw [← e]; exact hblk)
              simp [Array.getElem?_setIfInBounds_ne this]) (fun ρ' _ hf' => by
              refine ⟨h1, b, es.push { key := ku, val := u, born := clock }, clock + 1, hblk, by simp [hblt], by simp [hks], by simp [hvs], ?_⟩
              intro i y e hy he
              rw [List.getElem?_append] at hy
              split at hy
              · rename_i hi
                rw [Array.getElem?_push, if_neg (by omega)] at he
                exact (hr i y e hy he).next hf' (Nat.zero_le _)
              · rename_i hi
                have hi2 : i = vs.length := by
                  have := (List.getElem?_eq_some_iff.1 hy).1
                  simp at this
                  omega
                subst hi2
                simp at hy
                subst hy
                rw [hvs] at he
                simp at he
                subst he
                exact (hx.of_cl hcl).next hf' (Nat.zero_le _))
          exact ⟨rfl, _, ρ', hrun, g1, g2⟩
    | _ => intro hok; exact hok.elim
  | _ => intro hok; exact hok.elim

/-- What the proof turns by itself: the value of a slot stays, what is known of it changes. -/
theorem snd_frz {x : AV} {u : Value} (h : HRel w X ρ H) (hx : Rp w X ρ H x u) (hok : (rFrz x H).ok) :
    ∃ ρ', HRel w X ρ' (rFrz x H).H ∧ Rep w (Mut X ρ' (rFrz x H).H.length) ρ' (rFrz x H).H.length (rFrz x H).x u ∧ Fut w ρ H.length w ρ' (rFrz x H).H.length := by
  have dead : ∀ r, r < H.length → ∃ ρ', (∀ b o, (ρ r).blk = some (b, o) → ¬ Mut X ρ' H.length b) ∧ HRel w X ρ' (H.set r .dead) ∧ Fut w ρ H.length w ρ' H.length := by
    intro r hr
    obtain ⟨ρ', hρ, hne, g1, g2⟩ := h.setAtX (w' := w) hr { ver := (ρ r).ver + 1 } .dead (Same.refl w) (.inr (Nat.lt_succ_self _)) (fun b o hb => by simp at hb) (fun _ _ _ => rfl) (fun _ _ _ => trivial)
    rw [show (H.set r .dead).length = H.length from List.length_set] at g2
    refine ⟨ρ', fun b o hb hm => ?_, g1, g2⟩
    rcases hm with hx | ⟨r', o', hr', hb'⟩
    · exact (h.lt r b o hr hb).2 hx
    · by_cases hrr : r' = r
      · rw [hrr, hρ] at hb'; simp at hb'
      · rw [hne r' hrr] at hb'
        exact h.inj r' r b o' b o hr' hr hrr hb' hb rfl
  have hlen : ∀ r, (H.set r .dead).length = H.length := fun r => List.length_set
  cases x with
  | sl sz xs => exact ⟨ρ, h, hx, Fut.refl _ _ _⟩
  | v x =>
    have := rep_v hx; subst this
    cases u with
    | slice a n c =>
      cases a <;> cases n <;> cases c <;> first | exact hok.elim | exact ⟨ρ, h, .slE _ _ _ _, Fut.refl _ _ _⟩
    | _ => exact hok.elim
  | os r ver off len =>
    simp only [rFrz] at hok ⊢
    cases ho : H[r]? with
    | none => rw [ho] at hok; exact hok.elim
    | some obj =>
      rw [ho] at hok
      cases obj <;> first | exact hok.elim | skip
      rename_i ver' sz xs
      obtain ⟨hv, hol⟩ := hok
      subst hv
      obtain ⟨hrl, hver, hsz', hsz, hrowx, hext, ⟨a, cap, rfl, hlc, hcap⟩, hblk⟩ := os_arr h hx ho rfl
      obtain ⟨ρ', hmut, g1, g2⟩ := dead r hrl
      simp only [hlen]
      refine ⟨ρ', g1, ?_, g2⟩
      have hl' : ((xs.drop off).take len).length = len := by simp; omega
      rcases hcap with hc0 | ⟨b, o, hb, rfl, he⟩
      · have : len = 0 := by omega
        subst this
        simp only [List.take_zero]
        exact .slE _ _ _ _
      · obtain ⟨c, e, fr, hh, hsize, hfr, hrep⟩ := hblk b o hb
        have hget : ∀ i y, ((xs.drop off).take len)[i]? = some y → xs[off + i]? = some y := by
          intro i y hy
          rw [List.getElem?_take] at hy
          split at hy
          · rwa [List.getElem?_drop] at hy
          · cases hy
        have hat : ∀ (i j : Nat) (y : List AV) (z : AV), ((xs.drop off).take len)[i]? = some y → y[j]? = some z → xs[off + i]? = some y ∧ o + (off + i) * sz + j < c.size := by
          intro i j y z hy hz
          have g := hget i y hy
          refine ⟨g, ?_⟩
          have h1 : off + i < xs.length := (List.getElem?_eq_some_iff.1 g).1
          have h2 : j < y.length := (List.getElem?_eq_some_iff.1 hz).1
          rw [hrowx y (List.mem_of_getElem? g)] at h2
          have := mul_lt_of h1 h2
          omega
        have := Rep.slN (w := w) (M := Mut X ρ' H.length) (ρ := ρ') H.length sz ((xs.drop off).take len) b (o + off * sz) cap (fun i j => c.getD (o + (off + i) * sz + j) undef) (hmut b o hb) (h.lt r b o hrl hb).1 (by omega)
          (fun y hy => hrowx y (List.mem_of_mem_drop (List.mem_of_mem_take hy)))
          (fun i j y z hy hz => by
            obtain ⟨g, hlt⟩ := hat i j y z hy hz
            refine ⟨?_, (hrep _ _ _ _ _ g hz (get_some hlt)).2⟩
            rw [cell_of_blk hh, show o + off * sz + i * sz + j = o + (off + i) * sz + j by rw [Nat.add_mul]; omega]
            exact get_some hlt)
          (fun i j y z hy hz => by
            obtain ⟨g, hlt⟩ := hat i j y z hy hz
            exact (hrep _ _ _ _ _ g hz (get_some hlt)).1.next g2 (Nat.zero_le _))
        rw [hl'] at this
        rw [hsz']
        exact this
  | om r ver =>
    simp only [rFrz] at hok ⊢
    cases ho : H[r]? with
    | none => rw [ho] at hok; exact hok.elim
    | some obj =>
      rw [ho] at hok
      cases obj <;> first | exact hok.elim | skip
      rename_i ver' ks vs
      have hv : ver = ver' := hok
      subst hv
      obtain ⟨h1, b, es, clock, hblk, hh, hks, hvs, hr⟩ := h.objs r _ ho
      cases hx with
      | om _ _ _ _ hrl hle hone hpt =>
        obtain ⟨b', o', hb', rfl⟩ := hpt h1.symm
        rw [hblk] at hb'
        simp only [Option.some.injEq, Prod.mk.injEq] at hb'
        obtain ⟨rfl, _⟩ := hb'
        obtain ⟨ρ', hmut, g1, g2⟩ := dead r hrl
        simp only [hlen]
        refine ⟨ρ', g1, ?_, g2⟩
        exact .mp _ _ _ _ es clock (hmut b 0 hblk) (h.lt r b 0 hrl hblk).1 hh hks hvs fun i x e hx he => (hr i x e hx he).next g2 (Nat.zero_le _)
  | ptr r ver off =>
    simp only [rFrz] at hok ⊢
    cases ho : H[r]? with
    | none => rw [ho] at hok; exact hok.elim
    | some obj =>
      rw [ho] at hok
      cases obj <;> first | exact hok.elim | skip
      rename_i cs
      obtain ⟨hv, hcl⟩ := hok
      obtain ⟨hrl, b, c, e, fr, hblk, rfl, hh, hl, hfr, hver, hrep⟩ := ptr_box h hx ho hv
      obtain ⟨ρ', hmut, g1, g2⟩ := dead r hrl
      simp only [hlen]
      refine ⟨ρ', g1, ?_, g2⟩
      have := Rep.vp (w := w) (M := Mut X ρ' H.length) (ρ := ρ') H.length cs off b 0 (fun j => c.getD j undef) (hmut b 0 hblk) (h.lt r b 0 hrl hblk).1
        (fun j y hy => by
          have hlt : j < c.size := by have := (List.getElem?_eq_some_iff.1 hy).1; omega
          refine ⟨?_, (hrep j y _ hy (get_some hlt)).2⟩
          rw [cell_of_blk hh, Nat.zero_add]
          exact get_some hlt)
        (fun j y hy => by
          have hlt : j < c.size := by have := (List.getElem?_eq_some_iff.1 hy).1; omega
          exact ((hrep j y _ hy (get_some hlt)).1.of_cl (clL_all hcl hy)).next g2 (Nat.zero_le _))
      rw [Nat.zero_add] at this
      exact this
  | _ => exact hok.elim

theorem snd_frzN {sz : Nat} {x : AV} {u : Value} (h : HRel w X ρ H) (hx : Rp w X ρ H x u) (hok : (rFrzN sz x H).ok) :
    ∃ ρ', HRel w X ρ' (rFrzN sz x H).H ∧ Rep w (Mut X ρ' (rFrzN sz x H).H.length) ρ' (rFrzN sz x H).H.length (rFrzN sz x H).x u ∧ Fut w ρ H.length w ρ' (rFrzN sz x H).H.length := by
  cases x with
  | sl sz xs => exact ⟨ρ, h, hx, Fut.refl _ _ _⟩
  | v x =>
    have := rep_v hx; subst this
    cases u with
    | slice a n c =>
      cases a <;> cases n <;> cases c <;> first | exact hok.elim | exact ⟨ρ, h, .slE _ _ _ _, Fut.refl _ _ _⟩
    | _ => exact hok.elim
  | os r ver off len => exact snd_frz h hx hok
  | _ => exact hok.elim
theorem snd_frzf {sz off : Nat} {x : AV} {u : Value} (h : HRel w X ρ H) (hx : Rp w X ρ H x u) (hok : (rFrzf sz off x H).ok) :
    ∃ ρ', HRel w X ρ' (rFrzf sz off x H).H ∧ Rep w (Mut X ρ' (rFrzf sz off x H).H.length) ρ' (rFrzf sz off x H).H.length (rFrzf sz off x H).x u ∧ Fut w ρ H.length w ρ' (rFrzf sz off x H).H.length := by
  cases x with
  | agg cs =>
    simp only [rFrzf] at hok ⊢
    cases hy : cs[off]? with
    | none => rw [hy] at hok; exact hok.elim
    | some y =>
      rw [hy] at hok
      simp only [rFrzfO, rFrzO] at hok ⊢
      cases hx with
      | agg _ _ us hl hr =>
        have hlt : off < us.size := by have := (List.getElem?_eq_some_iff.1 hy).1; omega
        obtain ⟨ρ', g1, g2, g3⟩ := snd_frzN h (hr off y _ hy (Array.getElem?_eq_getElem hlt)) hok
        refine ⟨ρ', g1, .agg _ _ _ (by simpa using hl) fun i z v hz hv => ?_, g3⟩
        rw [List.getElem?_set] at hz
        split at hz
        · rename_i hi
          subst hi
          split at hz
          · cases hz
            rw [Array.getElem?_eq_getElem hlt] at hv
            cases hv
            exact g2
          · cases hz
        · exact (hr i z v hz hv).nextN g3
  | _ => exact hok.elim

theorem snd_own {sz : Nat} {x : AV} {u : Value} (h : HRel w X ρ H) (hx : Rp w X ρ H x u) (hok : (rOwn sz x H).ok) :
    ∃ ρ', HRel w X ρ' (rOwn sz x H).H ∧ Rep w (Mut X ρ' (rOwn sz x H).H.length) ρ' (rOwn sz x H).H.length (rOwn sz x H).x u ∧ Fut w ρ H.length w ρ' (rOwn sz x H).H.length := by
  cases x with
  | v x =>
    have := rep_v hx; subst this
    cases u with
    | slice a n c =>
      cases a <;> cases n <;> cases c <;> first | exact hok.elim | exact none_own h hok none
    | _ => exact hok.elim
  | _ => exact hok.elim

theorem rowBytes_cells : ∀ (ys : List (List AV)) (l : List UInt8) (cs : List Value), rowBytes ys = some l → cs.length = ys.length → (∀ (i j : Nat) (y : List AV) (z : AV) (v : Value), ys[i]? = some y → y[j]? = some z → cs[i + j]? = some v → Rep w (Mut X ρ H.length) ρ 0 z v) →
    ∃ ns : List Int, cs = ns.map (Value.int .u8) ∧ l = ns.map fun n => UInt8.ofNat n.toNat
  | [], l, cs, h, hl, _ => by
    simp [rowBytes] at h
    subst h
    have : cs = [] := List.eq_nil_of_length_eq_zero (by simpa using hl)
    subst this
    exact ⟨[], rfl, rfl⟩
  | y :: ys, l, cs, h, hl, hr => by
    cases cs with
    | nil => simp at hl
    | cons c cs =>
      unfold rowBytes at h
      split at h
      · rename_i heq; cases heq
      · rename_i n ys' heq
        injection heq with e1 e2
        subst e1 e2
        cases hb : rowBytes ys with
        | none => simp [hb] at h
        | some m =>
          simp [hb] at h
          subst h
          obtain ⟨ns, h1, h2⟩ := rowBytes_cells ys m cs hb (by simpa using hl) (fun i j y z v hy hz hv => hr (i + 1) j y z v (by simpa using hy) hz (by rw [show i + 1 + j = (i + j) + 1 by omega]; simpa using hv))
          have hc := hr 0 0 [.v (.int .u8 n)] (.v (.int .u8 n)) c rfl rfl rfl
          have := rep_vx hc
          subst this
          exact ⟨n :: ns, by rw [h1]; rfl, by rw [h2]; rfl⟩
      · cases h

theorem foldl_push : ∀ (ns : List Int) (r : ByteArray), ns.foldl (fun r n => r.push (UInt8.ofNat n.toNat)) r = mkS (bs r ++ ns.map fun n => UInt8.ofNat n.toNat)
  | [], r => by
    apply ByteArray.ext
    simp [mkS, bs]
  | n :: ns, r => by
    rw [List.foldl_cons, foldl_push ns]
    simp [mkS, bs, ByteArray.push]

theorem snd_conv {src dst : TypeId} {c : Cv} {x : AV} {u : Value}
    (ht : match c with
      | .toInt k => (∃ d, P.underlying src = some d) ∧ P.underlying dst = some (.int k)
      | .same => P.underlying src = some .string ∧ P.underlying dst = some .string
      | .runeStr => (∃ k, P.underlying src = some (.int k)) ∧ P.underlying dst = some .string
      | .strBytes => P.underlying src = some .string ∧ ∃ e, P.underlying dst = some (.slice e) ∧ P.underlying e = some (.int .u8)
      | .bytesStr => (∃ e, P.underlying src = some (.slice e) ∧ P.underlying e = some (.int .u8)) ∧ P.underlying dst = some .string
      | .sameB => ∃ e, P.underlying src = some (.slice e) ∧ P.underlying e = some (.int .u8) ∧ src = dst)
    (h : HRel w X ρ H) (hx : Rp w X ρ H x u) : Gives P (convert src dst u) w X ρ H (rConv c x H) := by
  cases c with
  | toInt k =>
    obtain ⟨⟨d, h1⟩, h2⟩ := ht
    cases x with
    | v x =>
      have := rep_v hx; subst this
      cases u <;> first | exact gives_no | skip
      refine gives_v h fun _ => ?_
      simp [convert, run_underlying h1, run_underlying h2, Conv.intToInt]
    | _ => exact gives_no
  | same =>
    cases x with
    | v x =>
      have := rep_v hx; subst this
      cases u <;> first | exact gives_no | skip
      refine gives_v h fun _ => ?_
      simp [convert, run_underlying ht.1, run_underlying ht.2]
    | _ => exact gives_no
  | runeStr =>
    obtain ⟨⟨k, h1⟩, h2⟩ := ht
    cases x with
    | v x =>
      have := rep_v hx; subst this
      cases u <;> first | exact gives_no | skip
      refine gives_v h fun _ => ?_
      simp [convert, run_underlying h1, run_underlying h2, Conv.intToString]
    | _ => exact gives_no
  | strBytes =>
    obtain ⟨h1, e, h2, h3⟩ := ht
    cases x with
    | v x =>
      have := rep_v hx; subst this
      cases u <;> first | exact gives_no | skip
      rename_i s
      intro hlen
      have hrun := run_bytes_of_string w src dst e s h1 h2 h3
      have hge : s.size ≤ grownCap w s.size 0 e := grownCap_ge _ _ _ _
      have hC : bytesRow s (grownCap w s.size 0 e) = (s.data.map fun b => Value.int .u8 b.toNat) ++ Array.replicate (grownCap w s.size 0 e - s.size) (.int .u8 0) := rfl
      have hrows : Rows w (Mut X ρ H.length) ρ (bytesRow s (grownCap w s.size 0 e)) 0 1 ((bs s).map byteRow) := by
        refine ⟨?_, fun x hx => ?_, fun i j x y v hx hy hv => ?_⟩
        · rw [hC]; simp [bs]
        · simp only [List.mem_map] at hx; obtain ⟨b, _, rfl⟩ := hx; rfl
        · simp only [List.getElem?_map] at hx
          cases hb : (bs s)[i]? with
          | none => simp [hb] at hx
          | some b =>
            simp [hb] at hx
            subst hx
            cases j with
            | succ j => simp [byteRow] at hy
            | zero =>
              simp [byteRow] at hy
              subst hy
              have hi : i < (bs s).length := (List.getElem?_eq_some_iff.1 hb).1
              have hi' : i < s.data.size := by simpa [bs] using hi
              rw [hC, Array.getElem?_append_left (by simp; exact hi')] at hv
              have hb' : s.data[i]? = some b := by simpa [bs] using hb
              simp [hb'] at hv
              subst hv
              exact ⟨.v _ _, rfl⟩
      obtain ⟨g1, g2, g3⟩ := new_imm (w1 := w.drew.alloc (.cells (bytesRow s (grownCap w s.size 0 e)) e ((bytesRow s (grownCap w s.size 0 e)).size, (bytesRow s (grownCap w s.size 0 e)).size + 1))) h ((Same.drew w).trans (Same.alloc _ _)) (heap_old w.drew _) (Nat.le_refl _) (by simp) (heap_new w.drew _) hrows (cap := grownCap w s.size 0 e) (by simp [len_bs]; exact hge)
      have hl : ((bs s).map byteRow).length = s.size := by simp [len_bs]
      rw [hl] at g2
      exact ⟨_, _, ρ, hrun, g1, g2, g3⟩
    | _ => exact gives_no
  | bytesStr =>
    obtain ⟨⟨e, h1, h2⟩, h3⟩ := ht
    have main : ∀ (a : Option Addr) (len cap : Nat), u = .slice a len cap → szOk H 1 x ∧ ((rowsOf H x).bind rowBytes).isSome = true → ∃ v, (convert src dst u).run P w = .ok v w ∧ Rp w X ρ H (str (((rowsOf H x).bind rowBytes).getD [])) v := by
      intro a len cap hu ⟨hs, hb⟩
      cases hr : rowsOf H x with
      | none => simp [hr] at hb
      | some ys =>
        cases hl : rowBytes ys with
        | none => simp [hr, hl] at hb
        | some l =>
          obtain ⟨hlen, hsrc⟩ := rows_src (P := P) h hx hr hs (by omega)
          obtain ⟨cs, hcl, hf, _, _, hrep⟩ := hsrc ys.length (Nat.le_refl _)
          obtain ⟨ns, hns, hl2⟩ := rowBytes_cells ys l cs hl (by simpa using hcl) (fun i j y z v hy hz hv => hrep i j y z v (List.getElem?_eq_some_iff.1 hy).1 hy hz (by simpa using hv))
          subst hu
          have hlen' : len = ys.length := by
            simp [Builtin.lenOf] at hlen
            exact hlen
          refine ⟨.string (mkS l), ?_, by simp [hl]; exact .v _ _⟩
          rw [run_convert_bytes_string w src dst e a len cap h1 h2 h3]
          cases a with
          | none =>
            have h0 := hf w fun _ => rfl
            simp [Builtin.firstCells] at h0
            subst h0
            have : ns = [] := by cases ns <;> simp at hns ⊢
            subst this
            simp at hl2
            subst hl2
            rfl
          | some a =>
            have h0 := hf w fun _ => rfl
            simp only [Builtin.firstCells, Nat.mul_one] at h0
            rw [run_bytesToString w a len cap ns (by rw [hlen', h0, hns]), foldl_push, hl2]
            rfl
    cases x with
    | v x =>
      have := rep_v hx; subst this
      cases u <;> first | exact gives_no | skip
      case slice a n c =>
        exact gives_pure h fun hp => main a n c rfl hp
      all_goals exact gives_pure h fun hp => by have := hp.1; simp [szOk] at this
    | sl sz xs =>
      cases hx with
      | slE _ _ a cap => exact gives_pure h fun hp => main _ _ _ rfl hp
      | slN _ _ _ b o cap c => exact gives_pure h fun hp => main _ _ _ rfl hp
    | os r ver off len =>
      refine gives_pure h fun hp => ?_
      have hb := hp.2
      cases ho : H[r]? with
      | none => simp [rowsOf, osRows, ho] at hb
      | some obj =>
        cases obj <;> simp [rowsOf, osRows, ho] at hb
        rename_i ver' sz' xs
        by_cases hv : ver = ver'
        · obtain ⟨_, _, _, _, _, _, ⟨a, cap, hu, _⟩, _⟩ := os_arr h hx ho hv
          exact main a len cap hu hp
        · simp [hv] at hb
    | nc =>
      cases hx
      exact gives_pure h fun hp => main _ _ _ rfl hp
    | _ => exact gives_pure h fun hp => by have := hp.1; simp [szOk] at this
  | sameB =>
    obtain ⟨e, h1, h2, h3⟩ := ht
    subst h3
    cases x with
    | os r ver off len =>
      refine fun ⟨hl, hba, hv⟩ => ?_
      obtain ⟨ver', sz, xs, ho⟩ := isArr_some hba
      rw [ho] at hv
      simp only [isVer] at hv
      obtain ⟨hrl, hver, hsz', hsz, hrowx, hext, ⟨a, cap, rfl, hlc, hcap⟩, hblk⟩ := os_arr h hx ho hv
      rcases hcap with hc0 | ⟨b, o, hb, rfl, he⟩
      · omega
      · obtain ⟨c, el, fr, hh, hsize, hfr, hrep⟩ := hblk b o hb
        have hblt : b < w.heap.size := (h.lt r b o hrl hb).1
        have hshape : w.shape? b = some (el, c.size) := by simp [World.shape?, hh]
        have hrun : (convert src src (.slice (some ⟨b, o + off * (ρ r).sz, none⟩) len cap)).run P w = .ok (.slice (some ⟨b, o + off * (ρ r).sz, none⟩) len cap) (w.freeze ⟨b, c.size, none⟩ 1) := by
          simp [convert, run_underlying h1, run_underlying h2, markStringish, hshape]
        have hfz : (w.freeze ⟨b, c.size, none⟩ 1).heap[b]? = some (.cells c el (if fr.1 == fr.2 then (c.size, c.size + 1) else (min fr.1 c.size, max fr.2 (c.size + 1)))) := by
          simp [World.freeze, Array.getElem?_modify, hh]
        have hfo : ∀ b', b' ≠ b → (w.freeze ⟨b, c.size, none⟩ 1).heap[b']? = w.heap[b']? := by
          intro b' hb'
          simp [World.freeze, Array.getElem?_modify, Ne.symm hb']
        obtain ⟨ρ', hρ, g1, g2⟩ := h.setAt (w' := w.freeze ⟨b, c.size, none⟩ 1) hrl (ρ r) (.arr ver' sz xs) ⟨rfl, rfl, rfl, by simp [World.freeze]⟩ (.inl rfl) (fun b o hb => .inl ⟨o, hb⟩)
          (fun b' _ hne => hfo b' fun e => hne o (by rw [e]; exact hb)) (fun ρ' _ hf' => by
            refine ⟨by omega, hsz', hsz, hrowx, hext, ?_⟩
            rw [hb]
            refine ⟨c, el, _, hfz, hsize, ?_, fun i j x y u hx hy hu => ⟨(hrep i j x y u hx hy hu).1.next hf' (Nat.zero_le _), (hrep i j x y u hx hy hu).2⟩⟩
            rcases hfr with hfr | hfr
            · simp [hfr, noFr]
            · split
              · right; simp
              · right; simp; omega)
        have hset : H.set r (.arr ver' sz xs) = H := by
          apply List.ext_getElem?
          intro i
          by_cases hi : i = r
          · subst hi; rw [List.getElem?_set_self hrl, ho]
          · rw [List.getElem?_set_ne (fun e => hi e.symm)]
        rw [hset] at g1 g2
        exact ⟨_, _, ρ', hrun, g1, Rep.nextN g2 hx, g2⟩
    | v x => cases x <;> exact gives_no
    | _ => exact gives_no
end
end Go.Ax

/- Every operation of the model's code does what is said of its lowered form. -/
namespace Go.Ax
open Go Go.RowKit

section
variable {P : Program} {w : World} {X : Nat → Prop} {ρ : Nat → Loc} {H : AHeap} {e : Env} {a : Act} {n : Nat}

abbrev ER (w : World) (X : Nat → Prop) (ρ : Nat → Loc) (H : AHeap) (n : Nat) (e : Env) (a : Act) : Prop := ERep w (Mut X ρ H.length) ρ H.length n e a

/-- The operation comes to the result. -/
def OpOK (P : Program) (o : Oper) (a : Act) (w : World) (X : Nat → Prop) (ρ : Nat → Loc) (H : AHeap) (r : Res) : Prop :=
  r.ok → ∃ u w' ρ', ((execOp a.eval o).run P w = .ok (.value u) w' ∨ ((execOp a.eval o).run P w = .ok .skip w' ∧ u = undef)) ∧ HRel w' X ρ' r.H ∧ Rep w' (Mut X ρ' r.H.length) ρ' r.H.length r.x u ∧ Fut w ρ H.length w' ρ' r.H.length

theorem opOK_v {o : Oper} {s : Sem Value} {r : Res} (h : Gives P s w X ρ H r) (he : execOp a.eval o = (do pure (.value (← s)))) : OpOK P o a w X ρ H r := by
  intro hok
  obtain ⟨u, w', ρ', h1, h2, h3, h4⟩ := h hok
  exact ⟨u, w', ρ', .inl (by rw [he]; simp [h1]), h2, h3, h4⟩
theorem opOK_u {o : Oper} {s : Sem Unit} {r : Res} (h : GivesU P s w X ρ H r) (he : execOp a.eval o = (do s; pure .skip)) : OpOK P o a w X ρ H r := by
  intro hok
  obtain ⟨hx, w', ρ', h1, h2, h3⟩ := h hok
  exact ⟨undef, w', ρ', .inr ⟨by rw [he]; simp [h1], rfl⟩, h2, by rw [hx]; exact .any _ _, h3⟩
theorem opOK_no {o : Oper} : OpOK P o a w X ρ H (.no H) := fun h => h.elim

theorem lxs_rep {M : Nat → Prop} {k : Nat} (he : ERep w M ρ k n e a) : ∀ (l : List Operand) (m : List LX), lxs n l = some m → m.length = l.length ∧ ∀ (i : Nat) (x : AV) (u : Value), (m.map (ev e))[i]? = some x → (l.map a.eval)[i]? = some u → Rep w M ρ k x u
  | [], m, h => by simp [lxs] at h; subst h; exact ⟨rfl, fun i x u hx => by simp at hx⟩
  | o :: l, m, h => by
    unfold lxs at h
    cases ho : lx n o with
    | none => simp [ho] at h
    | some y =>
      cases hm : lxs n l with
      | none => simp [ho, hm] at h
      | some m' =>
        simp [ho, hm] at h
        subst h
        obtain ⟨h1, h2⟩ := lxs_rep he l m' hm
        refine ⟨by simp [h1], fun i x u hx hu => ?_⟩
        cases i with
        | zero => simp at hx hu; subst hx hu; exact ev_rep he ho
        | succ i => exact h2 i x u (by simpa using hx) (by simpa using hu)

theorem lowPs_rep (he : ER w X ρ H n e a) {place : Nat → Option (Nat × Nat)} : ∀ (l : List (Nat × Operand)) (m : List (Nat × Nat × LX)), lowPs n place l = some m → RpPs w X ρ H place (l.map fun (i, x) => (i, a.eval x)) (m.map fun (o, k, x) => (o, k, ev e x))
  | [], m, h => by simp [lowPs] at h; subst h; trivial
  | (i, o) :: l, m, h => by
    unfold lowPs at h
    cases hp : place i with
    | none => simp [hp] at h
    | some pl =>
      obtain ⟨off, sz⟩ := pl
      cases ho : lx n o with
      | none => simp [hp, ho] at h
      | some y =>
        cases hm : lowPs n place l with
        | none => simp [hp, ho, hm] at h
        | some m' =>
          simp [hp, ho, hm] at h
          subst h
          exact ⟨hp, ev_rep he ho, lowPs_rep he l m' hm⟩

theorem lowSs_rep (he : ER w X ρ H n e a) : ∀ (l : List (Nat × Operand)) (m : List (Nat × LX)), lowSs n l = some m → RpSs w X ρ H (l.map fun (i, x) => (i, a.eval x)) (m.map fun (i, x) => (i, ev e x))
  | [], m, h => by simp [lowSs] at h; subst h; trivial
  | (i, o) :: l, m, h => by
    unfold lowSs at h
    cases ho : lx n o with
    | none => simp [ho] at h
    | some y =>
      cases hm : lowSs n l with
      | none => simp [ho, hm] at h
      | some m' =>
        simp [ho, hm] at h
        subst h
        exact ⟨rfl, ev_rep he ho, lowSs_rep he l m' hm⟩

theorem snd_nilchk {x : AV} {u : Value} {o : Oper} {ox : Operand} (ho : o.op = .nilCheck ox) (hu : a.eval ox = u) (h : HRel w X ρ H) (hx : Rp w X ρ H x u) : OpOK P o a w X ρ H (rNil x H) := by
  have key : ∀ v : Value, (∃ p, v = .pointer (some p)) ∨ (∃ r, v = .map r) ∨ (∃ f fs us, v = .func (.func f) fs us) → u = v → (execOp a.eval o).run P w = .ok (.value v) w := by
    intro v hv huv
    unfold execOp
    rw [ho]
    simp only [hu, huv]
    rcases hv with ⟨p, rfl⟩ | ⟨r, rfl⟩ | ⟨f, fs, us, rfl⟩ <;> rfl
  cases x with
  | vp cs off =>
    intro _
    cases hx with
    | vp _ _ _ b o' c hm hb hcell hrep => exact ⟨_, w, ρ, .inl (key _ (.inl ⟨_, rfl⟩) rfl), h, .vp _ _ _ _ _ c hm hb hcell hrep, Fut.refl _ _ _⟩
  | mp ks vs =>
    intro _
    cases hx with
    | mp _ _ _ b es clock hm hb hh hks hvs hr => exact ⟨_, w, ρ, .inl (key _ (.inr (.inl ⟨_, rfl⟩)) rfl), h, .mp _ _ _ _ es clock hm hb hh hks hvs hr, Fut.refl _ _ _⟩
  | fn f fs us =>
    cases f <;> first | exact opOK_no | skip
    intro _
    have hx' := hx
    cases hx with
    | fn => exact ⟨_, w, ρ, .inl (key _ (.inr (.inr ⟨_, _, _, rfl⟩)) rfl), h, hx', Fut.refl _ _ _⟩
  | ptr r ver off =>
    intro hv
    have hx' := hx
    cases hx with
    | ptr _ _ _ _ _ hr hle hone hp =>
      have hver : ver = (ρ r).ver := by
        have hv : isVer ver H[r]? := hv
        cases ho' : H[r]? with
        | none => rw [ho'] at hv; exact hv.elim
        | some obj =>
          rw [ho'] at hv
          have hob := h.objs r _ ho'
          cases obj <;> simp only [isVer] at hv <;> first | exact hv.elim | skip
          · rw [hob.1]; exact hv
          · rw [hob.1]; exact hv
          · rw [hob.1]; exact hv
      obtain ⟨b, o', _, rfl⟩ := hp hver
      exact ⟨_, w, ρ, .inl (key _ (.inl ⟨_, rfl⟩) rfl), h, hx', Fut.refl _ _ _⟩
  | pe r ver i off =>
    intro hv
    have hx' := hx
    cases hx with
    | pe _ _ _ _ _ _ hr hle hone hp =>
      have hver : ver = (ρ r).ver := by
        have hv : isVer ver H[r]? := hv
        cases ho' : H[r]? with
        | none => rw [ho'] at hv; exact hv.elim
        | some obj =>
          rw [ho'] at hv
          have hob := h.objs r _ ho'
          cases obj <;> simp only [isVer] at hv <;> first | exact hv.elim | skip
          · rw [hob.1]; exact hv
          · rw [hob.1]; exact hv
          · rw [hob.1]; exact hv
      obtain ⟨b, o', _, rfl⟩ := hp hver
      exact ⟨_, w, ρ, .inl (key _ (.inl ⟨_, rfl⟩) rfl), h, hx', Fut.refl _ _ _⟩
  | _ => exact opOK_no

/-- The operations that are neither calls nor choices nor the prover's own. -/
def plain : LOp → Bool
  | .call _ _ => false
  | .pick _ _ _ => false
  | .isnil _ _ => false
  | .frz _ => false
  | .own _ _ => false
  | .frzf _ _ _ => false
  | _ => true

theorem opt_map {α β : Type} {x : Option α} {f : α → β} {y : β} (h : x.map f = some y) : ∃ a, x = some a ∧ f a = y := by
  cases x with
  | none => cases h
  | some a => exact ⟨a, rfl, by simpa using h⟩

theorem lowCallB_plain {c : Call} {lo : LOp} (hl : lowCallB P n c = some lo) : plain lo = true := by
  unfold lowCallB at hl
  split at hl
  · split at hl
    · split at hl
      · split at hl
        · split at hl
          · cases hl; rfl
          · cases hl
        · cases hl
      · cases hl
    · cases hl
  · cases hl
theorem lowCallB_ok {c : Call} {lo : LOp} {o : Oper} (ho : o.op = .call c) (hl : lowCallB P n c = some lo) (h : HRel w X ρ H) (he : ER w X ρ H n e a) : OpOK P o a w X ρ H (ares lo e H) := by
  obtain ⟨callee, args, tys⟩ := c
  unfold lowCallB at hl
  cases callee with
  | value f => simp at hl
  | invoke r m => simp at hl
  | builtin b =>
    obtain ⟨bcs, hex⟩ : ∃ cs, execOp a.eval o = builtin b tys o.type cs (args.map a.eval) := by
      unfold execOp
      rw [ho]
      exact ⟨_, rfl⟩
    cases b <;> simp only at hl <;> first | (cases hl; done) | skip
    cases hm : lxs n args.toList with
    | none => simp [hm] at hl
    | some m =>
      obtain ⟨hlen, hrep⟩ := lxs_rep he _ _ hm
      match m, hlen, hl with
      | [], _, hl => simp [hm] at hl
      | [_], _, hl => simp [hm] at hl
      | _ :: _ :: _ :: _, _, hl => simp [hm] at hl
      | [s, x], hlen, hl =>
        obtain ⟨so, xo, hao⟩ : ∃ so xo, args.toList = [so, xo] := by
          match h1 : args.toList, hlen with
          | [so, xo], _ => exact ⟨so, xo, rfl⟩
        have hae : args.map a.eval = #[a.eval so, a.eval xo] := by apply Array.ext'; simp [hao]
        have hs : Rp w X ρ H (ev e s) (a.eval so) := hrep 0 _ _ rfl (by simp [hao])
        have hx : Rp w X ρ H (ev e x) (a.eval xo) := hrep 1 _ _ rfl (by simp [hao])
        match ht : tys.toList, hl with
        | [], hl => simp [hm] at hl
        | [_], hl => simp [hm] at hl
        | _ :: _ :: _ :: _, hl => simp [hm] at hl
        | [t, u], hl =>
          have hty : tys = #[t, u] := by apply Array.ext'; simpa using ht
          simp only [hm] at hl
          cases hu : P.underlying t with
          | none => simp [hu] at hl
          | some d =>
            cases d with
            | slice el =>
              cases hv : P.underlying u with
              | none => simp [hu, hv] at hl
              | some d2 =>
                cases d2 with
                | string =>
                  simp only [hu, hv] at hl
                  cases hi : P.info? el with
                  | none => simp [hi] at hl
                  | some i =>
                    simp only [hi] at hl
                    split at hl
                    · rename_i hc
                      obtain ⟨h1, h2, h3⟩ := hc
                      obtain ⟨z, hz1, hz2⟩ := opt_map h3
                      cases hl
                      exact opOK_v (s := Builtin.append_ #[t, u] o.type #[a.eval so, a.eval xo]) (snd_appendb hu ⟨_, hv, fun k hk => by cases hk⟩ hi hz1 hz2 h1 h2 h hs hx) (by rw [hex, hae, hty]; rfl)
                    · cases hl
                | _ => simp [hu, hv] at hl
            | _ => simp [hu] at hl

theorem lowCall_ok {c : Call} {lo : LOp} {o : Oper} (ho : o.op = .call c) (hl : lowCall P n c = some lo) (hp : plain lo = true) (h : HRel w X ρ H) (he : ER w X ρ H n e a) : OpOK P o a w X ρ H (ares lo e H) := by
  obtain ⟨callee, args, tys⟩ := c
  have hex : ∀ b : Builtin, callee = .builtin b → ∃ cs, execOp a.eval o = builtin b tys o.type cs (args.map a.eval) := by
    intro b hb
    subst hb
    unfold execOp
    rw [ho]
    exact ⟨_, rfl⟩
  unfold lowCall at hl
  cases callee with
  | value f =>
    simp only at hl
    cases hf : lx n f with
    | none => simp [hf] at hl
    | some g =>
      cases hm : lxs n args.toList with
      | none => simp [hf, hm] at hl
      | some m => simp [hf, hm] at hl; subst hl; simp [plain] at hp
  | invoke r m => simp at hl
  | builtin b =>
    obtain ⟨bcs, hex⟩ := hex b rfl
    cases b <;> simp only at hl <;> first | (cases hl; done) | skip
    case len =>
      cases hm : lxs n args.toList with
      | none => simp [hm] at hl
      | some m =>
        obtain ⟨hlen, hrep⟩ := lxs_rep he _ _ hm
        match m, hlen, hl with
        | [], _, hl => simp [hm] at hl
        | _ :: _ :: _, _, hl => simp [hm] at hl
        | [x], hlen, hl =>
          obtain ⟨ao, hao⟩ : ∃ ao, args.toList = [ao] := by
            match h1 : args.toList, hlen with
            | [ao], _ => exact ⟨ao, rfl⟩
          have hae : args.map a.eval = #[a.eval ao] := by apply Array.ext'; simp [hao]
          have hx : Rp w X ρ H (ev e x) (a.eval ao) := hrep 0 _ _ rfl (by simp [hao])
          match ht : tys.toList, hl with
          | [], hl => simp [hm] at hl
          | _ :: _ :: _, hl => simp [hm] at hl
          | [t], hl =>
            have hty : tys = #[t] := by apply Array.ext'; simpa using ht
            simp only [hm] at hl
            refine opOK_v (s := Builtin.len_ #[t] o.type #[a.eval ao]) ?_ (by rw [hex, hae, hty]; rfl)
            cases hu : P.underlying t with
            | none => simp [hu] at hl
            | some d =>
              simp only [hu] at hl
              cases d <;> simp at hl <;> subst hl <;> refine snd_len ⟨?_, ?_, ?_⟩ h hx <;> intro hk <;> first | (cases hk; done) | exact hu | exact ⟨_, hu⟩ | exact ⟨_, _, hu⟩
    case append =>
      cases hm : lxs n args.toList with
      | none => simp [hm] at hl
      | some m =>
        obtain ⟨hlen, hrep⟩ := lxs_rep he _ _ hm
        match m, hlen, hl with
        | [], _, hl => simp [hm] at hl
        | [_], _, hl => simp [hm] at hl
        | _ :: _ :: _ :: _, _, hl => simp [hm] at hl
        | [s, x], hlen, hl =>
          obtain ⟨so, xo, hao⟩ : ∃ so xo, args.toList = [so, xo] := by
            match h1 : args.toList, hlen with
            | [so, xo], _ => exact ⟨so, xo, rfl⟩
          have hae : args.map a.eval = #[a.eval so, a.eval xo] := by apply Array.ext'; simp [hao]
          have hs : Rp w X ρ H (ev e s) (a.eval so) := hrep 0 _ _ rfl (by simp [hao])
          have hx : Rp w X ρ H (ev e x) (a.eval xo) := hrep 1 _ _ rfl (by simp [hao])
          match ht : tys.toList, hl with
          | [], hl => simp [hm] at hl
          | [_], hl => simp [hm] at hl
          | _ :: _ :: _ :: _, hl => simp [hm] at hl
          | [t, u], hl =>
            have hty : tys = #[t, u] := by apply Array.ext'; simpa using ht
            simp only [hm] at hl
            cases hu : P.underlying t with
            | none => simp [hu] at hl
            | some d =>
              simp only [hu] at hl
              cases d <;> simp only at hl <;> first | (cases hl; done) | skip
              rename_i el
              cases hi : P.info? el with
              | none => simp [hi] at hl
              | some i =>
                cases hv : P.underlying u with
                | none => simp [hi, hv] at hl
                | some d2 =>
                  simp only [hi, hv] at hl
                  have fin : (i.zero.map (·.cells.size)) = some i.size → lo = .append i.size i.bytes s x → (∀ k, d2 ≠ .int k) → OpOK P o a w X ρ H (ares lo e H) := by
                    intro hz hlo hd2
                    obtain ⟨z, hz1, hz2⟩ := opt_map hz
                    subst hlo
                    exact opOK_v (s := Builtin.append_ #[t, u] o.type #[a.eval so, a.eval xo]) (snd_append hu ⟨d2, hv, hd2⟩ hi hz1 hz2 h hs hx) (by rw [hex, hae, hty]; rfl)
                  cases d2 <;> simp only at hl <;> first | (cases hl; done) | skip
                  case slice =>
                    split at hl
                    · rename_i hc; exact fin hc.2 (by simpa using hl.symm) (fun k hk => by cases hk)
                    · cases hl
                  case string =>
                    split at hl
                    · rename_i hc; exact fin (by rw [hc.2, hc.1]) (by simpa using hl.symm) (fun k hk => by cases hk)
                    · cases hl
    case copy =>
      cases hm : lxs n args.toList with
      | none => simp [hm] at hl
      | some m =>
        obtain ⟨hlen, hrep⟩ := lxs_rep he _ _ hm
        match m, hlen, hl with
        | [], _, hl => simp [hm] at hl
        | [_], _, hl => simp [hm] at hl
        | _ :: _ :: _ :: _, _, hl => simp [hm] at hl
        | [s, x], hlen, hl =>
          obtain ⟨so, xo, hao⟩ : ∃ so xo, args.toList = [so, xo] := by
            match h1 : args.toList, hlen with
            | [so, xo], _ => exact ⟨so, xo, rfl⟩
          have hae : args.map a.eval = #[a.eval so, a.eval xo] := by apply Array.ext'; simp [hao]
          have hs : Rp w X ρ H (ev e s) (a.eval so) := hrep 0 _ _ rfl (by simp [hao])
          have hx : Rp w X ρ H (ev e x) (a.eval xo) := hrep 1 _ _ rfl (by simp [hao])
          match ht : tys.toList, hl with
          | [], hl => simp [hm] at hl
          | [_], hl => simp [hm] at hl
          | _ :: _ :: _ :: _, hl => simp [hm] at hl
          | [t, u], hl =>
            have hty : tys = #[t, u] := by apply Array.ext'; simpa using ht
            simp only [hm] at hl
            cases hu : P.underlying t with
            | none => simp [hu] at hl
            | some d =>
              simp only [hu] at hl
              cases d <;> simp only at hl <;> first | (cases hl; done) | skip
              rename_i el
              cases hn : tySz P el with
              | none => simp [hn] at hl
              | some sz =>
                simp only [hn, Option.bind_some] at hl
                split at hl
                · rename_i hc
                  simp only [Option.some.injEq] at hl
                  subst hl
                  exact opOK_v (s := Builtin.copy_ #[t, u] o.type #[a.eval so, a.eval xo]) (snd_copy hu hn hc h hs hx) (by rw [hex, hae, hty]; rfl)
                · cases hl
    case min =>
      cases hm : lxs n args.toList with
      | none => simp [hm] at hl
      | some m =>
        obtain ⟨hlen, hrep⟩ := lxs_rep he _ _ hm
        match m, hlen, hl with
        | [], _, hl => simp [hm] at hl
        | [_], _, hl => simp [hm] at hl
        | _ :: _ :: _ :: _, _, hl => simp [hm] at hl
        | [s, x], hlen, hl =>
          obtain ⟨so, xo, hao⟩ : ∃ so xo, args.toList = [so, xo] := by
            match h1 : args.toList, hlen with
            | [so, xo], _ => exact ⟨so, xo, rfl⟩
          have hae : args.map a.eval = #[a.eval so, a.eval xo] := by apply Array.ext'; simp [hao]
          have hs : Rp w X ρ H (ev e s) (a.eval so) := hrep 0 _ _ rfl (by simp [hao])
          have hx : Rp w X ρ H (ev e x) (a.eval xo) := hrep 1 _ _ rfl (by simp [hao])
          simp only [hm, Option.some.injEq] at hl
          subst hl
          exact opOK_v (s := Builtin.min_ tys o.type #[a.eval so, a.eval xo]) (snd_min h hs hx) (by rw [hex, hae]; rfl)
    case max =>
      cases hm : lxs n args.toList with
      | none => simp [hm] at hl
      | some m =>
        obtain ⟨hlen, hrep⟩ := lxs_rep he _ _ hm
        match m, hlen, hl with
        | [], _, hl => simp [hm] at hl
        | [_], _, hl => simp [hm] at hl
        | _ :: _ :: _ :: _, _, hl => simp [hm] at hl
        | [s, x], hlen, hl =>
          obtain ⟨so, xo, hao⟩ : ∃ so xo, args.toList = [so, xo] := by
            match h1 : args.toList, hlen with
            | [so, xo], _ => exact ⟨so, xo, rfl⟩
          have hae : args.map a.eval = #[a.eval so, a.eval xo] := by apply Array.ext'; simp [hao]
          have hs : Rp w X ρ H (ev e s) (a.eval so) := hrep 0 _ _ rfl (by simp [hao])
          have hx : Rp w X ρ H (ev e x) (a.eval xo) := hrep 1 _ _ rfl (by simp [hao])
          simp only [hm, Option.some.injEq] at hl
          subst hl
          exact opOK_v (s := Builtin.max_ tys o.type #[a.eval so, a.eval xo]) (snd_max h hs hx) (by rw [hex, hae]; rfl)
end
end Go.Ax

/- Every operation of the model's code does what is said of its lowered form: all of them; calls. -/
namespace Go.Ax
open Go Go.RowKit

section
variable {P : Program} {w : World} {X : Nat → Prop} {ρ : Nat → Loc} {H : AHeap} {e : Env} {a : Act} {n : Nat}

theorem lxo_rep (he : ER w X ρ H n e a) {o : Option Operand} {x : Option LX} (h : lxo n o = some x) : RpO w X ρ H (x.map (ev e)) (o.map a.eval) := by
  cases o with
  | none => simp [lxo] at h; subst h; trivial
  | some o =>
    obtain ⟨y, h1, h2⟩ := opt_map h
    subst h2
    exact ev_rep he h1

theorem lowConv_ok {src dst : TypeId} {x : Operand} {lo : LOp} {o : Oper} (ho : o.op = .convert src dst x) (hl : lowConv P n src dst x = some lo) (h : HRel w X ρ H) (he : ER w X ρ H n e a) : OpOK P o a w X ρ H (ares lo e H) := by
  have hex : execOp a.eval o = (do pure (.value (← convert src dst (a.eval x)))) := by unfold execOp; rw [ho]
  unfold lowConv at hl
  cases hs : P.underlying src with
  | none => simp [hs] at hl
  | some sd =>
    cases hd : P.underlying dst with
    | none => cases sd <;> simp [hs, hd] at hl
    | some dd =>
      cases hx : lx n x with
      | none => cases sd <;> cases dd <;> simp [hs, hd, hx] at hl
      | some y =>
        have hr := ev_rep he hx
        cases sd <;> cases dd <;> simp [hs, hd, hx] at hl
        case int.int => subst hl; exact opOK_v (snd_conv ⟨⟨_, hs⟩, hd⟩ h hr) hex
        case int.string => subst hl; exact opOK_v (snd_conv ⟨⟨_, hs⟩, hd⟩ h hr) hex
        case string.string => subst hl; exact opOK_v (snd_conv ⟨hs, hd⟩ h hr) hex
        case string.slice el =>
          cases hu : P.underlying el with
          | none => simp [hu] at hl
          | some ud =>
            cases ud <;> simp [hu] at hl
            rename_i k
            cases k <;> simp at hl
            subst hl
            exact opOK_v (snd_conv ⟨hs, el, hd, hu⟩ h hr) hex
        case slice.string el =>
          cases hu : P.underlying el with
          | none => simp [hu] at hl
          | some ud =>
            cases ud <;> simp [hu] at hl
            rename_i k
            cases k <;> first | (simp at hl; done) | skip
            cases hz : tySz P el with
            | none => simp [hz] at hl
            | some z =>
              match z, hl with
              | 1, hl =>
                simp [hz] at hl
                subst hl
                exact opOK_v (snd_conv ⟨⟨el, hs, hu⟩, hd⟩ h hr) hex
              | 0, hl => simp [hz] at hl
              | _ + 2, hl => simp [hz] at hl
        case slice.slice el el2 =>
          cases hu : P.underlying el with
          | none => simp [hu] at hl
          | some ud =>
            cases ud <;> simp [hu] at hl
            rename_i k
            cases k <;> simp at hl
            obtain ⟨h1, hl⟩ := hl
            subst hl
            exact opOK_v (snd_conv ⟨el, hs, hu, h1⟩ h hr) hex

theorem lowOp0_ok {imm : Bool} {o : Oper} {lo : LOp} (hl : lowOp0 P n imm o = some lo) (hp : plain lo = true) (h : HRel w X ρ H) (he : ER w X ρ H n e a) : OpOK P o a w X ρ H (ares lo e H) := by
  unfold lowOp0 at hl
  cases ho : o.op <;> rw [ho] at hl <;> simp only at hl <;> first | (cases hl; done) | skip
  case move x =>
    obtain ⟨y, h1, rfl⟩ := opt_map hl
    intro _
    exact ⟨_, w, ρ, .inl (by unfold execOp; rw [ho]; rfl), h, ev_rep he h1, Fut.refl _ _ _⟩
  case assign x =>
    obtain ⟨y, h1, rfl⟩ := opt_map hl
    intro _
    exact ⟨_, w, ρ, .inl (by unfold execOp; rw [ho]; rfl), h, ev_rep he h1, Fut.refl _ _ _⟩
  case pick c x y =>
    cases hc : lx n c <;> cases hx : lx n x <;> cases hy : lx n y <;> simp [hc, hx, hy] at hl
    subst hl
    simp [plain] at hp
  case alloc t =>
    cases hz : tyZero P t with
    | none => simp [hz] at hl
    | some z =>
      simp only [hz, Option.some.injEq] at hl
      subst hl
      split
      · exact opOK_v (snd_allocb hz h) (by unfold execOp; rw [ho])
      · exact opOK_v (snd_alloc hz h) (by unfold execOp; rw [ho])
  case box t x =>
    obtain ⟨y, h1, rfl⟩ := opt_map hl
    exact opOK_v (snd_box h (ev_rep he h1)) (by unfold execOp; rw [ho])
  case build t ps =>
    unfold lowBuild at hl
    cases hz : tyZero P t with
    | none => simp [hz] at hl
    | some z =>
      cases z <;> simp only [hz] at hl <;> first | (cases hl; done) | skip
      rename_i z
      cases hu : P.underlying t with
      | none => simp [hu] at hl
      | some d =>
        cases d <;> simp only [hu] at hl <;> first | (cases hl; done) | skip
        case struct fs =>
          cases hpl : placesOf P fs.toList with
          | none => simp [hpl] at hl
          | some pl =>
            simp only [hpl] at hl
            obtain ⟨m, h1, rfl⟩ := opt_map hl
            refine opOK_v (s := Instr.build t (ps.map fun (i, x) => (i, a.eval x))) (snd_build_struct hz hu hpl h ?_) (by unfold execOp; rw [ho])
            have := lowPs_rep he _ _ h1
            simpa using this
        case array k el =>
          cases hs : tySz P el with
          | none => simp [hs] at hl
          | some sz =>
            simp only [hs] at hl
            obtain ⟨m, h1, rfl⟩ := opt_map hl
            refine opOK_v (s := Instr.build t (ps.map fun (i, x) => (i, a.eval x))) (snd_build_array hz hu hs h ?_) (by unfold execOp; rw [ho])
            have := lowPs_rep he _ _ h1
            simpa using this
  case buildSlice t len ps =>
    unfold lowBsl at hl
    cases hu : P.underlying t with
    | none => simp [hu] at hl
    | some d =>
      cases d <;> simp only [hu] at hl <;> first | (cases hl; done) | skip
      rename_i el
      cases hs : tySz P el with
      | none => simp [hs] at hl
      | some sz =>
        cases hz : tyZero P el with
        | none => simp [hs, hz] at hl
        | some z =>
          cases hm : lowSs n ps.toList with
          | none => simp [hs, hz, hm] at hl
          | some m =>
            simp only [hs, hz, hm] at hl
            split at hl
            · rename_i hc
              simp only [Option.some.injEq] at hl
              subst hl
              refine opOK_v (s := Instr.buildSlice t len (ps.map fun (i, x) => (i, a.eval x))) (snd_bsl hu hs hz hc.1 hc.2.1 hc.2.2.1 hc.2.2.2 h ?_) (by unfold execOp; rw [ho])
              have := lowSs_rep he _ _ hm
              simpa using this
            · cases hl
  case makeMap t r =>
    cases r with
    | some r => cases hl
    | none =>
      simp only [Option.some.injEq] at hl
      subst hl
      exact opOK_v (snd_mkmap h) (by unfold execOp; rw [ho]; rfl)
  case insert t m k x =>
    cases hu : P.underlying t with
    | none => simp [hu] at hl
    | some d =>
      cases d <;> simp only [hu] at hl <;> first | (cases hl; done) | skip
      rename_i kt el
      cases hm : lx n m <;> cases hk : lx n k <;> cases hx : lx n x <;> simp only [hm, hk, hx] at hl <;> first | (cases hl; done) | skip
      obtain ⟨kd, h1, rfl⟩ := opt_map hl
      exact opOK_u (snd_ins hu h1 h (ev_rep he hm) (keyV_rep (ev_rep he hk)) (ev_rep he hx)) (by unfold execOp; rw [ho])
  case mapUpdate t m k x =>
    cases hu : P.underlying t with
    | none => simp [hu] at hl
    | some d =>
      cases d <;> simp only [hu] at hl <;> first | (cases hl; done) | skip
      rename_i kt el
      cases hm : lx n m <;> cases hk : lx n k <;> cases hx : lx n x <;> simp only [hm, hk, hx] at hl <;> first | (cases hl; done) | skip
      obtain ⟨kd, h1, rfl⟩ := opt_map hl
      exact opOK_u (snd_ins hu h1 h (ev_rep he hm) (keyV_rep (ev_rep he hk)) (ev_rep he hx)) (by unfold execOp; rw [ho])
  case load t p =>
    cases hag : tyAg P t <;> cases hs : tySz P t <;> cases hx : lx n p <;> simp only [hag, hs, hx] at hl <;> first | (cases hl; done) | skip
    simp only [Option.some.injEq] at hl
    subst hl
    cases imm with
    | false => exact opOK_v (snd_load hag hs h (ev_rep he hx)) (by unfold execOp; rw [ho])
    | true =>
      refine opOK_v (r := rLoadB _ _ _ H) (fun hok => ?_) (by unfold execOp; rw [ho])
      have hr := ev_rep he hx
      generalize ev e _ = x at hok hr ⊢
      cases x <;> first | exact hok.elim | exact snd_load hag hs h hr hok
  case store t p x =>
    cases hs : tySz P t <;> cases hq : lx n p <;> cases hx : lx n x <;> simp only [hs, hq, hx] at hl <;> first | (cases hl; done) | skip
    simp only [Option.some.injEq] at hl
    subst hl
    exact opOK_u (snd_store hs h (ev_rep he hq) (ev_rep he hx)) (by unfold execOp; rw [ho])
  case nilCheck x =>
    obtain ⟨y, h1, rfl⟩ := opt_map hl
    exact snd_nilchk ho rfl h (ev_rep he h1)
  case binOp op t x y yt =>
    unfold lowBin at hl
    have fin : ∀ kd, tyKD P t = some kd → ∀ x' y', lx n x = some x' → lx n y = some y' → OpOK P o a w X ρ H (ares (.bin kd op x' y') e H) := fun kd hk x' y' hx hy =>
      opOK_v (snd_bin hk h (ev_rep he hx) (ev_rep he hy)) (by unfold execOp; rw [ho])
    have fin2 : (match tyKD P t, lx n x, lx n y with | some kd, some x, some y => some (LOp.bin kd op x y) | _, _, _ => none) = some lo → OpOK P o a w X ρ H (ares lo e H) := by
      intro hl
      cases hk : tyKD P t <;> cases hx : lx n x <;> cases hy : lx n y <;> simp only [hk, hx, hy] at hl <;> first | (cases hl; done) | skip
      simp only [Option.some.injEq] at hl
      subst hl
      exact fin _ hk _ _ hx hy
    cases hu : P.underlying t with
    | none => rw [hu] at hl; exact fin2 hl
    | some d =>
      rw [hu] at hl
      cases d <;> first | exact fin2 hl | skip
      cases hq : isEq op <;> cases hx : lx n x <;> simp only [hq, hx] at hl <;> first | (cases hl; done) | skip
      split at hl
      · simp only [Option.some.injEq] at hl; subst hl; simp [plain] at hp
      · cases hl
  case unOp op t x =>
    cases op <;> simp only at hl <;> first | (cases hl; done) | skip
    case not =>
      obtain ⟨y, h1, rfl⟩ := opt_map hl
      exact opOK_v (snd_not h (ev_rep he h1)) (by unfold execOp; rw [ho])
    case neg =>
      obtain ⟨y, h1, rfl⟩ := opt_map hl
      exact opOK_v (snd_neg h (ev_rep he h1)) (by unfold execOp; rw [ho])
  case convert src dst x => exact lowConv_ok ho hl h he
  case makeFunc f first caps =>
    cases hf : lxs n first.toList <;> cases hc : lxs n caps.toList <;> simp only [hf, hc] at hl <;> first | (cases hl; done) | skip
    simp only [Option.some.injEq] at hl
    subst hl
    obtain ⟨h1, h2⟩ := lxs_rep he _ _ hf
    obtain ⟨h3, h4⟩ := lxs_rep he _ _ hc
    intro _
    refine ⟨.func f (first.map a.eval) (caps.map a.eval), w, ρ, .inl (by unfold execOp; rw [ho]; rfl), h, ?_, Fut.refl _ _ _⟩
    refine .fn _ _ _ _ _ _ (by simpa using h1) (by simpa using h3) (fun i x u hx hu => h2 i x u hx (by simpa using hu)) (fun i x u hx hu => h4 i x u hx (by simpa using hu))
  case makeSlice t l c =>
    cases hu : P.underlying t with
    | none => simp [hu] at hl
    | some d =>
      cases d <;> simp only [hu] at hl <;> first | (cases hl; done) | skip
      rename_i el
      cases hx : lx n l <;> cases hy : lx n c <;> simp only [hx, hy] at hl <;> first | (cases hl; done) | skip
      cases hi : P.info? el with
      | none => simp [hi] at hl
      | some i =>
        simp only [hi] at hl
        cases hz : i.zero with
        | none => simp [hz] at hl
        | some z =>
          simp only [hz] at hl
          split at hl
          · rename_i hc
            simp only [Option.some.injEq] at hl
            subst hl
            exact opOK_v (snd_msl hu hi hz hc.1 hc.2.1 hc.2.2 h (ev_rep he hx) (ev_rep he hy)) (by unfold execOp; rw [ho])
          · cases hl
  case slice t x l hi mx =>
    cases mx with
    | some m => cases hl
    | none =>
      cases hu : P.underlying t with
      | none => simp [hu] at hl
      | some d =>
        cases d <;> simp only [hu] at hl <;> first | (cases hl; done) | skip
        case string =>
          cases hx : lx n x <;> cases h1 : lxo n l <;> cases h2 : lxo n hi <;> simp only [hx, h1, h2] at hl <;> first | (cases hl; done) | skip
          simp only [Option.some.injEq] at hl
          subst hl
          exact opOK_v (s := Instr.sliceAt t (a.eval x) (l.map a.eval) (hi.map a.eval) none) (snd_slice (.inl ⟨rfl, hu⟩) h (ev_rep he hx) (lxo_rep he h1) (lxo_rep he h2)) (by unfold execOp; rw [ho]; rfl)
        case slice el =>
          cases hx : lx n x <;> cases h1 : lxo n l <;> cases h2 : lxo n hi <;> simp only [hx, h1, h2] at hl <;> first | (cases hl; done) | skip
          obtain ⟨sz, hs, rfl⟩ := opt_map hl
          cases imm with
          | false => exact opOK_v (s := Instr.sliceAt t (a.eval x) (l.map a.eval) (hi.map a.eval) none) (snd_slice (.inr ⟨rfl, el, hu, hs⟩) h (ev_rep he hx) (lxo_rep he h1) (lxo_rep he h2)) (by unfold execOp; rw [ho]; rfl)
          | true =>
            refine opOK_v (s := Instr.sliceAt t (a.eval x) (l.map a.eval) (hi.map a.eval) none) (r := rSliceV _ _ _ _ _ H) (fun hok => ?_) (by unfold execOp; rw [ho]; rfl)
            have hr := ev_rep he hx
            have g1 := lxo_rep he h1
            have g2 := lxo_rep he h2
            generalize ev e _ = x0 at hok hr ⊢
            cases x0 <;> first | exact hok.elim | exact snd_slice (.inr ⟨rfl, el, hu, hs⟩) h hr g1 g2 hok
  case fieldAddr s p f =>
    cases hu : P.underlying s with
    | none => simp [hu] at hl
    | some d =>
      cases d <;> simp only [hu] at hl <;> first | (cases hl; done) | skip
      rename_i fs
      cases hx : lx n p with
      | none => simp [hx] at hl
      | some y =>
        simp only [hx] at hl
        cases hf : fs[f]? with
        | none => simp [hf] at hl
        | some fd =>
          simp only [hf] at hl
          cases hn : tySz P fd.type with
          | none => simp [hn] at hl
          | some k =>
            cases k with
            | zero => simp [hn] at hl
            | succ k =>
              simp only [hn, Option.some.injEq] at hl
              subst hl
              cases imm with
              | false => exact opOK_v (snd_faddr hu hf hn (by omega) h (ev_rep he hx)) (by unfold execOp; rw [ho])
              | true =>
                refine opOK_v (r := rFaddrB _ _ H) (fun hok => ?_) (by unfold execOp; rw [ho])
                have hr := ev_rep he hx
                generalize ev e _ = x at hok hr ⊢
                cases x <;> first | exact hok.elim | exact snd_faddr hu hf hn (by omega) h hr hok
  case field s x f =>
    cases hu : P.underlying s with
    | none => simp [hu] at hl
    | some d =>
      cases d <;> simp only [hu] at hl <;> first | (cases hl; done) | skip
      rename_i fs
      cases hx : lx n x with
      | none => simp [hx] at hl
      | some y =>
        simp only [hx] at hl
        cases hf : fs[f]? with
        | none => simp [hf] at hl
        | some fd =>
          simp only [hf] at hl
          cases hag : tyAg P fd.type <;> cases hn : tySz P fd.type <;> simp only [hag, hn] at hl <;> first | (cases hl; done) | skip
          simp only [Option.some.injEq] at hl
          subst hl
          exact opOK_v (snd_fld hu hf hag hn h (ev_rep he hx)) (by unfold execOp; rw [ho])
  case indexAddr t x i =>
    cases hu : P.underlying t with
    | none => simp [hu] at hl
    | some d =>
      cases d <;> simp only [hu] at hl <;> first | (cases hl; done) | skip
      cases hx : lx n x <;> cases hi : lx n i <;> simp only [hx, hi] at hl <;> first | (cases hl; done) | skip
      obtain ⟨sz, hs, rfl⟩ := opt_map hl
      cases imm with
      | false => exact opOK_v (snd_iaddr hu hs h (ev_rep he hx) (ev_rep he hi)) (by unfold execOp; rw [ho])
      | true =>
        refine opOK_v (r := rIaddrV _ _ _ H) (fun hok => ?_) (by unfold execOp; rw [ho])
        have hr := ev_rep he hx
        have hr2 := ev_rep he hi
        generalize ev e _ = x at hok hr ⊢
        cases x <;> first | exact hok.elim | exact snd_iaddr hu hs h hr hr2 hok
  case index t x i =>
    cases hu : P.underlying t with
    | none => simp [hu] at hl
    | some d =>
      cases d <;> simp only [hu] at hl <;> first | (cases hl; done) | skip
      cases hx : lx n x <;> cases hi : lx n i <;> simp only [hx, hi] at hl <;> first | (cases hl; done) | skip
      simp only [Option.some.injEq] at hl
      subst hl
      exact opOK_v (snd_idx hu h (ev_rep he hx) (ev_rep he hi)) (by unfold execOp; rw [ho])
  case lookup t m k ok =>
    cases hu : P.underlying t with
    | none => simp [hu] at hl
    | some d =>
      cases d <;> simp only [hu] at hl <;> first | (cases hl; done) | skip
      cases hx : lx n m <;> cases hi : lx n k <;> simp only [hx, hi] at hl <;> first | (cases hl; done) | skip
      rename_i kt el _ _
      cases hk : keyKD P kt <;> cases hz : tyZero P el <;> simp only [hk, hz] at hl <;> first | (cases hl; done) | skip
      simp only [Option.some.injEq] at hl
      subst hl
      exact opOK_v (snd_look hu hk hz h (ev_rep he hx) (keyV_rep (ev_rep he hi))) (by unfold execOp; rw [ho])
  case extract x i =>
    obtain ⟨y, h1, rfl⟩ := opt_map hl
    exact opOK_v (snd_ext h (ev_rep he h1)) (by unfold execOp; rw [ho])
  case call c =>
    split at hl
    · exact lowCallB_ok ho hl h he
    · exact lowCall_ok ho hl hp h he
end
end Go.Ax

/- Whole functions: what the steps say of a function's lowered form holds of every call of it. -/
namespace Go.Ax
open Go Go.RowKit
set_option linter.unusedSimpArgs false
set_option linter.unusedVariables false

section
variable {P : Program} {w : World} {X : Nat → Prop} {ρ : Nat → Loc} {H : AHeap} {e : Env} {a : Act} {n : Nat}

/-- What is asked of what follows an operation. -/
abbrev Cont (X : Nat → Prop) (w : World) (ρ : Nat → Loc) (H : AHeap) (a : Act) (d : Option Nat) (K : AV → AHeap → Prop) (next : Act → World → Prop) : Prop :=
  ∀ u x H' ρ' w', K x H' → HRel w' X ρ' H' → Rep w' (Mut X ρ' H'.length) ρ' H'.length x u → Fut w ρ H.length w' ρ' H'.length → next (a.put d u) w'

theorem aop_plain {lo : LOp} (hp : plain lo = true) {K : AV → AHeap → Prop} (h : aop P lo e H K) : (ares lo e H).ok ∧ K (ares lo e H).x (ares lo e H).H := by
  cases lo <;> first | exact h | (simp [plain] at hp)

theorem sl_nilcase {x : AV} {u : Value} (h : HRel w X ρ H) (hx : Rp w X ρ H x u) (hs : slcK H x) : ∃ b l c, u = .slice b l c ∧ nilOk x b.isNone := by
  cases x with
  | v x =>
    have := rep_v hx; subst this
    cases u with
    | slice b l c => cases b <;> cases l <;> cases c <;> simp [slcK] at hs; exact ⟨_, _, _, rfl, rfl⟩
    | _ => simp [slcK] at hs
  | sl sz xs =>
    cases hx with
    | slE _ _ b c => exact ⟨b, 0, c, rfl, fun _ => rfl⟩
    | slN => exact ⟨_, _, _, rfl, fun hh => by simp at hh⟩
  | os r ver off len =>
    obtain ⟨hb, hv⟩ := hs
    obtain ⟨v, sz, xs, ho⟩ := isArr_some hb
    rw [ho] at hv
    obtain ⟨_, _, _, _, _, _, ⟨b, c, rfl, hlc, hcap⟩, _⟩ := os_arr h hx ho hv
    refine ⟨_, _, _, rfl, fun hh => ?_⟩
    rcases hcap with h0 | ⟨_, _, _, rfl, _⟩
    · omega
    · simp at hh
  | nc => cases hx; exact ⟨_, _, _, rfl, trivial⟩
  | _ => simp [slcK] at hs

theorem eqIn_nilS0 {d : Nat} {t el : TypeId} {b : Option Addr} {l c : Nat} (ht : P.underlying t = some (.slice el)) : (Op.equalIn (d + 1) t (.slice b l c) (.slice none 0 0)).run P w = .ok b.isNone w := by
  cases b <;> simp [Op.equalIn, run_underlying ht]
theorem eqIn_nilS {t el : TypeId} {b : Option Addr} {l c : Nat} (ht : P.underlying t = some (.slice el)) : (Op.equal t (.slice b l c) (.slice none 0 0)).run P w = .ok b.isNone w :=
  eqIn_nilS0 (d := 9999) ht

/-- A fence that bars nothing, in a round or not. -/
abbrev WR (r : Option Nat) : Fence := { Fence.wide with round := r }
theorem wr_depth {r : Option Nat} {k : Nat} : (WR r).depth.isSome = true → 1 ≤ k := fun h => by cases h
theorem callsIn_wr {r : Option Nat} {m : Nat} {f : FuncId} {args : Array Value} {R : Ending → World → Prop} (h : Calls P f args w R) : CallsIn (WR r) m P f args w R := (callsIn_wide (n := m)).2 h
theorem roundIn_wr {r : Option Nat} {m m' : Nat} {l : Nat} {f : FuncId} {tmps : Array Value} {asg bdy : Code} {R : Ending → World → Prop} (h : RoundIn Fence.wide m P l f tmps asg bdy w R) : RoundIn (WR r) m' P l f tmps asg bdy w R :=
  ⟨trivial, fun c cs _ => h.2 c cs (room_wide _)⟩
theorem wpIn_exec {r : Option Nat} {m : Nat} {o : Oper} {next : Act → World → Prop} {Q : Exit → Act → World → Prop} (hd : ∀ c, o.op ≠ .defer c) (h : o.uponIn (WR r) m P a next Q ((execOp a.eval o).run P w)) : o.wpIn (WR r) m P a w next Q :=
  ⟨fun _ _ => trivial, by rw [Oper.semAt_eq _ _ _ hd]; exact h⟩
theorem low_nodefer {imm : Bool} {o : Oper} {lo : LOp} (hl : lowOp0 P n imm o = some lo) (c : Call) : o.op ≠ .defer c := fun hc => by
  unfold lowOp0 at hl; rw [hc] at hl; cases hl
theorem acall_v {x : Value} {args : List AV} {K : AV → AHeap → Prop} (h : acall P (.v x) args H K) : ∃ l, x = .func (.yield l) #[] #[] ∧ AYield P l args H K := by
  unfold acall at h
  split at h
  · rename_i he; cases he
  · rename_i l he; cases he; exact ⟨l, rfl, h⟩
  · exact h.elim

def plainO : Option LOp → Bool
  | some lo => plain lo
  | none => true

theorem aop_sound {r : Option Nat} {m0 : Nat} {imm : Bool} {o : Oper} {K : AV → AHeap → Prop} (hop : aop P (lowOp P n imm o) e H K) (h : HRel w X ρ H) (he : ER w X ρ H n e a) {next : Act → World → Prop} {Q : Exit → Act → World → Prop}
    (hn : Cont X w ρ H a o.dst K next) : o.wpIn (WR r) m0 P a w next Q := by
  unfold lowOp at hop
  cases hl : lowOp0 P n imm o with
  | none => rw [hl] at hop; exact hop.1.elim
  | some lo =>
    rw [hl] at hop
    simp only [Option.getD_some] at hop
    have hnd := low_nodefer hl
    by_cases hp : plain lo = true
    · obtain ⟨h1, h2⟩ := aop_plain hp hop
      obtain ⟨u, w', ρ', hr, g1, g2, g3⟩ := lowOp0_ok hl hp h he h1
      refine wpIn_exec hnd ?_
      rcases hr with hr | ⟨hr, rfl⟩
      · rw [hr]; exact hn _ _ _ _ _ h2 g1 g2 g3
      · rw [hr]; exact hn _ _ _ _ _ h2 g1 g2 g3
    · unfold lowOp0 at hl
      cases ho : o.op <;> rw [ho] at hl <;> simp only at hl <;> first | (cases hl; done) | skip
      case pick c x y =>
        cases hc : lx n c <;> cases hx : lx n x <;> cases hy : lx n y <;> simp [hc, hx, hy] at hl
        subst hl
        have rc := ev_rep he hc
        have rx := ev_rep he hx
        have ry := ev_rep he hy
        simp only [aop] at hop
        refine wpIn_exec hnd ?_
        unfold execOp
        rw [ho]
        split at hop
        · rename_i t htb
          rw [htb] at rc
          have hcv := rep_v rc
          split at hop
          · rename_i hb
            subst hb
            simp only [hcv, asBool, Sem.run_bind, Sem.run_pure, Result.andThen_ok, if_true]
            exact hn _ _ _ _ _ hop h rx (Fut.refl _ _ _)
          · rename_i hb
            have hb' : t = false := by simpa using hb
            subst hb'
            simp only [hcv, asBool, Sem.run_bind, Sem.run_pure, Result.andThen_ok, Bool.false_eq_true, if_false]
            exact hn _ _ _ _ _ hop h ry (Fut.refl _ _ _)
        · exact hop.elim
      case binOp op t x y yt =>
        unfold lowBin at hl
        have bad : (match tyKD P t, lx n x, lx n y with | some kd, some x, some y => some (LOp.bin kd op x y) | _, _, _ => none) = some lo → False := by
          intro hl
          cases hk : tyKD P t <;> cases hx : lx n x <;> cases hy : lx n y <;> simp only [hk, hx, hy] at hl <;> first | (cases hl; done) | skip
          simp only [Option.some.injEq] at hl
          subst hl
          simp [plain] at hp
        cases hu : P.underlying t with
        | none => rw [hu] at hl; exact (bad hl).elim
        | some d =>
          rw [hu] at hl
          cases d <;> first | exact (bad hl).elim | skip
          rename_i el
          cases hq : isEq op <;> cases hx : lx n x <;> simp only [hq, hx] at hl <;> first | (cases hl; done) | skip
          rename_i neg lxx
          split at hl
          · rename_i hnc
            simp only [Option.some.injEq] at hl
            subst hl
            obtain ⟨hs, hK⟩ := hop
            obtain ⟨b, l, c, hae, hnil⟩ := sl_nilcase h (ev_rep he hx) hs
            have hy : a.eval y = .slice none 0 0 := by
              cases y with
              | const v => cases v with
                | slice b l c => cases b <;> cases l <;> cases c <;> simp [isNilC] at hnc; rfl
                | _ => simp [isNilC] at hnc
              | _ => simp [isNilC] at hnc
            have hex : (execOp a.eval o).run P w = .ok (.value (.bool (b.isNone ^^ neg))) w := by
              unfold execOp
              rw [ho]
              cases op <;> simp [isEq] at hq <;> subst hq
              · simp [hae, hy, eqGuard_at_slice, binOp, eqIn_nilS hu]
              · simp [hae, hy, eqGuard_at_slice, binOp, eqIn_nilS hu]
            refine wpIn_exec hnd ?_
            rw [hex]
            exact hn _ _ _ _ _ (hK _ hnil) h (.v _ _) (Fut.refl _ _ _)
          · cases hl
      case call c =>
        have hl : lowCall P n c = some lo := by
          split at hl
          · exact absurd (lowCallB_plain hl) hp
          · exact hl
        obtain ⟨callee, args, tys⟩ := c
        unfold lowCall at hl
        cases callee with
        | value f =>
          simp only at hl
          cases hf : lx n f with
          | none => simp [hf] at hl
          | some g =>
            cases hm : lxs n args.toList with
            | none => simp [hf, hm] at hl
            | some m =>
              simp [hf, hm] at hl
              subst hl
              have rf := ev_rep he hf
              obtain ⟨hlen, hrep⟩ := lxs_rep he _ _ hm
              simp only [aop] at hop
              cases hfv : ev e g with
              | fn fk first caps =>
                rw [hfv] at hop rf
                cases fk <;> simp only [acall] at hop <;> first | exact hop.elim | skip
                rename_i k
                obtain ⟨⟨fn, hfn, hbody, hname⟩, hcall⟩ := hop
                generalize hfe : a.eval f = fv at rf
                cases rf with
                | fn _ _ _ _ fs us h1 h2 h3 h4 =>
                  have hex : (execOp a.eval o).run P w = .ok (.enter k (fs ++ args.map a.eval ++ us)) w := by
                    unfold execOp
                    rw [ho]
                    simp only [resolve, hfe, Deferred.ofValue, Sem.run_bind, Sem.run_pure, Result.andThen_ok, invoke, callFunc, run_program, hfn, hname, Bool.false_eq_true, if_false, hbody]
                  refine wpIn_exec hnd ?_
                  rw [hex]
                  refine ⟨wr_depth, callsIn_wr ((hcall X ρ w _ h ⟨?_, ?_⟩).mono ?_)⟩
                  · simp [h1, h2, hlen]
                  · intro i x u hx hu
                    rw [List.append_assoc, List.getElem?_append] at hx
                    rw [Array.append_assoc, Array.getElem?_append] at hu
                    by_cases hi : i < first.length
                    · rw [if_pos hi] at hx
                      rw [if_pos (by omega)] at hu
                      exact h3 i x u hx hu
                    · rw [if_neg hi, List.getElem?_append] at hx
                      rw [if_neg (by omega), Array.getElem?_append] at hu
                      simp only [List.length_map, Array.size_map] at hx hu
                      have hl2 : m.length = args.size := by simpa using hlen
                      by_cases hj : i - first.length < m.length
                      · rw [if_pos hj] at hx
                        rw [if_pos (by omega)] at hu
                        exact hrep (i - first.length) x u hx (by rw [← h1] at hu; simpa using hu)
                      · rw [if_neg hj] at hx
                        rw [if_neg (by omega)] at hu
                        exact h4 (i - first.length - m.length) x u hx (by rw [← h1, ← hl2] at hu; exact hu)
                  · rintro en w' ⟨v, x, H', ρ', rfl, hK, g1, g2, g3⟩
                    exact hn _ _ _ _ _ hK g1 g2 g3
              | v x =>
                rw [hfv] at hop rf
                have hfe := rep_v rf
                obtain ⟨l, rfl, hy⟩ := acall_v hop
                obtain ⟨fn', tmps, asg, bdy, hyr, hround⟩ := hy X ρ w (args.map a.eval) h ⟨by simp [hlen], fun i x u hx hu => hrep i x u hx (by simpa using hu)⟩
                have hex : (execOp a.eval o).run P w = .ok (.round l fn' tmps asg bdy) w := by
                  unfold execOp
                  rw [ho]
                  simp only [resolve, hfe, Deferred.ofValue, Sem.run_bind, Sem.run_pure, Result.andThen_ok, invoke, callFunc, run_program]
                  simpa using hyr
                refine wpIn_exec hnd ?_
                rw [hex]
                refine ⟨wr_depth, roundIn_wr (hround.mono ?_)⟩
                rintro en w' ⟨v, x, H', ρ', rfl, hK, g1, g2, g3⟩
                exact hn _ _ _ _ _ hK g1 g2 g3
              | _ => rw [hfv] at hop; exact hop.elim
        | invoke r m => simp at hl
        | builtin b =>
          refine absurd (show plainO (some lo) = true from ?_) hp
          rw [← hl]
          cases b <;> simp only <;> (repeat' split) <;> first | rfl | (cases tySz P _ <;> simp only [Option.bind_none, Option.bind_some] <;> (try split) <;> rfl)
      case unOp op t x => cases op <;> simp only at hl <;> first | (cases hl; done) | (obtain ⟨_, _, rfl⟩ := opt_map hl; exact absurd rfl hp)
      case makeMap t r => cases r <;> simp only at hl <;> first | (cases hl; done) | (cases hl; exact absurd rfl hp)
      case slice t x lo hi mx => cases mx <;> simp only at hl <;> first | (cases hl; done) | (refine absurd (show plainO (some _) = true from ?_) hp; rw [← hl]; (repeat' split) <;> first | rfl | (cases tySz P _ <;> first | rfl | (cases imm <;> rfl)))
      all_goals
        refine absurd (show plainO (some lo) = true from ?_) hp
        rw [← hl]
        (try unfold lowBuild); (try unfold lowBsl); (try unfold lowConv)
        (repeat' split) <;> first | rfl | (cases lx n _ <;> rfl) | (cases lowPs n _ _ <;> rfl) | (cases tyKD P _ <;> rfl) | (cases keyKD P _ <;> rfl) | (cases tySz P _ <;> rfl)
end
end Go.Ax

/- Operations one behind the other. -/
namespace Go.Ax
open Go Go.RowKit
set_option linter.unusedSimpArgs false
set_option linter.unusedVariables false

section
variable {B : List Deferred} {P : Program} {w w0 : World} {X : Nat → Prop} {ρ ρ0 : Nat → Loc} {H : AHeap} {e : Env} {a : Act} {n n0 : Nat}

/-- The marks of ranges over functions among the deferred calls: each block lies as it was laid, and no run owns it. -/
def mark (D : Nat) : Deferred := { target := .collected D, args := #[] }
def Mk (B : List Deferred) (w0 w : World) (ρ : Nat → Loc) (n : Nat) (df : List Deferred) : Prop :=
  ∃ ds : List Nat, df = ds.map mark ++ B ∧ ds.Nodup ∧ ∀ D ∈ ds, w0.heap.size ≤ D ∧ D < w.heap.size ∧ ¬ Own ρ n D ∧ w.heap[D]? = some (.deferred (some []))
theorem Mk.fut {w' : World} {ρ' : Nat → Loc} {n' : Nat} {df : List Deferred} (h : Mk B w0 w ρ n df) (hf : Fut w ρ n w' ρ' n') : Mk B w0 w' ρ' n' df := by
  obtain ⟨ds, h1, h2, h3⟩ := h
  refine ⟨ds, h1, h2, fun D hD => ?_⟩
  obtain ⟨g1, g2, g3, g4⟩ := h3 D hD
  exact ⟨g1, Nat.lt_of_lt_of_le g2 hf.size, fun ho => (hf.own D ho).elim g3 fun h => by omega, by rw [hf.keep D g2 g3]; exact g4⟩
theorem Mk.nil {w0 w : World} {ρ : Nat → Loc} {n : Nat} : Mk B w0 w ρ n B := ⟨[], rfl, .nil, by simp⟩

/-- The state of a function: its slots, its objects, and what has become of the world since w0. -/
def St (B : List Deferred) (X : Nat → Prop) (w0 : World) (ρ0 : Nat → Loc) (n0 n : Nat) (e : Env) (H : AHeap) (a : Act) (w : World) : Prop :=
  a.tmps.size = n ∧ ∃ ρ, HRel w X ρ H ∧ ER w X ρ H n e a ∧ Fut w0 ρ0 n0 w ρ H.length ∧ Mk B w0 w ρ H.length a.defers

theorem put_get (a : Act) (d t : Nat) (u : Value) : (a.put (some d) u).tmps.getD t undef = if t = d ∧ d < a.tmps.size then u else a.tmps.getD t undef := by
  simp only [Act.put, Array.getD_eq_getD_getElem?]
  by_cases h : t = d
  · subst h
    by_cases h2 : t < a.tmps.size
    · simp [h2]
    · simp [h2]
  · rw [Array.getElem?_setIfInBounds_ne (fun e => h e.symm), if_neg (fun hh => h hh.1)]

/-- A slot is set. -/
theorem er_put {w' : World} {ρ' : Nat → Loc} {H' : AHeap} {d : Option Nat} {u : Value} {x : AV} (he : ER w X ρ H n e a) (hf : Fut w ρ H.length w' ρ' H'.length) (hx : Rep w' (Mut X ρ' H'.length) ρ' H'.length x u) (hn : a.tmps.size = n) :
    ER w' X ρ' H' n (ups e d x) (a.put d u) := by
  intro t ht
  cases d with
  | none => exact (he t ht).nextN hf
  | some d =>
    rw [put_get]
    simp only [ups, up]
    by_cases h : t = d
    · subst h
      rw [if_pos rfl, if_pos ⟨rfl, by omega⟩]
      exact hx
    · rw [if_neg h, if_neg (fun hh => h hh.1)]
      exact (he t ht).nextN hf

theorem put_size (a : Act) (d : Option Nat) (u : Value) : (a.put d u).tmps.size = a.tmps.size := by
  cases d <;> simp [Act.put]
theorem put_def (a : Act) (d : Option Nat) (u : Value) : (a.put d u).defers = a.defers := by
  cases d <;> rfl

theorem St.put {w' : World} {H' : AHeap} {ρ' : Nat → Loc} {d : Option Nat} {u : Value} {x : AV} (hm : Mk B w0 w ρ H.length a.defers) (hs : a.tmps.size = n) (he : ER w X ρ H n e a) (h0 : Fut w0 ρ0 n0 w ρ H.length) (g1 : HRel w' X ρ' H')
    (g2 : Rep w' (Mut X ρ' H'.length) ρ' H'.length x u) (g3 : Fut w ρ H.length w' ρ' H'.length) : St B X w0 ρ0 n0 n (ups e d x) H' (a.put d u) w' :=
  ⟨by rw [put_size]; exact hs, ρ', g1, er_put he g3 g2 hs, h0.trans g3, by rw [put_def]; exact hm.fut g3⟩

theorem up_eq {t : Nat} {x : AV} (h : e t = x) : up e t x = e := by
  funext u
  simp only [up]
  split
  · rename_i hu; rw [hu, h]
  · rfl

theorem ghost_inv {d : Option Nat} {op : LOp} (h : ghost d op = true) : ∃ t, d = some t ∧ (op = .frz (.t t) ∨ (∃ sz off, op = .frzf sz off (.t t)) ∨ ∃ sz, op = .own sz (.t t)) := by
  cases op <;> simp [ghost] at h
  case frz x => cases x <;> simp at h; exact ⟨_, h, .inl rfl⟩
  case own sz x => cases x <;> simp at h; exact ⟨_, h, .inr (.inr ⟨sz, rfl⟩)⟩
  case frzf sz off x => cases x <;> simp at h; exact ⟨_, h, .inr (.inl ⟨sz, off, rfl⟩)⟩

theorem ghosts_sound : ∀ (gs : List LO) {los : List LO} {e : Env} {H : AHeap} {K : Env → AHeap → Prop}, ghosts n gs = true → aops P (gs ++ los) e H K → St B X w0 ρ0 n0 n e H a w → ∃ e' H', aops P los e' H' K ∧ St B X w0 ρ0 n0 n e' H' a w
  | [], _, e, H, _, _, h, hst => ⟨e, H, h, hst⟩
  | g :: gs, los, e, H, K, hg, h, ⟨hn, ρ, hrel, he, hf, hm⟩ => by
    simp only [ghosts, List.all_cons, Bool.and_eq_true] at hg
    obtain ⟨⟨⟨g1, g2⟩, g3⟩, g4⟩ := hg
    obtain ⟨d, gg, op⟩ := g
    cases gg with
    | some _ => simp at g1
    | none =>
      obtain ⟨t, rfl, hop⟩ := ghost_inv g2
      have ht : t < n := by simpa using g3
      have hput : ∀ (w' : World) (ρ' : Nat → Loc) (H' : AHeap) (x : AV), Fut w ρ H.length w ρ' H'.length → HRel w X ρ' H' → Rep w (Mut X ρ' H'.length) ρ' H'.length x (a.tmps.getD t undef) → St B X w0 ρ0 n0 n (up e t x) H' a w := by
        intro w' ρ' H' x f1 f2 f3
        refine ⟨hn, ρ', f2, fun u hu => ?_, hf.trans f1, hm.fut f1⟩
        simp only [up]
        split
        · rename_i hut; rw [hut]; exact f3
        · exact (he u hu).nextN f1
      rcases hop with rfl | ⟨sz, off, rfl⟩ | ⟨sz, rfl⟩
      · obtain ⟨h1, h2⟩ := h
        obtain ⟨ρ', f1, f2, f3⟩ := snd_frz hrel (he t ht) h1
        exact ghosts_sound gs g4 h2 (hput w ρ' _ _ f3 f1 f2)
      · obtain ⟨h1, h2⟩ := h
        obtain ⟨ρ', f1, f2, f3⟩ := snd_frzf hrel (he t ht) h1
        exact ghosts_sound gs g4 h2 (hput w ρ' _ _ f3 f1 f2)
      · obtain ⟨h1, h2⟩ := h
        obtain ⟨ρ', f1, f2, f3⟩ := snd_own hrel (he t ht) h1
        exact ghosts_sound gs g4 h2 (hput w ρ' _ _ f3 f1 f2)

/-- Is the operation wanted, as far as the environment says? -/
def wantA (g : Option (Nat × Bool)) (e : Env) : Option Bool :=
  match g with
  | none => some true
  | some (t, want) => match e t with
    | .v (.bool b) => some (b == want)
    | .v (.tuple _) => some false
    | _ => none

theorem want_ok {ops : Array Oper} {o : Oper} {g : Option (Nat × Bool)} {b : Bool} (hg : lowG ops n o.guard = some g) (he : ER w X ρ H n e a) (hn : a.tmps.size = n) (hw : wantA g e = some b) : Region.wanted o (yielded ops a.tmps) = b := by
  unfold lowG at hg
  cases hog : o.guard with
  | none =>
    rw [hog] at hg
    simp at hg
    subst hg
    simp [wantA] at hw
    subst hw
    simp [Region.wanted, hog]
  | some jw =>
    obtain ⟨j, want⟩ := jw
    rw [hog] at hg
    simp only at hg
    cases hd : (ops[j]?).bind (·.dst) with
    | none => simp [hd] at hg
    | some t =>
      simp only [hd] at hg
      by_cases ht : t < n
      · rw [if_pos ht] at hg
        simp only [Option.some.injEq] at hg
        subst hg
        simp only [wantA] at hw
        have hr := he t ht
        have hget : a.tmps[t]? = some (a.tmps.getD t undef) := by
          have : t < a.tmps.size := by rw [hn]; exact ht
          simp [this]
        simp only [Region.wanted, hog, yielded, hd, Option.bind_some, hget]
        cases het : e t with
        | v x =>
          rw [het] at hr hw
          have := rep_v hr
          rw [this]
          cases x <;> simp at hw
          case bool c => subst hw; cases c <;> cases want <;> rfl
          case tuple us => subst hw; rfl
        | _ => rw [het] at hw; simp at hw
      · rw [if_neg ht] at hg; cases hg

theorem aops_cons {o : LO} {l : List LO} {K : Env → AHeap → Prop} (h : aops P (o :: l) e H K) :
    (wantA o.g e = some true ∧ aop P o.op e H fun x H' => aops P l (ups e o.d x) H' K) ∨ (wantA o.g e = some false ∧ aops P l (ups e o.d undefA) H K) := by
  simp only [aops] at h
  cases hg : o.g with
  | none => rw [hg] at h; exact .inl ⟨rfl, h⟩
  | some tw =>
    obtain ⟨t, want⟩ := tw
    rw [hg] at h
    simp only at h
    cases het : e t with
    | v x =>
      rw [het] at h
      cases x <;> simp only at h <;> first | exact h.elim | skip
      case bool b =>
        have hu : up e t (bool b) = e := up_eq het
        cases b <;> cases want <;> simp only [hu, if_true, Bool.false_eq_true, if_false, wantA, het] at h ⊢ <;> first | exact .inl ⟨rfl, h⟩ | exact .inr ⟨rfl, h⟩
      case tuple us => exact .inr ⟨by simp [wantA, het], h⟩
    | _ => rw [het] at h; exact h.elim

theorem lowOne_inv {imm : Bool} {ops : Array Oper} {o : Oper} {lo : LO} (h : lowOne P n imm ops o = some lo) : lo.d = o.dst ∧ lowG ops n o.guard = some lo.g ∧ lo.op = lowOp P n imm o := by
  unfold lowOne at h
  cases hg : lowG ops n o.guard with
  | none => simp [hg] at h
  | some g =>
    simp only [hg] at h
    split at h
    · simp only [Option.some.injEq] at h
      subst h
      exact ⟨rfl, rfl, rfl⟩
    · cases h

/-- One operation, and what follows. -/
theorem op_step {r : Option Nat} {m0 : Nat} {imm : Bool} {ops : Array Oper} {o : Oper} {lo : LO} {l : List LO} {K : Env → AHeap → Prop} (hl : lowOne P n imm ops o = some lo) (h : aops P (lo :: l) e H K) (hst : St B X w0 ρ0 n0 n e H a w) {next : Act → World → Prop} {Q : Exit → Act → World → Prop}
    (hn : ∀ e' H' a' w', aops P l e' H' K → St B X w0 ρ0 n0 n e' H' a' w' → next a' w') :
    if Region.wanted o (yielded ops a.tmps) then o.wpIn (WR r) m0 P a w next Q else (∀ f, o.about P w a.eval = some f → (WR r).fn f) ∧ next (a.put o.dst undef) w := by
  obtain ⟨hd, hg, hop⟩ := lowOne_inv hl
  obtain ⟨h2, ρ, hrel, he, hf, hm⟩ := hst
  rcases aops_cons h with ⟨hw, h⟩ | ⟨hw, h⟩
  · rw [want_ok hg he h2 hw, if_pos rfl]
    rw [hop] at h
    refine aop_sound h hrel he fun u x H' ρ' w' hK g1 g2 g3 => hn _ _ _ _ hK ?_
    rw [hd]
    exact St.put hm h2 he hf g1 g2 g3
  · rw [want_ok hg he h2 hw, if_neg (by simp)]
    refine ⟨fun _ _ => trivial, hn _ _ _ _ h ?_⟩
    rw [hd]
    exact St.put hm h2 he hf hrel (.v _ _) (Fut.refl _ _ _)

theorem ops_sound {r : Option Nat} {m0 : Nat} {hs : List Hn} {reg : Nat} {ops : Array Oper} {K : Env → AHeap → Prop} {Q : Exit → Act → World → Prop} (hQ : ∀ e' H' a' w', K e' H' → St B X w0 ρ0 n0 n e' H' a' w' → Q .normal a' w') :
    ∀ (l : List Oper) (i : Nat) (los : List LO) (e : Env) (H : AHeap) (a : Act) (w : World), lowOps P n hs reg ops i l = some los → aops P los e H K → St B X w0 ρ0 n0 n e H a w → wpListIn (WR r) m0 P ops Q l a w
  | [], i, los, e, H, a, w, hl, h, hst => by
    unfold lowOps at hl
    split at hl
    · rename_i hg
      simp only [Option.some.injEq] at hl
      subst hl
      obtain ⟨e', H', h', hst'⟩ := ghosts_sound (presAt hs reg i) (los := []) hg (by simpa using h) hst
      exact hQ _ _ _ _ h' hst'
    · cases hl
  | o :: l, i, los, e, H, a, w, hl, h, hst => by
    unfold lowOps at hl
    cases h1 : lowOne P n (hasImm hs reg i) ops o with
    | none => simp [h1] at hl
    | some lo =>
      cases h2 : lowOps P n hs reg ops (i + 1) l with
      | none => simp [h1, h2] at hl
      | some m =>
        simp only [h1, h2] at hl
        split at hl
        · rename_i hg
          simp only [Option.some.injEq] at hl
          subst hl
          obtain ⟨e', H', h', hst'⟩ := ghosts_sound (presAt hs reg i) hg h hst
          have := op_step (r := r) (m0 := m0) h1 h' hst' (next := wpListIn (WR r) m0 P ops Q l) (Q := Q) fun e'' H'' a'' w'' hK hs'' => ops_sound hQ l (i + 1) m e'' H'' a'' w'' h2 hK hs''
          unfold wpListIn
          exact this
        · cases hl

theorem wanted_none {ops : Array Oper} {o : Oper} (h : o.guard = none) (tmps : Array Value) : Region.wanted o (yielded ops tmps) = true := by simp [Region.wanted, h]
/-- A call that may end in a panic. -/
theorem cut_step {r : Option Nat} {m0 : Nat} {ops : Array Oper} {o : Oper} {c : LCode} {K : Out → Env → AHeap → Prop} (hl : lowCut n o = some c) (h : awp P c e H K) (hst : St B X w0 ρ0 n0 n e H a w) {next : Act → World → Prop} {Q : Exit → Act → World → Prop}
    (hn : ∀ e' H' a' w', K .normal e' H' → St B X w0 ρ0 n0 n e' H' a' w' → next a' w') (hp : ∀ v e' H' a' w', K (.pan v) e' H' → St B X w0 ρ0 n0 n e' H' a' w' → Q (.panic [{ v, recovered := false }]) a' w') :
    Region.wanted o (yielded ops a.tmps) = true ∧ o.wpIn (WR r) m0 P a w next Q := by
  unfold lowCut at hl
  split at hl
  · rename_i f args tys ho hg
    refine ⟨wanted_none hg _, ?_⟩
    cases hf : lx n f with
    | none => simp [hf] at hl
    | some g =>
      cases hm : lxs n args.toList with
      | none => simp [hf, hm] at hl
      | some m =>
        simp only [hf, hm] at hl
        split at hl
        · simp only [Option.some.injEq] at hl
          subst hl
          obtain ⟨h2, ρ, hrel, he, hfu, hmk⟩ := hst
          have rf := ev_rep he hf
          obtain ⟨hlen, hrep⟩ := lxs_rep he _ _ hm
          simp only [awp, acallx] at h
          cases hfv : ev e g with
          | fn fk first caps =>
            rw [hfv] at h rf
            cases fk <;> simp only at h <;> first | exact h.elim | skip
            rename_i k
            obtain ⟨⟨fn, hfn, hbody, hname⟩, hcall⟩ := h
            generalize hfe : a.eval f = fv at rf
            cases rf with
            | fn _ _ _ _ fs us h1 h2' h3 h4 =>
              have hex : (execOp a.eval o).run P w = .ok (.enter k (fs ++ args.map a.eval ++ us)) w := by
                unfold execOp
                rw [ho]
                simp only [resolve, hfe, Deferred.ofValue, Sem.run_bind, Sem.run_pure, Result.andThen_ok, invoke, callFunc, run_program, hfn, hname, Bool.false_eq_true, if_false, hbody]
              refine wpIn_exec (by rw [ho]; intro c' hc; cases hc) ?_
              rw [hex]
              refine ⟨wr_depth, callsIn_wr ((hcall X ρ w _ hrel ⟨?_, ?_⟩).mono ?_)⟩
              · simp [h1, h2', hlen]
              · intro i x u hx hu
                rw [List.append_assoc, List.getElem?_append] at hx
                rw [Array.append_assoc, Array.getElem?_append] at hu
                by_cases hi : i < first.length
                · rw [if_pos hi] at hx
                  rw [if_pos (by omega)] at hu
                  exact h3 i x u hx hu
                · rw [if_neg hi, List.getElem?_append] at hx
                  rw [if_neg (by omega), Array.getElem?_append] at hu
                  simp only [List.length_map, Array.size_map] at hx hu
                  have hl2 : m.length = args.size := by simpa using hlen
                  by_cases hj : i - first.length < m.length
                  · rw [if_pos hj] at hx
                    rw [if_pos (by omega)] at hu
                    exact hrep (i - first.length) x u hx (by rw [← h1] at hu; simpa using hu)
                  · rw [if_neg hj] at hx
                    rw [if_neg (by omega)] at hu
                    exact h4 (i - first.length - m.length) x u hx (by rw [← h1, ← hl2] at hu; exact hu)
              · rintro en w' (⟨v, x, H', ρ', rfl, hK, g1, g2, g3⟩ | ⟨z, H', ρ', rfl, hK, g1, g3⟩)
                · exact hn _ _ _ _ hK (St.put hmk h2 he hfu g1 g2 g3)
                · exact hp _ _ _ _ _ hK ⟨h2, ρ', g1, fun t ht => (he t ht).nextN g3, hfu.trans g3, hmk.fut g3⟩
          | _ => rw [hfv] at h; exact h.elim
        · cases hl
  · cases hl

theorem rep_v' {M : Nat → Prop} {ρ : Nat → Loc} {k : Nat} {y u : Value} (h : Rep w M ρ k (.v y) u) : u = y := by cases h; rfl
theorem valsA_rep {M : Nat → Prop} {ρ : Nat → Loc} {k : Nat} : ∀ {cs : List AV} {l us : List Value}, valsA cs = some l → cs.length = us.length → (∀ (i : Nat) (x : AV) (u : Value), cs[i]? = some x → us[i]? = some u → Rep w M ρ k x u) → us = l
  | [], l, us, h, hl, _ => by
    simp only [valsA, Option.some.injEq] at h
    subst h
    exact List.length_eq_zero_iff.1 hl.symm
  | .v v :: cs, l, us, h, hl, hr => by
    match us, hl with
    | u :: us, hl =>
      simp only [valsA] at h
      obtain ⟨m, hm, rfl⟩ := opt_map h
      have h1 := rep_v' (hr 0 _ _ rfl rfl)
      have h2 := valsA_rep hm (us := us) (by simpa using hl) fun i x u hx hu => hr (i + 1) x u (by simpa using hx) (by simpa using hu)
      rw [h1, h2]
  | .any :: _, _, _, h, _, _ | .agg _ :: _, _, _, h, _, _ | .tup _ :: _, _, _, h, _, _ | .sl .. :: _, _, _, h, _, _ | .vp .. :: _, _, _, h, _, _ | .fn .. :: _, _, _, h, _, _ | .mp .. :: _, _, _, h, _, _
  | .os .. :: _, _, _, h, _, _ | .ptr .. :: _, _, _, h, _, _ | .pe .. :: _, _, _, h, _, _ | .om .. :: _, _, _, h, _, _ | .nc :: _, _, _, h, _, _ | .bnil _ :: _, _, _, h, _, _ => by cases h
theorem valA_rep {M : Nat → Prop} {ρ : Nat → Loc} {k : Nat} {x : AV} {v u : Value} (h : valA x = some v) (hr : Rep w M ρ k x u) : u = v := by
  cases x with
  | v y => simp only [valA, Option.some.injEq] at h; subst h; exact rep_v' hr
  | agg cs =>
    simp only [valA] at h
    obtain ⟨l, hl, rfl⟩ := opt_map h
    cases hr with
    | agg _ _ us h1 h2 =>
      have := valsA_rep hl (us := us.toList) (by simpa using h1) fun i x u hx hu => h2 i x u hx (by simpa using hu)
      rw [← this]
  | _ => cases h

/-- A panic. -/
theorem pan_step {r : Option Nat} {m0 : Nat} {ops : Array Oper} {o q : Oper} {l : List Oper} {c : LCode} {K : Out → Env → AHeap → Prop} (hl : lowPan P n o q = some c) (h : awp P c e H K) (hst : St B X w0 ρ0 n0 n e H a w) {Q : Exit → Act → World → Prop}
    (hp : ∀ v e' H' a' w', K (.pan v) e' H' → St B X w0 ρ0 n0 n e' H' a' w' → Q (.panic [{ v, recovered := false }]) a' w') : wpListIn (WR r) m0 P ops Q (o :: q :: l) a w := by
  unfold lowPan at hl
  split at hl
  · rename_i t x d args tys ho hg hd hq hqg
    split at hl
    · rename_i x' d' u hx ha hu
      split at hl
      · rename_i hc
        obtain ⟨rfl, hdn, hni⟩ := hc
        simp only [Option.some.injEq] at hl
        subst hl
        simp only [awp] at h
        obtain ⟨v, hv, hK⟩ := h
        obtain ⟨h2, ρ, hrel, he, hfu, hmk⟩ := hst
        have hxv := valA_rep hv (ev_rep he hx)
        unfold wpListIn
        rw [if_pos (wanted_none hg _)]
        refine wpIn_exec (by rw [ho]; intro c' hc; cases hc) ?_
        have hex : (execOp a.eval o).run P w = .ok (.value (.iface t v)) w := by
          unfold execOp
          rw [ho]
          cases u <;> simp [notIface] at hni <;> simp [Instr.makeInterface, run_underlying hu, hxv]
        rw [hex]
        show wpListIn (WR r) m0 P ops Q (q :: l) (a.put o.dst (.iface t v)) w
        unfold wpListIn
        rw [if_pos (wanted_none hqg _)]
        refine wpIn_exec (by rw [hq]; intro c' hc; cases hc) ?_
        have hget : (a.put o.dst (.iface t v)).eval (.tmp d) = .iface t v := by
          rw [hd]
          show (a.put (some d) _).tmps.getD d undef = _
          rw [put_get, if_pos ⟨rfl, by rw [h2]; exact hdn⟩]
        have hex2 : (execOp (a.put o.dst (.iface t v)).eval q).run P w = .halt (.panic (.iface t v)) w := by
          unfold execOp
          rw [hq]
          have h0 : args = #[.tmp d] := by
            cases args with | mk l => simp at ha; rw [ha]
          rw [h0]
          simp [resolve, invoke, builtin, Instr.panic, hget, goPanic]
        rw [hex2]
        have hst' := St.put (B := B) (d := some d) (u := .iface t v) (x := .v (.iface t v)) hmk h2 he hfu hrel (.v _ _) (Fut.refl _ _ _)
        rw [← hd] at hst'
        refine hp _ _ H _ _ hK ?_
        rw [hd] at hst' ⊢
        exact hst'
      · cases hl
    · cases hl
  · cases hl

/-- Operations one behind the other, some of which may end in a panic. -/
theorem opsP_sound {r : Option Nat} {m0 : Nat} {hs : List Hn} {reg : Nat} {ops : Array Oper} {K : Out → Env → AHeap → Prop} {Q : Exit → Act → World → Prop} (hQ : ∀ e' H' a' w', K .normal e' H' → St B X w0 ρ0 n0 n e' H' a' w' → Q .normal a' w')
    (hp : ∀ v e' H' a' w', K (.pan v) e' H' → St B X w0 ρ0 n0 n e' H' a' w' → Q (.panic [{ v, recovered := false }]) a' w') :
    ∀ (l : List Oper) (i : Nat) (lc : LCode) (e : Env) (H : AHeap) (a : Act) (w : World), lowOpsP P n hs reg ops i l = some lc → awp P lc e H K → St B X w0 ρ0 n0 n e H a w → wpListIn (WR r) m0 P ops Q l a w
  | [], i, lc, e, H, a, w, hl, h, hst => by
    unfold lowOpsP at hl
    split at hl
    · rename_i hg
      simp only [Option.some.injEq] at hl
      subst hl
      simp only [awp] at h
      obtain ⟨e', H', h', hst'⟩ := ghosts_sound (presAt hs reg i) (los := []) hg (by simpa using h) hst
      exact hQ _ _ _ _ h' hst'
    · cases hl
  | o :: l, i, lc, e, H, a, w, hl, h, hst => by
    unfold lowOpsP at hl
    split at hl
    · rename_i hg
      split at hl
      · split at hl
        · rename_i c m hc hm
          simp only [Option.some.injEq] at hl
          subst hl
          simp only [awp] at h
          obtain ⟨e', H', h', hst'⟩ := ghosts_sound (presAt hs reg i) (los := []) hg (by simpa using h) hst
          simp only [aops] at h'
          obtain ⟨hw, hx⟩ := cut_step (r := r) (m0 := m0) (ops := ops) (next := wpListIn (WR r) m0 P ops Q l) (Q := Q) hc h' hst' (fun e2 H2 a2 w2 hk hs2 => opsP_sound hQ hp l (i + 1) m e2 H2 a2 w2 hm hk hs2) (fun v e2 H2 a2 w2 hk hs2 => hp v e2 H2 a2 w2 hk hs2)
          unfold wpListIn
          rw [if_pos hw]
          exact hx
        · split at hl
          · rename_i q l' _
            obtain ⟨c, hc, rfl⟩ := opt_map hl
            simp only [awp] at h
            obtain ⟨e', H', h', hst'⟩ := ghosts_sound (presAt hs reg i) (los := []) hg (by simpa using h) hst
            simp only [aops] at h'
            exact pan_step hc h' hst' hp
          · cases hl
      · split at hl
        · rename_i lo m h1 h2
          simp only [Option.some.injEq] at hl
          subst hl
          simp only [awp] at h
          obtain ⟨e', H', h', hst'⟩ := ghosts_sound (presAt hs reg i) hg h hst
          have := op_step (r := r) (m0 := m0) h1 h' hst' (next := wpListIn (WR r) m0 P ops Q l) (Q := Q) fun e'' H'' a'' w'' hK hs'' => opsP_sound hQ hp l (i + 1) m e'' H'' a'' w'' h2 (by simpa only [aops] using hK) hs''
          unfold wpListIn
          exact this
        · cases hl
    · cases hl
end
end Go.Ax

/- Operations whose order is drawn: whatever order, the same values. -/
namespace Go.Ax
open Go Go.RowKit
set_option linter.unusedSimpArgs false
set_option linter.unusedVariables false

section edges
variable {ops : Array Oper}

def stp (acc : Array Nat) (o : Oper) : Nat := o.after.foldl (fun s e => if Region.binds .any e then s ||| 2 ^ e.on ||| acc.getD e.on 0 else s) 0

theorem stp_bits (acc : Array Nat) (i : Nat) : ∀ (l : List Edge) (s : Nat), (l.foldl (fun s e => if Region.binds .any e then s ||| 2 ^ e.on ||| acc.getD e.on 0 else s) s).testBit i = true →
    s.testBit i = true ∨ ∃ e ∈ l, Region.binds .any e = true ∧ (e.on = i ∨ (acc.getD e.on 0).testBit i = true)
  | [], s, h => .inl h
  | e :: l, s, h => by
    simp only [List.foldl_cons] at h
    rcases stp_bits acc i l _ h with h1 | ⟨e', h1, h2⟩
    · split at h1
      · rename_i hb
        rw [Nat.testBit_or, Nat.testBit_or, Nat.testBit_two_pow] at h1
        simp only [Bool.or_eq_true, decide_eq_true_eq] at h1
        rcases h1 with (h1 | h1) | h1
        · exact .inl h1
        · exact .inr ⟨e, by simp, hb, .inl h1⟩
        · exact .inr ⟨e, by simp, hb, .inr h1⟩
      · exact .inl h1
    · exact .inr ⟨e', by simp [h1], h2⟩

theorem fold_spec : ∀ (l : List Oper) (acc : Array Nat),
    (l.foldl (fun acc o => acc.push (stp acc o)) acc).size = acc.size + l.length ∧ (∀ k, k < acc.size → (l.foldl (fun acc o => acc.push (stp acc o)) acc).getD k 0 = acc.getD k 0) ∧
    ∀ k o, l[k]? = some o → ∃ acc' : Array Nat, acc'.size = acc.size + k ∧ (∀ m, m < acc.size + k → acc'.getD m 0 = (l.foldl (fun acc o => acc.push (stp acc o)) acc).getD m 0) ∧ (l.foldl (fun acc o => acc.push (stp acc o)) acc).getD (acc.size + k) 0 = stp acc' o
  | [], acc => ⟨rfl, fun _ _ => rfl, fun k o h => by simp at h⟩
  | x :: l, acc => by
    obtain ⟨h1, h2, h3⟩ := fold_spec l (acc.push (stp acc x))
    simp only [List.foldl_cons, Array.size_push] at h1 h2 h3 ⊢
    have hp : ∀ k, k < acc.size → (acc.push (stp acc x)).getD k 0 = acc.getD k 0 := by
      intro k hk
      simp only [Array.getD_eq_getD_getElem?, Array.getElem?_push]
      rw [if_neg (by omega)]
    refine ⟨by rw [h1]; simp; omega, fun k hk => by rw [h2 k (by omega), hp k hk], fun k o ho => ?_⟩
    cases k with
    | zero =>
      simp at ho
      subst ho
      refine ⟨acc, rfl, fun m hm => by rw [h2 m (by omega), hp m (by omega)], ?_⟩
      rw [Nat.add_zero, h2 _ (by omega)]
      simp [Array.getD_eq_getD_getElem?]
    | succ k =>
      obtain ⟨acc', g1, g2, g3⟩ := h3 k o (by simpa using ho)
      exact ⟨acc', by omega, fun m hm => g2 m (by omega), by rw [show acc.size + (k + 1) = acc.size + 1 + k by omega]; exact g3⟩

theorem before_spec {j : Nat} {oj : Oper} (hj : ops[j]? = some oj) {i : Nat} (h : ((Region.before ops).getD j 0).testBit i = true) :
    ∃ e ∈ oj.after, Region.binds .any e = true ∧ (e.on = i ∨ (e.on < j ∧ ((Region.before ops).getD e.on 0).testBit i = true)) := by
  have hb : Region.before ops = ops.toList.foldl (fun acc o => acc.push (stp acc o)) #[] := by
    unfold Region.before
    rw [← Array.foldl_toList]
    rfl
  obtain ⟨_, _, h3⟩ := fold_spec ops.toList #[]
  obtain ⟨acc', g1, g2, g3⟩ := h3 j oj (by simpa using hj)
  simp only [List.size_toArray, List.length_nil, Nat.zero_add] at g1 g2 g3
  rw [hb] at h ⊢
  rw [g3] at h
  unfold stp at h
  rw [← Array.foldl_toList] at h
  rcases stp_bits acc' i _ _ h with h1 | ⟨e, he, hbd, h1⟩
  · simp at h1
  · refine ⟨e, by simpa using he, hbd, ?_⟩
    rcases h1 with h1 | h1
    · exact .inl h1
    · have hlt : e.on < j := by
        rcases Nat.lt_or_ge e.on acc'.size with h2 | h2
        · omega
        · simp [Array.getD_eq_getD_getElem?, Array.getElem?_eq_none h2] at h1
      rw [g2 _ hlt] at h1
      exact .inr ⟨hlt, h1⟩

/-- What is listed has what it waits for listed. -/
def Closed (ops : Array Oper) (listed : Array Bool) : Prop := ∀ j oj, ops[j]? = some oj → listed.getD j false = true → ∀ e ∈ oj.after, Region.binds .any e = true → listed.getD e.on false = true

theorem closed_before {listed : Array Bool} (hc : Closed ops listed) : ∀ (j : Nat) (oj : Oper) (i : Nat), ops[j]? = some oj → ((Region.before ops).getD j 0).testBit i = true → (∀ e ∈ oj.after, Region.binds .any e = true → listed.getD e.on false = true) → listed.getD i false = true := by
  intro j
  induction j using Nat.strongRecOn with
  | _ j ih =>
    intro oj i hj hb hall
    obtain ⟨e, he, hbd, h1⟩ := before_spec hj hb
    rcases h1 with h1 | ⟨hlt, h1⟩
    · rw [← h1]; exact hall e he hbd
    · have hjlt := (Array.getElem?_eq_some_iff.1 hj).1
      have ho : ops[e.on]? = some ops[e.on] := by simp [show e.on < ops.size by omega]
      exact ih e.on hlt _ i ho h1 (hc _ _ ho (hall e he hbd))

theorem set_get (listed : Array Bool) (i k : Nat) (b : Bool) : (listed.setIfInBounds i true).getD k b = if k = i ∧ i < listed.size then true else listed.getD k b := by
  simp only [Array.getD_eq_getD_getElem?]
  by_cases h : k = i
  · subst h
    by_cases h2 : k < listed.size
    · simp [h2]
    · simp [h2]
  · rw [Array.getElem?_setIfInBounds_ne (fun e => h e.symm), if_neg (fun hh => h hh.1)]

theorem Closed.set {listed : Array Bool} (hc : Closed ops listed) {i : Nat} (hi : i ∈ Region.ready .any ops listed) : Closed ops (listed.setIfInBounds i true) := by
  obtain ⟨_, oi, hoi, hall⟩ := mem_ready.1 hi
  intro j oj hj hl e he hb
  rw [set_get] at hl ⊢
  split
  · rfl
  · split at hl
    · rename_i h1
      obtain ⟨rfl, _⟩ := h1
      have : oj = oi := Option.some.inj (hj.symm.trans hoi)
      subst this
      exact hall e he hb
    · exact hc j oj hj hl e he hb

/-- How many of the first k are not listed. -/
def left (listed : Array Bool) : Nat → Nat
  | 0 => 0
  | k + 1 => left listed k + if listed.getD k true = true then 0 else 1
theorem left_set {listed : Array Bool} {i : Nat} (hi : listed.getD i true = false) : ∀ k, left (listed.setIfInBounds i true) k + (if i < k then 1 else 0) = left listed k
  | 0 => by simp [left]
  | k + 1 => by
    have ih := left_set hi k
    have hil : i < listed.size := by
      rcases Nat.lt_or_ge i listed.size with h | h
      · exact h
      · simp [Array.getElem?_eq_none h] at hi
    simp only [left]
    rw [set_get]
    by_cases hk : k = i
    · subst hk
      rw [if_neg (by omega)] at ih
      have h2 : k < k + 1 := by omega
      have h3 : (if k = k ∧ k < listed.size then true else listed.getD k true) = true := if_pos ⟨rfl, hil⟩
      rw [if_pos h2, if_pos h3, hi, if_neg (by simp)]
      omega
    · have h3 : (if k = i ∧ i < listed.size then true else listed.getD k true) = listed.getD k true := if_neg fun hh => hk hh.1
      rw [h3]
      generalize (if listed.getD k true = true then 0 else 1) = z
      by_cases h2 : i < k
      · rw [if_pos h2] at ih; rw [if_pos (show i < k + 1 by omega)]; omega
      · rw [if_neg h2] at ih; rw [if_neg (show ¬ i < k + 1 by omega)]; omega
theorem left_pos {listed : Array Bool} {i : Nat} (hi : listed.getD i true = false) : ∀ k, i < k → 0 < left listed k
  | 0, h => by omega
  | k + 1, h => by
    simp only [left]
    by_cases hk : i = k
    · subst hk; rw [hi]; simp
    · have := left_pos hi k (by omega); omega

/-- If something is not listed, something is ready. -/
theorem ready_of {listed : Array Bool} (he : edgesOk ops = true) {i : Nat} (hi : i < ops.size) (hun : listed.getD i true = false) (hall : ∀ j, j < i → listed.getD j false = true) : i ∈ Region.ready .any ops listed := by
  refine mem_ready.2 ⟨hun, ops[i], by simp [hi], fun e hee hb => ?_⟩
  unfold edgesOk at he
  have h1 := List.all_eq_true.1 he i (List.mem_range.2 hi)
  simp only [Array.getElem?_eq_getElem hi, Option.map_some, Option.getD_some] at h1
  have h2 := Array.all_eq_true'.1 h1 e hee
  simp only [hb, Bool.not_true, Bool.false_or, decide_eq_true_eq] at h2
  exact hall _ h2
theorem least_un {listed : Array Bool} {n : Nat} (h : ∃ i, i < n ∧ listed.getD i true = false) : ∃ i, i < n ∧ listed.getD i true = false ∧ ∀ j, j < i → listed.getD j true = true := by
  obtain ⟨i, hi, hun⟩ := h
  induction i using Nat.strongRecOn with
  | _ i ih =>
    by_cases hx : ∃ j, j < i ∧ listed.getD j true = false
    · obtain ⟨j, hj, hj2⟩ := hx
      exact ih j hj (by omega) hj2
    · refine ⟨i, hi, hun, fun j hj => ?_⟩
      cases hb : listed.getD j true with
      | true => rfl
      | false => exact absurd ⟨j, hj, hb⟩ hx
end edges

theorem getD_ft {l : Array Bool} {i : Nat} (hi : i < l.size) : l.getD i false = l.getD i true := by
  simp [hi]
theorem left_eq {listed : Array Bool} {h : Nat} : ∀ k, (∀ j, j < k → listed.getD j true = decide (j < h)) → left listed k = k - h
  | 0, _ => by simp [left]
  | k + 1, hh => by
    simp only [left]
    rw [left_eq k fun j hj => hh j (by omega), hh k (by omega)]
    by_cases hk : k < h
    · simp [hk]; omega
    · simp [hk]; omega

section
variable {B : List Deferred} {P : Program} {w w0 : World} {X : Nat → Prop} {ρ ρ0 : Nat → Loc} {H : AHeap} {e : Env} {a : Act} {n n0 : Nat}

/-- A world whose memory and streams are the same. -/
theorem St.still {w' : World} (hst : St B X w0 ρ0 n0 n e H a w) (hs : Same w w') (hh : w'.heap = w.heap) : St B X w0 ρ0 n0 n e H a w' := by
  obtain ⟨h2, ρ, h3, h4, h5, h6⟩ := hst
  obtain ⟨g1, g2⟩ := h3.more hs fun b _ => by rw [hh]
  exact ⟨h2, ρ, g1, fun t ht => (h4 t ht).nextN g2, h5.trans g2, h6.fut g2⟩

/-- The frame: what computes out of values alone does so beside any objects. -/
theorem APure.frame {k : FuncId} {args : List AV} {x : AV} (h : APure P k args x) (hc : clL args = true) (H : AHeap) : ACall P k args H fun y H' => y = x ∧ H' = H := by
  refine ⟨h.1, fun X ρ w vs hrel hargs => ?_⟩
  have hno : ∀ (ρ : Nat → Loc) b, ¬ Own ρ 0 b := fun ρ b ⟨r, o, hr, _⟩ => by omega
  have hm : ∀ (ρ' : Nat → Loc) b, Mut (Mut X ρ H.length) ρ' 0 b ↔ Mut X ρ H.length b := fun ρ' b => ⟨fun hb => hb.elim id fun ho => absurd ho (hno _ _), .inl⟩
  refine (h.2 (Mut X ρ H.length) (fun _ => {}) w vs ⟨?_, ?_, ?_, ?_, fun g hg => ⟨fun ⟨r, o, hr, _⟩ => by simp at hr, (hrel.gl g hg).2⟩⟩ ⟨hargs.1, ?_⟩).mono ?_
  · intro r o hr; simp at hr
  · intro r r' b o b' o' hr; simp at hr
  · intro r b o hr; simp at hr
  · intro b hb
    rcases hb with hb | hb
    · exact hrel.xlt b hb
    · exact hb.lt hrel
  · intro i x u hx hu
    have h1 := ((hargs.2 i x u hx hu).of_cl (clL_all hc hx)).closed rfl (fun _ => {}) 0
    exact h1.fut (n0 := 0) (Fut.refl _ _ _) (fun b _ hb hb' => hb ((hm _ b).1 hb')) (fun b _ => hno _ b) (Nat.le_refl _)
  · rintro en w' ⟨v, y, H', ρ', rfl, ⟨rfl, rfl⟩, g1, g2, g3⟩
    have hkeep : ∀ b, b < w.heap.size → w'.heap[b]? = w.heap[b]? := fun b hb => g3.keep b hb (hno _ b)
    obtain ⟨f1, f2⟩ := hrel.more ⟨g3.os, g3.tape, g3.output, g3.size⟩ hkeep
    refine ⟨v, y, H, ρ, rfl, ⟨rfl, rfl⟩, f1, ?_, f2⟩
    have h1 : Rep w' (Mut X ρ H.length) ρ' 0 y v := g2.fut (n0 := 0) (Fut.refl _ _ _) (fun b _ hb hb' => hb ((hm _ b).2 hb')) (fun b _ => hno _ b) (Nat.le_refl _)
    exact h1.closed rfl ρ H.length

theorem aop_mono {op : LOp} {K K' : AV → AHeap → Prop} (h : aop P op e H K) (hK : ∀ x H', K x H' → K' x H') : aop P op e H K' := by
  cases op <;> simp only [aop] at h ⊢ <;> first | exact ⟨h.1, hK _ _ h.2⟩ | exact ⟨h.1, fun b hb => hK _ _ (h.2 b hb)⟩ | skip
  case call f args =>
    unfold acall at h ⊢
    split at h
    · exact ACall.mono h hK
    · exact AYield.mono h hK
    · exact h.elim
  case pick c a b =>
    split at h
    · split at h
      · rename_i hb; rw [if_pos hb]; exact hK _ _ h
      · rename_i hb; rw [if_neg hb]; exact hK _ _ h
    · exact h.elim

theorem aop_of_aopq {op : LOp} {x : AV} (h : aopq P op e H fun y => y = x) : aop P op e H fun y H' => y = x ∧ H' = H := by
  cases op <;> simp only [aopq, aop] at h ⊢ <;> first | exact ⟨h.1, h.2.2, h.2.1⟩ | exact h.elim | skip
  case call f args =>
    split at h
    · rename_i k first caps hf
      obtain ⟨y, h1, h2, rfl⟩ := h
      rw [hf]
      exact h1.frame h2 H
    · exact h.elim
  case pick c a b =>
    split at h
    · split at h
      · rename_i hb; rw [if_pos hb]; exact ⟨h, trivial⟩
      · rename_i hb; rw [if_neg hb]; exact ⟨h, trivial⟩
    · exact h.elim

theorem aopq_ex {op : LOp} {K : AV → Prop} (h : aopq P op e H K) : ∃ x, K x ∧ aopq P op e H fun y => y = x := by
  cases op <;> simp only [aopq] at h ⊢ <;> first | exact ⟨_, h.2.2, h.1, h.2.1, rfl⟩ | exact h.elim | skip
  case call f args =>
    split at h
    · obtain ⟨y, h1, h2, h3⟩ := h
      exact ⟨y, h3, y, h1, h2, rfl⟩
    · exact h.elim
  case pick c a b =>
    split at h
    · split at h
      · rename_i hb; exact ⟨_, h, by rw [if_pos hb]⟩
      · rename_i hb; exact ⟨_, h, by rw [if_neg hb]⟩
    · exact h.elim

theorem ev_congr {e e' : Env} {x : LX} (h : ∀ t ∈ x.rd, e t = e' t) : ev e x = ev e' x := by
  cases x with
  | t n => exact h n (by simp [LX.rd])
  | c _ => rfl
theorem evL_congr {e e' : Env} {l : List LX} (h : ∀ t ∈ rdL l, e t = e' t) : l.map (ev e) = l.map (ev e') :=
  List.map_congr_left fun x hx => ev_congr fun t ht => h t (List.mem_flatMap.2 ⟨x, hx, ht⟩)
theorem evO_congr {e e' : Env} {l : Option LX} (h : ∀ t ∈ rdO l, e t = e' t) : l.map (ev e) = l.map (ev e') := by
  cases l with
  | none => rfl
  | some x => exact congrArg some (ev_congr h)

theorem ares_congr {op : LOp} {e e' : Env} (h : ∀ t ∈ op.rd, e t = e' t) : ares op e H = ares op e' H := by
  cases op <;> simp only [LOp.rd, List.mem_append] at h <;> simp only [ares] <;> first | rfl | (rw [ev_congr h]; done) | (rw [ev_congr fun t ht => h t (.inl ht), ev_congr fun t ht => h t (.inr ht)]; done) | skip
  case build zs ps =>
    congr 1
    exact List.map_congr_left fun p hp => by rw [ev_congr fun t ht => h t (List.mem_flatMap.2 ⟨p, hp, ht⟩)]
  case bsl imm sz len zs ps =>
    congr 1
    exact List.map_congr_left fun p hp => by rw [ev_congr fun t ht => h t (List.mem_flatMap.2 ⟨p, hp, ht⟩)]
  case ins kd m k x => rw [ev_congr fun t ht => h t (.inl (.inl ht)), ev_congr fun t ht => h t (.inl (.inr ht)), ev_congr fun t ht => h t (.inr ht)]
  case mkfn f a b => rw [evL_congr fun t ht => h t (.inl ht), evL_congr fun t ht => h t (.inr ht)]
  case slicev lk k x lo hi => rw [ev_congr fun t ht => h t (.inl (.inl ht)), evO_congr fun t ht => h t (.inl (.inr ht)), evO_congr fun t ht => h t (.inr ht)]
  case slice lk k x lo hi => rw [ev_congr fun t ht => h t (.inl (.inl ht)), evO_congr fun t ht => h t (.inl (.inr ht)), evO_congr fun t ht => h t (.inr ht)]

theorem aopq_congr {op : LOp} {e e' : Env} {K : AV → Prop} (h : ∀ t ∈ op.rd, e t = e' t) (hk : aopq P op e H K) : aopq P op e' H K := by
  have ha := ares_congr (H := H) h
  cases op <;> simp only [aopq] at hk ⊢ <;> first | (rw [← ha]; exact hk) | exact hk | skip
  case call f args =>
    simp only [LOp.rd, List.mem_append] at h
    rw [← ev_congr fun t ht => h t (.inl ht), ← evL_congr fun t ht => h t (.inr ht)]
    exact hk
  case pick c a b =>
    simp only [LOp.rd, List.mem_append] at h
    rw [← ev_congr fun t ht => h t (.inl (.inl ht)), ← ev_congr fun t ht => h t (.inl (.inr ht)), ← ev_congr fun t ht => h t (.inr ht)]
    exact hk

/-- One operation of a drawn region comes to x. -/
def stepQ (P : Program) (o : LO) (e : Env) (H : AHeap) (x : AV) : Prop :=
  (wantA o.g e = some true ∧ aopq P o.op e H fun y => y = x) ∨ (wantA o.g e = some false ∧ x = undefA)

theorem wantA_congr {g : Option (Nat × Bool)} {e e' : Env} (h : ∀ t want, g = some (t, want) → e t = e' t) : wantA g e = wantA g e' := by
  cases g with
  | none => rfl
  | some p =>
    obtain ⟨t, want⟩ := p
    simp only [wantA]
    rw [h t want rfl]

theorem stepQ_congr {o : LO} {e e' : Env} {x : AV} (h : ∀ t ∈ o.rd, e t = e' t) (hk : stepQ P o e H x) : stepQ P o e' H x := by
  have hg : wantA o.g e = wantA o.g e' := wantA_congr fun t want hg => h t (by simp [LO.rd, hg])
  rcases hk with ⟨h1, h2⟩ | ⟨h1, h2⟩
  · exact .inl ⟨by rw [← hg]; exact h1, aopq_congr (fun t ht => h t (by simp [LO.rd, ht])) h2⟩
  · exact .inr ⟨by rw [← hg]; exact h1, h2⟩

theorem aops_of {o : LO} {l : List LO} {K : Env → AHeap → Prop} (h : (wantA o.g e = some true ∧ aop P o.op e H fun x H' => aops P l (ups e o.d x) H' K) ∨ (wantA o.g e = some false ∧ aops P l (ups e o.d undefA) H K)) : aops P (o :: l) e H K := by
  simp only [aops]
  cases hg : o.g with
  | none =>
    rw [hg] at h
    rcases h with h | h
    · exact h.2
    · simp [wantA] at h
  | some tw =>
    obtain ⟨t, want⟩ := tw
    rw [hg] at h
    simp only [wantA] at h
    cases het : e t with
    | v x =>
      rw [het] at h
      cases x <;> simp only [Option.some.injEq, reduceCtorEq, false_and, or_self, Bool.false_eq_true, false_or, true_and] at h ⊢ <;> first | exact h | skip
      case bool b =>
        have hu : up e t (bool b) = e := up_eq het
        cases b <;> cases want <;> simp [hu, het] at h ⊢ <;> exact h
      case tuple us => rw [het]; exact h
    | _ => rw [het] at h; simp at h

theorem aopsq_cons {o : LO} {l : List LO} {K : Env → Prop} (h : aopsq P (o :: l) e H K) : ∃ x, stepQ P o e H x ∧ aopsq P l (ups e o.d x) H K := by
  have fin : (wantA o.g e = some true ∧ aopq P o.op e H fun x => aopsq P l (ups e o.d x) H K) ∨ (wantA o.g e = some false ∧ aopsq P l (ups e o.d undefA) H K) := by
    simp only [aopsq] at h
    cases hg : o.g with
    | none => rw [hg] at h; exact .inl ⟨rfl, h⟩
    | some tw =>
      obtain ⟨t, want⟩ := tw
      rw [hg] at h
      simp only at h
      cases het : e t with
      | v x =>
        rw [het] at h
        cases x <;> simp only at h <;> first | exact h.elim | skip
        case bool b =>
          have hu : up e t (bool b) = e := up_eq het
          cases b <;> cases want <;> simp only [hu, if_true, Bool.false_eq_true, if_false, wantA, het] at h ⊢ <;> first | exact .inl ⟨rfl, h⟩ | exact .inr ⟨rfl, h⟩
        case tuple us => exact .inr ⟨by simp [wantA, het], h⟩
      | _ => rw [het] at h; exact h.elim
  rcases fin with ⟨h1, h2⟩ | ⟨h1, h2⟩
  · obtain ⟨x, h3, h4⟩ := aopq_ex h2
    exact ⟨x, .inl ⟨h1, h4⟩, h3⟩
  · exact ⟨_, .inr ⟨h1, rfl⟩, h2⟩

/-- The slots after those of the first k operations that D says. -/
def ED (hd : List LO) (xs : Nat → AV) (e : Env) (D : Nat → Bool) : Nat → Env
  | 0 => e
  | k + 1 => if D k = true then ups (ED hd xs e D k) (hd.getD k default).d (xs k) else ED hd xs e D k

theorem ups_ne {d : Option Nat} {x : AV} {t : Nat} (h : d ≠ some t) : ups e d x t = e t := by
  cases d with
  | none => rfl
  | some d => simp only [ups, up]; rw [if_neg fun hh => h (by rw [hh])]
theorem ups_eq {x : AV} {t : Nat} : ups e (some t) x t = x := by simp [ups, up]

variable {hd : List LO} {xs : Nat → AV}

theorem ED_congr {D D' : Nat → Bool} {t : Nat} : ∀ k, (∀ j, j < k → (hd.getD j default).d = some t → D j = D' j) → ED hd xs e D k t = ED hd xs e D' k t
  | 0, _ => rfl
  | k + 1, h => by
    have ih := ED_congr k fun j hj => h j (by omega)
    simp only [ED]
    by_cases hd' : (hd.getD k default).d = some t
    · rw [h k (by omega) hd', hd']
      split
      · rw [ups_eq, ups_eq]
      · exact ih
    · split <;> split <;> simp only [ups_ne hd', ih]
theorem ED_skip {D : Nat → Bool} {t i : Nat} : ∀ k, i ≤ k → (∀ j, i ≤ j → j < k → (hd.getD j default).d = some t → D j = false) → ED hd xs e D k t = ED hd xs e D i t
  | 0, hk, _ => by rw [show i = 0 by omega]
  | k + 1, hk, h => by
    by_cases hik : i = k + 1
    · rw [hik]
    · rw [← ED_skip k (by omega) fun j h1 h2 => h j h1 (by omega)]
      simp only [ED]
      by_cases hd' : (hd.getD k default).d = some t
      · rw [h k (by omega) (by omega) hd']; simp
      · split
        · exact ups_ne hd'
        · rfl

theorem ED_shift {o : LO} {l : List LO} {x : AV} {xs : Nat → AV} : ∀ i, ED (o :: l) (fun i => match i with | 0 => x | i + 1 => xs i) e (fun _ => true) (i + 1) = ED l xs (ups e o.d x) (fun _ => true) i
  | 0 => by simp [ED]
  | i + 1 => by
    have ih := ED_shift (o := o) (l := l) (x := x) (xs := xs) i
    rw [ED, ih]
    simp [ED]

theorem aopsq_chain : ∀ (hd : List LO) {e : Env} {K : Env → Prop}, aopsq P hd e H K → ∃ xs : Nat → AV, K (ED hd xs e (fun _ => true) hd.length) ∧ ∀ i, i < hd.length → stepQ P (hd.getD i default) (ED hd xs e (fun _ => true) i) H (xs i)
  | [], e, K, h => ⟨fun _ => .any, h, fun i hi => by simp at hi⟩
  | o :: l, e, K, h => by
    obtain ⟨x, h1, h2⟩ := aopsq_cons h
    obtain ⟨xs, h3, h4⟩ := aopsq_chain l h2
    refine ⟨fun i => match i with | 0 => x | i + 1 => xs i, ?_, fun i hi => ?_⟩
    · rw [List.length_cons, ED_shift]; exact h3
    · cases i with
      | zero => exact h1
      | succ i =>
        rw [ED_shift]
        exact h4 i (by simpa using hi)

theorem memO_some {t : Nat} {l : List Nat} (h : memO (some t) l = false) : t ∉ l := by simpa [memO] using h

theorem lowHd_get {hs : List Hn} {reg : Nat} {ops : Array Oper} : ∀ (l : List Oper) (i : Nat) (hd : List LO), lowHd P n hs reg ops i l = some hd → hd.length = l.length ∧ ∀ k o, l[k]? = some o → ∃ imm, lowOne P n imm ops o = some (hd.getD k default)
  | [], i, hd, h => by
    simp only [lowHd, Option.some.injEq] at h
    subst h
    exact ⟨rfl, fun k o h => by simp at h⟩
  | o :: l, i, hd, h => by
    unfold lowHd at h
    cases h1 : lowOne P n (hasImm hs reg i) ops o with
    | none => simp [h1] at h
    | some lo =>
      cases h2 : lowHd P n hs reg ops (i + 1) l with
      | none => simp [h1, h2] at h
      | some m =>
        simp only [h1, h2, Option.some.injEq] at h
        subst h
        obtain ⟨g1, g2⟩ := lowHd_get l (i + 1) m h2
        refine ⟨by simp [g1], fun k o' hk => ?_⟩
        cases k with
        | zero => simp at hk; subst hk; exact ⟨_, h1⟩
        | succ k => simpa using g2 k o' (by simpa using hk)

variable {ops : Array Oper}

theorem drawOk_get {hdl : List LO} {h : Nat} (hd : drawOk ops hdl h = true) {i j : Nat} (hj : j < ops.size) (hi : i < j) :
    ((Region.before ops).getD j 0).testBit i = true ∨ (j < h ∧ confl (hdl.getD i default) (hdl.getD j default) = false) := by
  unfold drawOk at hd
  have h1 := List.all_eq_true.1 hd j (List.mem_range.2 hj)
  have h2 := List.all_eq_true.1 h1 i (List.mem_range.2 hi)
  simp only [Bool.or_eq_true, Bool.and_eq_true, decide_eq_true_eq, Bool.not_eq_true'] at h2
  exact h2

theorem tail_sound {r : Option Nat} {m0 : Nat} {hs : List Hn} {reg h : Nat} {K : Env → AHeap → Prop} {Q : Exit → Act → World → Prop} (hE : edgesOk ops = true) (hT : ∀ i j, h ≤ i → i < j → j < ops.size → ((Region.before ops).getD j 0).testBit i = true)
    (hQ : ∀ e' H' a' w', K e' H' → St B X w0 ρ0 n0 n e' H' a' w' → Q .normal a' w') :
    ∀ (fuel k : Nat) (los : List LO) (e : Env) (H : AHeap) (a : Act) (w : World) (listed : Array Bool), h ≤ k → fuel + k = ops.size → listed.size = ops.size → (∀ j, j < ops.size → listed.getD j true = decide (j < k)) → Closed ops listed →
      lowOps P n hs reg ops k (ops.toList.drop k) = some los → aops P los e H K → St B X w0 ρ0 n0 n e H a w → wpAnyIn (WR r) m0 P .any ops Q fuel listed a w
  | 0, k, los, e, H, a, w, listed, hk, hf, hsz, hl, hc, hlo, h, hst => by
    rw [List.drop_eq_nil_of_le (by simp; omega)] at hlo
    unfold lowOps at hlo
    split at hlo
    · rename_i hg
      simp only [Option.some.injEq] at hlo
      subst hlo
      obtain ⟨e', H', h', hst'⟩ := ghosts_sound (presAt hs reg k) (los := []) hg (by simpa using h) hst
      refine ⟨List.eq_nil_iff_forall_not_mem.2 fun i hi => ?_, hQ _ _ _ _ h' hst'⟩
      obtain ⟨h1, o, h2, _⟩ := mem_ready.1 hi
      have h3 := (Array.getElem?_eq_some_iff.1 h2).1
      rw [hl i h3] at h1
      simp at h1
      omega
    · cases hlo
  | fuel + 1, k, los, e, H, a, w, listed, hk, hf, hsz, hl, hc, hlo, h, hst => by
    have hks : k < ops.size := by omega
    rw [List.drop_eq_getElem_cons (by simpa using hks)] at hlo
    have hop : ops[k]? = some (ops.toList[k]'(by simpa using hks)) := by simp [hks]
    generalize ops.toList[k]'(by simpa using hks) = o at hlo hop
    unfold lowOps at hlo
    cases h1 : lowOne P n (hasImm hs reg k) ops o with
    | none => simp [h1] at hlo
    | some lo =>
      cases h2 : lowOps P n hs reg ops (k + 1) (ops.toList.drop (k + 1)) with
      | none => simp [h1, h2] at hlo
      | some m =>
        simp only [h1, h2] at hlo
        split at hlo
        · rename_i hg
          simp only [Option.some.injEq] at hlo
          subst hlo
          obtain ⟨e', H', h', hst'⟩ := ghosts_sound (presAt hs reg k) hg h hst
          have hkr : k ∈ Region.ready .any ops listed := ready_of hE hks (by rw [hl k hks]; simp) fun j hj => by rw [getD_ft (by omega), hl j (by omega)]; simpa using hj
          refine ⟨fun h0 => by rw [h0] at hkr; simp at hkr, fun i hi => ?_⟩
          have hik : i = k := by
            obtain ⟨g1, oi, g2, g3⟩ := mem_ready.1 hi
            have g4 := (Array.getElem?_eq_some_iff.1 g2).1
            rw [hl i g4] at g1
            simp only [decide_eq_false_iff_not, Nat.not_lt] at g1
            rcases Nat.lt_or_ge k i with g5 | g5
            · have := closed_before hc i oi k g2 (hT k i hk g5 g4) g3
              rw [getD_ft (by omega), hl k hks] at this
              simp at this
            · omega
          subst hik
          have hnx := op_step (r := r) (m0 := m0) h1 h' hst' (next := wpAnyIn (WR r) m0 P .any ops Q fuel (listed.setIfInBounds i true)) (Q := Q) fun e'' H'' a'' w'' hK hs'' =>
            tail_sound hE hT hQ fuel (i + 1) m e'' H'' a'' w'' (listed.setIfInBounds i true) (by omega) (by omega) (by simpa using hsz) (fun j hj => by
              rw [set_get]
              by_cases hji : j = i
              · rw [if_pos ⟨hji, by omega⟩]; simp; omega
              · rw [if_neg fun hh => hji hh.1, hl j hj]
                have : (j < i) = (j < i + 1) := by simp; omega
                simp only [this]) (hc.set hi) h2 hK hs''
          unfold wpOpIn
          rw [hop]
          simp only
          exact hnx
        · cases hlo

theorem conflF {a b : LO} (h : confl a b = false) : (∀ t, a.d = some t → t ∉ b.rd) ∧ (∀ t, b.d = some t → t ∉ a.rd) ∧ ∀ t, a.d = some t → b.d ≠ some t := by
  simp only [confl, Bool.or_eq_false_iff] at h
  refine ⟨fun t ht => memO_some (by rw [← ht]; exact h.1.1), fun t ht => memO_some (by rw [← ht]; exact h.1.2), fun t ht ht' => ?_⟩
  have := h.2
  rw [ht, ht'] at this
  simp at this

theorem drawOk_tail {hdl : List LO} {h : Nat} (hd : drawOk ops hdl h = true) : ∀ i j, h ≤ i → i < j → j < ops.size → ((Region.before ops).getD j 0).testBit i = true := fun i j h1 h2 h3 => by
  rcases drawOk_get hd h3 h2 with g | g
  · exact g
  · omega

theorem head_sound {r : Option Nat} {m0 : Nat} {hs : List Hn} {reg h : Nat} {tl : List LO} {K : Env → AHeap → Prop} {Q : Exit → Act → World → Prop} (hE : edgesOk ops = true) (hD : drawOk ops hd h = true) (hh : h ≤ ops.size)
    (hlen : hd.length = h) (hget : ∀ k o, k < h → ops[k]? = some o → ∃ imm, lowOne P n imm ops o = some (hd.getD k default)) (hx : ∀ i, i < h → stepQ P (hd.getD i default) (ED hd xs e (fun _ => true) i) H (xs i))
    (htl : lowOps P n hs reg ops h (ops.toList.drop h) = some tl) (hK : aops P tl (ED hd xs e (fun _ => true) h) H K)
    (hQ : ∀ e' H' a' w', K e' H' → St B X w0 ρ0 n0 n e' H' a' w' → Q .normal a' w') :
    ∀ (fuel : Nat) (a : Act) (w : World) (listed : Array Bool), fuel = left listed ops.size → listed.size = ops.size → (∀ j, h ≤ j → j < ops.size → listed.getD j true = false) → Closed ops listed →
      St B X w0 ρ0 n0 n (ED hd xs e (fun j => listed.getD j false) h) H a w → wpAnyIn (WR r) m0 P .any ops Q fuel listed a w := by
  intro fuel
  induction fuel with
  | zero =>
    intro a w listed hf hsz ht hc hst
    have hall : ∀ j, j < ops.size → listed.getD j true = decide (j < h) := by
      intro j hj
      by_cases hjh : j < h
      · cases hb : listed.getD j true with
        | true => simp [hjh]
        | false => have := left_pos hb ops.size hj; omega
      · rw [ht j (by omega) hj]; simp [hjh]
    have hE' : ED hd xs e (fun j => listed.getD j false) h = ED hd xs e (fun _ => true) h := by
      funext t
      exact ED_congr h fun j hj _ => by rw [getD_ft (by omega), hall j (by omega)]; simpa using hj
    rw [hE'] at hst
    have h0 := left_eq ops.size hall
    exact tail_sound hE (drawOk_tail hD) hQ 0 h tl _ H a w listed (Nat.le_refl _) (by omega) hsz hall hc htl hK hst
  | succ fuel ih =>
    intro a w listed hf hsz ht hc hst
    by_cases hfull : ∀ j, j < h → listed.getD j true = true
    · have hall : ∀ j, j < ops.size → listed.getD j true = decide (j < h) := by
        intro j hj
        by_cases hjh : j < h
        · rw [hfull j hjh]; simp [hjh]
        · rw [ht j (by omega) hj]; simp [hjh]
      have hE' : ED hd xs e (fun j => listed.getD j false) h = ED hd xs e (fun _ => true) h := by
        funext t
        exact ED_congr h fun j hj _ => by rw [getD_ft (by omega), hall j (by omega)]; simpa using hj
      rw [hE'] at hst
      have h0 := left_eq ops.size hall
      exact tail_sound hE (drawOk_tail hD) hQ (fuel + 1) h tl _ H a w listed (Nat.le_refl _) (by omega) hsz hall hc htl hK hst
    · have hun : ∃ i, i < h ∧ listed.getD i true = false := by
        refine Classical.byContradiction fun hno => hfull fun j hj => ?_
        cases hb : listed.getD j true with
        | true => rfl
        | false => exact absurd ⟨j, hj, hb⟩ hno
      obtain ⟨i0, hi0, hi0u, hi0l⟩ := least_un hun
      have hr0 : i0 ∈ Region.ready .any ops listed := ready_of hE (by omega) hi0u fun j hj => by rw [getD_ft (by omega)]; exact hi0l j hj
      refine ⟨fun h0 => by rw [h0] at hr0; simp at hr0, fun i hi => ?_⟩
      obtain ⟨hiu, oi, hoi, hiall⟩ := mem_ready.1 hi
      have his : i < ops.size := (Array.getElem?_eq_some_iff.1 hoi).1
      have hih : i < h := by
        refine Classical.byContradiction fun hge => ?_
        rcases drawOk_get hD (i := i0) his (by omega) with g6 | g6
        · have := closed_before hc i oi i0 hoi g6 hiall
          rw [getD_ft (by omega), hi0u] at this
          cases this
        · omega
      have hidf : listed.getD i false = false := by rw [getD_ft (by omega)]; exact hiu
      -- what comes before it in the text and meets it, is listed; what comes behind it, is not
      have hbef : ∀ j, j < i → confl (hd.getD j default) (hd.getD i default) = true → listed.getD j false = true := by
        intro j hj hcf
        rcases drawOk_get hD his hj with g6 | g6
        · exact closed_before hc i oi j hoi g6 hiall
        · rw [g6.2] at hcf; cases hcf
      have hbeh : ∀ j, i < j → j < h → confl (hd.getD i default) (hd.getD j default) = true → listed.getD j false = false := by
        intro j hj hjh hcf
        rcases drawOk_get hD (show j < ops.size by omega) hj with g6 | g6
        · cases hb : listed.getD j false with
          | false => rfl
          | true =>
            obtain ⟨oj, hoj⟩ : ∃ oj, ops[j]? = some oj := ⟨ops[j]'(by omega), by simp [show j < ops.size by omega]⟩
            have := closed_before hc j oj i hoj g6 (hc j oj hoj hb)
            rw [hidf] at this
            cases this
        · rw [g6.2] at hcf; cases hcf
      have hcf1 : ∀ a b : LO, ∀ t, a.d = some t → t ∈ b.rd → confl a b = true := by
        intro a b t h1 h2
        cases hb : confl a b with
        | true => rfl
        | false => exact absurd h2 ((conflF hb).1 t h1)
      have hcf2 : ∀ a b : LO, ∀ t, b.d = some t → t ∈ a.rd → confl a b = true := by
        intro a b t h1 h2
        cases hb : confl a b with
        | true => rfl
        | false => exact absurd h2 ((conflF hb).2.1 t h1)
      have hcf3 : ∀ a b : LO, ∀ t, a.d = some t → b.d = some t → confl a b = true := by
        intro a b t h1 h2
        cases hb : confl a b with
        | true => rfl
        | false => exact absurd h2 ((conflF hb).2.2 t h1)
      have hA : ∀ t ∈ (hd.getD i default).rd, ED hd xs e (fun _ => true) i t = ED hd xs e (fun j => listed.getD j false) h t := by
        intro t htr
        rw [ED_skip (i := i) h (by omega) fun j h1 h2 h3 => by
          by_cases hji : j = i
          · rw [hji]; exact hidf
          · exact hbeh j (by omega) h2 (hcf2 _ _ t h3 htr)]
        exact ED_congr i fun j h1 h2 => (hbef j h1 (hcf1 _ _ t h2 htr)).symm
      have hB : ups (ED hd xs e (fun j => listed.getD j false) h) (hd.getD i default).d (xs i) = ED hd xs e (fun j => (listed.setIfInBounds i true).getD j false) h := by
        funext t
        by_cases hdt : (hd.getD i default).d = some t
        · rw [ED_skip (i := i + 1) h (by omega) fun j h1 h2 h3 => by
            rw [set_get, if_neg (by omega)]
            exact hbeh j (by omega) h2 (hcf3 _ _ t hdt h3)]
          rw [hdt, ups_eq]
          have hset : (listed.setIfInBounds i true).getD i false = true := by rw [set_get, if_pos ⟨rfl, by omega⟩]
          simp only [ED]
          rw [if_pos hset, hdt, ups_eq]
        · rw [ups_ne hdt]
          exact ED_congr h fun j h1 h2 => by
            rw [set_get, if_neg]
            rintro ⟨rfl, _⟩
            exact hdt h2
      have hstep := stepQ_congr hA (hx i hih)
      obtain ⟨imm, hlow⟩ := hget i oi hih hoi
      have hone : aops P [hd.getD i default] (ED hd xs e (fun j => listed.getD j false) h) H fun e' H' => e' = ED hd xs e (fun j => (listed.setIfInBounds i true).getD j false) h ∧ H' = H := by
        refine aops_of ?_
        rcases hstep with ⟨g1, g2⟩ | ⟨g1, g2⟩
        · refine .inl ⟨g1, ?_⟩
          have := aop_of_aopq g2
          simp only [aops]
          refine aop_mono this ?_
          rintro y H' ⟨rfl, rfl⟩
          exact ⟨hB, rfl⟩
        · refine .inr ⟨g1, ?_⟩
          rw [← g2]
          exact ⟨hB, rfl⟩
      have hnx := op_step (r := r) (m0 := m0) hlow hone hst (next := wpAnyIn (WR r) m0 P .any ops Q fuel (listed.setIfInBounds i true)) (Q := Q) fun e'' H'' a'' w'' hK'' hs'' => by
        obtain ⟨rfl, rfl⟩ := hK''
        refine ih a'' w'' _ ?_ (by simpa using hsz) (fun j h1 h2 => by rw [set_get, if_neg (by omega)]; exact ht j h1 h2) (hc.set hi) hs''
        have := left_set hiu ops.size
        rw [if_pos his] at this
        omega
      unfold wpOpIn
      rw [hoi]
      simp only
      exact hnx

theorem draw_sound {r : Option Nat} {m0 : Nat} {hs : List Hn} {id h : Nat} {tl : List LO} {K : Env → AHeap → Prop} {Q : Exit → Act → World → Prop} (hhd : lowHd P n hs id ops 0 (ops.toList.take h) = some hd) (htl : lowOps P n hs id ops h (ops.toList.drop h) = some tl)
    (hD : drawOk ops hd h = true) (hE : edgesOk ops = true) (hm : P.follows .mixedOrders = true) (hh : h ≤ ops.size) (hK : aopsq P hd e H fun e' => aops P tl e' H K) (hst : St B X w0 ρ0 n0 n e H a w)
    (hQ : ∀ e' H' a' w', K e' H' → St B X w0 ρ0 n0 n e' H' a' w' → Q .normal a' w') : wpAnyIn (WR r) m0 P .any ops Q ops.size (Array.replicate ops.size false) a { w with drawn := w.drawn + 1 } := by
  obtain ⟨g1, g2⟩ := lowHd_get _ _ _ hhd
  have hlen : hd.length = h := by rw [g1]; simp; omega
  obtain ⟨xs, g3, g4⟩ := aopsq_chain hd hK
  rw [hlen] at g3 g4
  have h0 : ∀ j, (Array.replicate ops.size false).getD j false = false := fun j => getD_replicate_false _ _
  have h1 : ∀ j, j < ops.size → (Array.replicate ops.size false).getD j true = false := fun j hj => by rw [← getD_ft (by simpa using hj)]; exact h0 j
  refine head_sound hE hD hh hlen (fun k o hk ho => g2 k o ?_) g4 htl g3 hQ ops.size a _ _ ?_ (by simp) (fun j _ hj => h1 j hj) ?_ ?_
  · rw [List.getElem?_take, if_pos hk]; simpa using ho
  · have := left_eq (listed := Array.replicate ops.size false) (h := 0) ops.size fun j hj => by rw [h1 j hj]; simp
    omega
  · intro j oj hj hl
    rw [h0 j] at hl
    cases hl
  · have : ED hd xs e (fun j => (Array.replicate ops.size false).getD j false) h = e := by
      funext t
      rw [ED_skip (i := 0) h (Nat.zero_le _) fun j _ _ _ => h0 j]
      rfl
    rw [this]
    exact hst.still ⟨rfl, rfl, rfl, Nat.le_refl _⟩ rfl
end
end Go.Ax
