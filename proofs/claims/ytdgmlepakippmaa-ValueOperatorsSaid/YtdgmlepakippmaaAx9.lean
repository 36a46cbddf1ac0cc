/- That an operation does what is said of it: fields, elements, slices, look-ups, conversions. -/
import Derived.Test.YtdgmlepakippmaaAx8
namespace Go.Ax
open Go Go.RowKit

section
variable {P : Program} {w : World} {X : Nat → Prop} {ρ : Nat → Loc} {H : AHeap}

theorem snd_faddr {s : TypeId} {fs : Array Field} {f n : Nat} {fd : Field} {p : AV} {u : Value} (hs : P.underlying s = some (.struct fs)) (hf : fs[f]? = some fd) (hn : tySz P fd.type = some n) (hn0 : n ≠ 0)
    (h : HRel w X ρ H) (hp : Rp w X ρ H p u) : Gives P (Instr.fieldAt s u f) w X ρ H (rFaddr fd.offset p H) := by
  have key : ∀ b o : Nat, (Instr.fieldAt s (.pointer (some ⟨b, o, none⟩)) f).run P w = .ok (.pointer (some ⟨b, o + fd.offset, none⟩)) w := by
    intro b o
    simp [Instr.fieldAt, run_underlying hs, hf, Instr.sureAddr, fieldPlace, tySz_run hn, hn0, Addr.add_lit]
  cases p with
  | vp cs off =>
    refine gives_pure h fun _ => ?_
    cases hp with
    | vp _ _ _ b o c hm hb hcell hrep =>
      refine ⟨_, key _ _, ?_⟩
      rw [Nat.add_assoc]
      exact .vp _ _ _ _ _ c hm hb hcell hrep
  | ptr r ver off =>
    refine gives_pure h fun ⟨hb, hv⟩ => ?_
    obtain ⟨cs, ho⟩ := isBox_some hb
    rw [ho] at hv
    obtain ⟨hr, b, c, e, fr, hblk, rfl, hh, hl, hfr, hver, hrep⟩ := ptr_box h hp ho hv
    refine ⟨_, key _ _, ?_⟩
    simp only [isVer] at hv
    exact .ptr _ _ _ _ _ hr (by omega) rfl fun _ => ⟨b, 0, hblk, by simp⟩
  | pe r ver i off =>
    refine gives_pure h fun ⟨hb, hv⟩ => ?_
    obtain ⟨v, sz, xs, ho⟩ := isArr_some hb
    rw [ho] at hv
    simp only [isVer] at hv
    obtain ⟨h1, h2, h3, h4, h5, h6⟩ := h.objs r _ ho
    cases hp with
    | pe _ _ _ _ _ _ hr hle hone hpt =>
      obtain ⟨b, o, hblk, rfl⟩ := hpt (by omega)
      refine ⟨_, key _ _, ?_⟩
      exact .pe _ _ _ _ _ _ hr (by omega) rfl fun _ => ⟨b, o, hblk, by rw [Nat.add_assoc, Nat.add_assoc]⟩
  | _ => exact gives_no

theorem snd_fld {s : TypeId} {fs : Array Field} {f n : Nat} {ag : Bool} {fd : Field} {x : AV} {u : Value} (hs : P.underlying s = some (.struct fs)) (hf : fs[f]? = some fd) (hag : tyAg P fd.type = some ag) (hn : tySz P fd.type = some n)
    (h : HRel w X ρ H) (hx : Rp w X ρ H x u) : Gives P (Instr.field s u f) w X ρ H (rFld ag fd.offset n x H) := by
  cases x with
  | agg cs =>
    refine gives_pure h fun ⟨h1, h2⟩ => ?_
    cases hx with
    | agg _ _ us hl hr =>
      simp only [Instr.field, Sem.run_bind, run_underlying hs, Result.andThen_ok, hf, asAgg, Sem.run_pure, part, tyAg_run hag, Sem.run_ite]
      cases ag with
      | true =>
        refine ⟨.agg (us.extract fd.offset (fd.offset + n)), ?_, ?_⟩
        · simp [tySz_run hn]
        · simp only [cellsV, if_true]
          refine .agg _ _ _ (by simp; omega) fun i y v hy hv => ?_
          rw [List.getElem?_take] at hy
          split at hy
          · rename_i hi
            rw [List.getElem?_drop] at hy
            refine hr (fd.offset + i) y v hy ?_
            have hlt : fd.offset + i < us.size := by omega
            rw [Array.getElem?_extract] at hv
            simpa [show i < min (fd.offset + n) us.size - fd.offset by omega] using hv
          · cases hy
      | false =>
        have hn1 : n = 1 := by simpa using h2
        subst hn1
        have hlt : fd.offset < us.size := by omega
        refine ⟨us[fd.offset], ?_, ?_⟩
        · simp [hlt]
        · simp only [cellsV, Bool.false_eq_true, if_false]
          have hlt' : fd.offset < cs.length := by omega
          rw [List.drop_eq_getElem_cons hlt']
          exact hr fd.offset _ _ (by simp [hlt']) (by simp [hlt])
  | _ => exact gives_no

theorem os_arr (h : HRel w X ρ H) {r ver off len : Nat} {u : Value} (hx : Rp w X ρ H (.os r ver off len) u) {v sz : Nat} {xs : List (List AV)} (ho : H[r]? = some (.arr v sz xs)) (hv : ver = v) :
    r < H.length ∧ (ρ r).ver = ver ∧ (ρ r).sz = sz ∧ 0 < sz ∧ (∀ x ∈ xs, x.length = sz) ∧ xs.length * sz ≤ (ρ r).ext ∧ OsOk (ρ r) off len u ∧
      ∀ b o, (ρ r).blk = some (b, o) → ∃ c e fr, w.heap[b]? = some (.cells c e fr) ∧ o + (ρ r).ext ≤ c.size ∧ noFr fr c.size ∧
        ∀ (i j : Nat) (x : List AV) (y : AV) (u : Value), xs[i]? = some x → x[j]? = some y → c[o + i * sz + j]? = some u → Rep w (Mut X ρ H.length) ρ 0 y u ∧ one u = true := by
  obtain ⟨h1, h2, h3, h4, h5, h6⟩ := h.objs r _ ho
  cases hx with
  | os _ _ _ _ _ _ hr hle hone hp =>
    subst hv
    exact ⟨hr, h1, h2, h3, h4, h5, hp h1.symm, fun b o hblk => by rw [hblk] at h6; exact h6⟩

theorem snd_iaddr {t el : TypeId} {sz : Nat} {x i : AV} {u v : Value} (ht : P.underlying t = some (.slice el)) (hsz : tySz P el = some sz) (h : HRel w X ρ H) (hx : Rp w X ρ H x u) (hi : Rp w X ρ H i v) :
    Gives P (Instr.indexAt t u v) w X ρ H (rIaddr sz x i H) := by
  have key : ∀ (b o len cap : Nat) (k : IntKind) (n : Int), 0 ≤ n → n < len → (Instr.indexAt t (.slice (some ⟨b, o, none⟩) len cap) (.int k n)).run P w = .ok (.pointer (some ⟨b, o + n.toNat * sz, none⟩)) w := by
    intro b o len cap k n h0 h1
    simp [Instr.indexAt, asIntOf, run_underlying ht, h0, h1, tySz_run hsz, Addr.add_lit]
  cases x with
  | sl sz' xs =>
    cases i with
    | v i =>
      have := rep_v hi; subst this
      cases v <;> first | exact gives_no | skip
      rename_i k n
      refine gives_pure h fun ⟨hs, h0, h1⟩ => ?_
      subst hs
      cases hx with
      | slE => simp at h1; omega
      | slN _ _ _ b o cap c hm hb hcap hrow hcell hrep =>
        refine ⟨_, key _ _ _ _ _ _ h0 h1, ?_⟩
        have hlt : n.toNat < xs.length := by omega
        have hx : xs[n.toNat]? = some (xs.getD n.toNat []) := by simp [hlt]
        exact .vp _ _ 0 b (o + n.toNat * sz') (c n.toNat) hm hb (fun j y hy => hcell _ _ _ _ hx hy) (fun j y hy => hrep _ _ _ _ hx hy)
    | _ => exact gives_no
  | os r ver off len =>
    cases i with
    | v i =>
      have := rep_v hi; subst this
      cases v <;> first | exact gives_no | skip
      rename_i k n
      refine gives_pure h fun ⟨h0, h1, hs, hv⟩ => ?_
      simp only [szOk] at hs
      cases ho : H[r]? with
      | none => rw [ho] at hs; exact hs.elim
      | some obj =>
        rw [ho] at hs hv
        cases obj <;> simp at hs
        rename_i v' sz' xs
        subst hs
        simp only [isVer] at hv
        obtain ⟨hr, hver, hsz', _, _, _, ⟨a, cap, rfl, hlc, hcap⟩, _⟩ := os_arr h hx ho hv
        rcases hcap with hcap | ⟨b, o, hblk, rfl, hext⟩
        · omega
        · refine ⟨_, key _ _ _ _ _ _ h0 h1, ?_⟩
          refine .pe _ _ _ _ _ _ hr (by omega) rfl fun _ => ⟨b, o, hblk, ?_⟩
          rw [hsz', Nat.add_mul]
          simp [Nat.add_assoc]
    | _ => exact gives_no
  | _ => exact gives_no

theorem snd_ext {x : AV} {u : Value} {i : Nat} (h : HRel w X ρ H) (hx : Rp w X ρ H x u) : Gives P (Instr.extract u i) w X ρ H (rExt x i H) := by
  cases x with
  | tup xs =>
    refine gives_pure h fun hi => ?_
    cases hx with
    | tup _ _ us hl hr =>
      have hi' : i < us.size := by omega
      refine ⟨us[i], by simp [Instr.extract, hi'], ?_⟩
      exact hr i _ _ (by simp [hi]) (by simp [hi'])
  | _ => exact gives_no

theorem snd_len {t ty : TypeId} {lk : LK} {x : AV} {u : Value} (ht : (lk = .str → P.underlying t = some .string) ∧ (lk = .slc → ∃ e, P.underlying t = some (.slice e)) ∧ (lk = .map → ∃ k e, P.underlying t = some (.map k e)))
    (h : HRel w X ρ H) (hx : Rp w X ρ H x u) : Gives P (Builtin.len_ #[t] ty #[u]) w X ρ H (rLen lk x H) := by
  refine gives_pure h fun ⟨hk, hv⟩ => ?_
  cases lk with
  | str =>
    have h1 := ht.1 rfl
    cases x <;> simp [lkOk] at hk
    rename_i x
    have := rep_v hx; subst this
    cases u <;> simp at hk
    rename_i s
    have hs : (bs s).length = s.size := by cases s; rfl
    exact ⟨_, by simp [Builtin.len_, run_underlying h1, goInt]; rfl, by simp [lenOf, hs]; exact .v _ _⟩
  | slc =>
    obtain ⟨el, h1⟩ := ht.2.1 rfl
    have key : ∀ (a : Option Addr) (n c : Nat), (Builtin.len_ #[t] ty #[.slice a n c]).run P w = .ok (.int .i64 n) w := by
      intro a n c
      simp [Builtin.len_, run_underlying h1, goInt]
    cases x with
    | sl sz xs =>
      cases hx with
      | slE => exact ⟨_, key _ _ _, .v _ _⟩
      | slN => exact ⟨_, key _ _ _, .v _ _⟩
    | os r ver off len =>
      obtain ⟨hb, hver⟩ := hv
      obtain ⟨v', sz, xs, ho⟩ := isArr_some hb
      rw [ho] at hver
      obtain ⟨_, _, _, _, _, _, ⟨a, cap, rfl, _⟩, _⟩ := os_arr h hx ho hver
      exact ⟨_, key _ _ _, .v _ _⟩
    | nc =>
      cases hx
      exact ⟨_, key _ _ _, .v _ _⟩
    | v x =>
      have := rep_v hx; subst this
      cases u with
      | slice a n c =>
        cases a <;> cases n <;> cases c <;> simp [lkOk] at hk
        exact ⟨_, key _ _ _, .v _ _⟩
      | _ => simp [lkOk] at hk
    | _ => simp [lkOk] at hk
  | map =>
    obtain ⟨kt, el, h1⟩ := ht.2.2 rfl
    cases x with
    | mp ks vs =>
      cases hx with
      | mp _ _ _ b es clock hm hb hh hks hvs hr =>
        refine ⟨.int .i64 es.size, ?_, ?_⟩
        · simp [Builtin.len_, run_underlying h1, goInt, getObj, Sem.run, hh]
        · subst hks
          simp [lenOf]
          exact .v _ _
    | v x =>
      have := rep_v hx; subst this
      cases u with
      | map r => cases r with
        | none => exact ⟨_, by simp [Builtin.len_, run_underlying h1, goInt]; rfl, .v _ _⟩
        | some r => simp [lkOk] at hk
      | _ => simp [lkOk] at hk
    | _ => simp [lkOk] at hk
end
end Go.Ax
