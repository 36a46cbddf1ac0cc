/- That an operation does what is said of it: slice expressions, look-ups, conversions. -/
import Derived.Test.YtdgmlepakippmaaAx9
namespace Go.Ax
open Go Go.RowKit

section
variable {P : Program} {w : World} {X : Nat → Prop} {ρ : Nat → Loc} {H : AHeap}

/-- Both there, or neither. -/
def RpO (w : World) (X : Nat → Prop) (ρ : Nat → Loc) (H : AHeap) : Option AV → Option Value → Prop
  | none, none => True
  | some x, some u => Rp w X ρ H x u
  | _, _ => False

theorem bnd_int {d : Int} {x : Option AV} {u : Option Value} {n : Int} (h : bnd d x = some n) (hx : RpO w X ρ H x u) : (x = none ∧ u = none ∧ n = d) ∨ ∃ k, u = some (.int k n) := by
  cases x with
  | none =>
    cases u with
    | none => simp [bnd] at h; exact .inl ⟨rfl, rfl, h.symm⟩
    | some u => exact hx.elim
  | some x =>
    cases u with
    | none => exact hx.elim
    | some u =>
      cases x with
      | v x =>
        have := rep_v (show Rp w X ρ H (.v x) u from hx)
        subst this
        cases u <;> simp [bnd] at h
        subst h
        exact .inr ⟨_, rfl⟩
      | _ => simp [bnd] at h

theorem bounds_ok {b : Bool} {len cap : Nat} {lo hi : Option AV} {lv hv : Option Value} {l h : Int} (hl : bnd 0 lo = some l) (hh : bnd len hi = some h) (rl : RpO w X ρ H lo lv) (rh : RpO w X ρ H hi hv)
    (h0 : 0 ≤ l) (h1 : l ≤ h) (h2 : h ≤ len) (h3 : len ≤ cap) : (Instr.sliceBounds b len cap lv hv none).run P w = .ok (l.toNat, h.toNat, cap) w := by
  have e1 : ∀ c, (Instr.sliceBound (.int c h) cap (if b then .sliceAcap else .sliceAlen)).run P w = .ok h.toNat w := fun c => run_sliceBound w c h cap _ (by omega) (by omega)
  have e2 : ∀ c, (Instr.sliceBound (.int c l) h.toNat .sliceB).run P w = .ok l.toNat w := fun c => run_sliceBound w c l _ _ (by omega) (by omega)
  unfold Instr.sliceBounds
  rcases bnd_int hh rh with ⟨rfl, rfl, rfl⟩ | ⟨k, rfl⟩
  · rcases bnd_int hl rl with ⟨rfl, rfl, rfl⟩ | ⟨k', rfl⟩
    · simp
    · have := e2 k'
      simp at this
      simp [this]
  · rcases bnd_int hl rl with ⟨rfl, rfl, rfl⟩ | ⟨k', rfl⟩
    · simp [e1 k]
    · simp [e1 k, e2 k']

theorem extract_bs (s : ByteArray) (l h : Nat) : s.extract l h = mkS (((bs s).drop l).take (h - l)) := by
  apply ByteArray.ext
  apply Array.ext'
  simp [mkS, bs, ByteArray.data_extract, List.extract_eq_take_drop]

theorem len_bs (s : ByteArray) : (bs s).length = s.size := by cases s; rfl

theorem rSliceN_l (x : AV) (b : Option Int) : rSliceN x none b H = .no H := by
  unfold rSliceN
  split <;> first | rfl | contradiction
theorem rSliceN_h (x : AV) (b : Option Int) : rSliceN x b none H = .no H := by
  unfold rSliceN
  split <;> first | rfl | contradiction

theorem snd_slice {t : TypeId} {lk : LK} {n : Nat} {x : AV} {u : Value} {lo hi : Option AV} {lv hv : Option Value} (ht : (lk = .str ∧ P.underlying t = some .string) ∨ (lk = .slc ∧ ∃ e, P.underlying t = some (.slice e) ∧ tySz P e = some n))
    (h : HRel w X ρ H) (hx : Rp w X ρ H x u) (rl : RpO w X ρ H lo lv) (rh : RpO w X ρ H hi hv) : Gives P (Instr.sliceAt t u lv hv none) w X ρ H (rSlice lk n x lo hi H) := by
  unfold rSlice
  refine gives_also fun ⟨hk, hso⟩ => ?_
  cases hl : bnd 0 lo with
  | none => rw [rSliceN_l]; exact gives_no
  | some l =>
    cases hh : bnd ((lenOf x).getD 0) hi with
    | none => rw [rSliceN_h]; exact gives_no
    | some hb =>
      rcases ht with ⟨rfl, ht⟩ | ⟨rfl, el, ht, hn⟩
      · cases x <;> simp [lkOk] at hk
        rename_i x
        have := rep_v hx; subst this
        cases u <;> simp at hk
        rename_i s
        simp only [rSliceN]
        simp only [lenOf, Option.getD_some] at hh
        refine gives_v h fun ⟨h0, h1, h2⟩ => ?_
        have hb := bounds_ok (P := P) (b := false) (len := s.size) (cap := s.size) hl (by rw [← len_bs]; exact hh) rl rh h0 h1 (by rw [← len_bs]; exact h2) (Nat.le_refl _)
        simp [Instr.sliceAt, Instr.slice, run_underlying ht, hb, extract_bs]
      · have key : ∀ (a : Option Addr) (len cap : Nat), (lenOf x).getD 0 = len → len ≤ cap → 0 ≤ l → l ≤ hb → hb ≤ len →
            (Instr.sliceAt t (.slice a len cap) lv hv none).run P w = .ok (.slice (if cap = l.toNat then a else a.map (·.add (l.toNat * n))) (hb.toNat - l.toNat) (cap - l.toNat)) w := by
          intro a len cap hlen hcap h0 h1 h2
          have hb' := bounds_ok (P := P) (b := true) (len := len) (cap := cap) hl (by rw [← hlen]; exact hh) rl rh h0 h1 h2 hcap
          simp [Instr.sliceAt, Instr.slice, run_underlying ht, hb', tySz_run hn]
        cases x with
        | sl sz xs =>
          simp only [rSliceN]
          refine gives_pure h fun ⟨h0, h1, h2⟩ => ?_
          have hlen : (lenOf (.sl sz xs)).getD 0 = xs.length := rfl
          have hsub : ∀ (a : Option Addr) (cap : Nat), u = .slice a xs.length cap → xs.length ≤ cap →
              ∃ v, (Instr.sliceAt t u lv hv none).run P w = .ok v w ∧ v = .slice (if cap = l.toNat then a else a.map (·.add (l.toNat * n))) (hb.toNat - l.toNat) (cap - l.toNat) :=
            fun a cap hu hc => ⟨_, by rw [hu]; exact key a _ cap hlen hc h0 h1 h2, rfl⟩
          cases hx with
          | slE _ _ a cap =>
            obtain ⟨v, hr, rfl⟩ := hsub a cap rfl (Nat.zero_le _)
            refine ⟨_, hr, ?_⟩
            simp only [List.drop_nil, List.take_nil]
            have : hb.toNat - l.toNat = 0 := by simp at h2; omega
            rw [this]
            exact .slE _ _ _ _
          | slN _ _ _ b o cap c hm hbl hcap hrow hcell hrep =>
            obtain ⟨v, hr, rfl⟩ := hsub _ cap rfl hcap
            refine ⟨_, hr, ?_⟩
            by_cases hd : hb.toNat - l.toNat = 0
            · rw [hd, List.take_zero]
              exact .slE _ _ _ _
            · have hne : cap ≠ l.toNat := by omega
              have hnn : xs ≠ [] := by intro h; subst h; simp at h2; omega
              have hs : sz = n := by simpa [szOk, hnn] using hso
              subst hs
              have hlen' : ((xs.drop l.toNat).take (hb.toNat - l.toNat)).length = hb.toNat - l.toNat := by simp; omega
              rw [if_neg hne]
              have hget : ∀ i x, ((xs.drop l.toNat).take (hb.toNat - l.toNat))[i]? = some x → xs[l.toNat + i]? = some x := by
                intro i x hx
                rw [List.getElem?_take] at hx
                split at hx
                · rwa [List.getElem?_drop] at hx
                · cases hx
              have := Rep.slN (w := w) (M := Mut X ρ H.length) (ρ := ρ) H.length sz ((xs.drop l.toNat).take (hb.toNat - l.toNat)) b (o + l.toNat * sz) (cap - l.toNat) (fun i j => c (l.toNat + i) j) hm hbl (by omega)
                (fun x hx => hrow x (List.mem_of_mem_drop (List.mem_of_mem_take hx)))
                (fun i j x y hx hy => by
                  have := hcell (l.toNat + i) j x y (hget i x hx) hy
                  rw [Nat.add_mul] at this
                  rw [show o + l.toNat * sz + i * sz + j = o + (l.toNat * sz + i * sz) + j by omega]
                  exact this)
                (fun i j x y hx hy => hrep _ _ _ _ (hget i x hx) hy)
              rw [hlen'] at this
              simpa [Addr.add_lit] using this
        | os r ver off len =>
          simp only [rSliceN]
          refine gives_pure h fun ⟨h0, h1, h2, hba, hv⟩ => ?_
          obtain ⟨v', sz, xs, ho⟩ := isArr_some hba
          rw [ho] at hv
          simp only [isVer] at hv
          have hlen : (lenOf (.os r ver off len)).getD 0 = len := rfl
          obtain ⟨hr, hver, hs', hs0, hrow, hext, ⟨a, cap, rfl, hlc, hcap⟩, _⟩ := os_arr h hx ho hv
          refine ⟨_, key a len cap hlen hlc h0 h1 h2, ?_⟩
          refine .os _ _ _ _ _ _ hr (by omega) rfl fun _ => ⟨_, _, rfl, by omega, ?_⟩
          by_cases hd : cap = l.toNat
          · exact .inl (by omega)
          · rcases hcap with hcap | ⟨b, o, hblk, rfl, he⟩
            · omega
            · refine .inr ⟨b, o, hblk, ?_, ?_⟩
              · rw [if_neg hd]
                have hs : sz = n := by simpa [szOk, ho] using hso
                rw [← hs, hs']
                simp [Addr.add_lit, Nat.add_mul, Nat.add_assoc]
              · rw [show off + l.toNat + (cap - l.toNat) = off + cap by omega]
                exact he
        | v x =>
          have := rep_v hx; subst this
          cases u with
          | slice a m c =>
            cases a <;> cases m <;> cases c <;> simp [lkOk] at hk
            simp only [rSliceN]
            refine gives_v h fun ⟨h1, h2⟩ => ?_
            subst h1 h2
            rw [key none 0 0 rfl (Nat.le_refl _) (by omega) (by omega) (by omega)]
            rfl
          | _ => simp [lkOk] at hk
        | nc => exact gives_no
        | _ => simp [lkOk] at hk

theorem findNow_ok {kd : KD} {kind : TypeDesc} (hk : (kd = .int → ∃ k, kind = .int k) ∧ (kd = .str → kind = .string) ∧ (kd = .bool → kind = .bool)) {k : Value} (hkk : kIs kd k = true) :
    ∀ (es : List MapEntry) (vs : List AV) (i : Nat), vs.length = es.length → (∀ e ∈ es, kCmp k e.key = true) →
      ∃ r, Instr.findNow kind k es i = some r ∧ ((r = none ∧ mget k (es.map (·.key)) vs = none) ∨ ∃ j e x, r = some (i + j, e.val) ∧ es[j]? = some e ∧ vs[j]? = some x ∧ mget k (es.map (·.key)) vs = some x) := by
  intro es
  induction es with
  | nil => intro vs i _ _; exact ⟨none, rfl, .inl ⟨rfl, by cases vs <;> rfl⟩⟩
  | cons e es ih =>
    intro vs i hl hc
    cases vs with
    | nil => simp at hl
    | cons x vs =>
      have hs : Instr.sameNow kind k e.key = some (kEq k e.key) := by
        have h1 := hc e (by simp)
        cases kd with
        | int =>
          obtain ⟨kk, rfl⟩ := hk.1 rfl
          cases k <;> simp [kIs] at hkk
          cases hke : e.key <;> simp [hke, kCmp] at h1
          simp [Instr.sameNow, kEq, h1]
        | str =>
          have := hk.2.1 rfl; subst this
          cases k <;> simp [kIs] at hkk
          cases hke : e.key <;> simp [hke, kCmp] at h1
          simp [Instr.sameNow, kEq, beq_toListBytes, toList_bs]
        | bool =>
          have := hk.2.2 rfl; subst this
          cases k <;> simp [kIs] at hkk
          cases hke : e.key <;> simp [hke, kCmp] at h1
          simp [Instr.sameNow, kEq]
        | _ => cases k <;> simp [kIs] at hkk
      simp only [Instr.findNow, hs, List.map_cons, mget]
      cases hb : kEq k e.key with
      | true => exact ⟨_, rfl, .inr ⟨0, e, x, rfl, rfl, rfl, by simp⟩⟩
      | false =>
        obtain ⟨r, h1, h2⟩ := ih vs (i + 1) (by simpa using hl) (fun e' he' => hc e' (by simp [he']))
        refine ⟨r, h1, ?_⟩
        simp only [Bool.false_eq_true, if_false]
        rcases h2 with ⟨rfl, h2⟩ | ⟨j, e', x', rfl, h3, h4, h5⟩
        · exact .inl ⟨rfl, h2⟩
        · exact .inr ⟨j + 1, e', x', by rw [Nat.add_assoc, Nat.add_comm 1 j], by simpa using h3, by simpa using h4, h5⟩

theorem kd_kind {kt : TypeId} {kd : KD} (hk : tyKD P kt = some kd) : ∃ kind, P.underlying kt = some kind ∧ (kd = .int → ∃ k, kind = .int k) ∧ (kd = .str → kind = .string) ∧ (kd = .bool → kind = .bool) := by
  unfold tyKD at hk
  cases hd : P.underlying kt with
  | none => simp [hd] at hk
  | some d =>
    refine ⟨d, rfl, ?_⟩
    cases d <;> simp [hd] at hk <;> (try subst hk) <;> (try (obtain ⟨_, _, _, rfl⟩ := hk)) <;> simp

theorem checkKey_ok {kt : TypeId} {kd : KD} (hk : tyKD P kt = some kd) {k : Value} (hkk : kIs kd k = true) (b : Bool) (n : Nat) : (Instr.checkKey b (n + 1) kt k).run P w = .ok () w := by
  obtain ⟨kind, h1, h2⟩ := kd_kind hk
  cases kd with
  | int =>
    obtain ⟨kk, rfl⟩ := h2.1 rfl
    cases k <;> simp [kIs] at hkk
    simp [Instr.checkKey, run_underlying h1]
  | str =>
    have := h2.2.1 rfl; subst this
    cases k <;> simp [kIs] at hkk
    simp [Instr.checkKey, run_underlying h1]
  | bool =>
    have := h2.2.2 rfl; subst this
    cases k <;> simp [kIs] at hkk
    simp [Instr.checkKey, run_underlying h1]
  | _ => cases k <;> simp [kIs] at hkk

theorem findKey_ok {kt : TypeId} {kd : KD} (hk : tyKD P kt = some kd) {k : Value} (hkk : kIs kd k = true) (es : List MapEntry) (vs : List AV) (hl : vs.length = es.length) (hc : ∀ e ∈ es, kCmp k e.key = true) :
    ∃ r, (Instr.findKey kt k es).run P w = .ok r w ∧ ((r = none ∧ mget k (es.map (·.key)) vs = none) ∨ ∃ j e x, r = some (j, e.val) ∧ es[j]? = some e ∧ vs[j]? = some x ∧ mget k (es.map (·.key)) vs = some x) := by
  obtain ⟨kind, h1, h2⟩ := kd_kind hk
  obtain ⟨r, h3, h4⟩ := findNow_ok h2 hkk es vs 0 hl hc
  refine ⟨r, ?_, by simpa using h4⟩
  simp [Instr.findKey, run_underlying h1, h3]

theorem zeroA_rep {M : Nat → Prop} {k : Nat} (z : Value) : Rep w M ρ k (zeroA z) z := by
  cases z <;> first | exact .v _ _ | skip
  rename_i cs
  refine .agg _ _ _ (by simp [avs]) fun i x u hx hu => ?_
  simp only [avs, List.getElem?_map, Array.getElem?_toList, hu, Option.map_some, Option.some.injEq] at hx
  subst hx
  exact .v _ _

theorem snd_look {t kt el : TypeId} {kd : KD} {z : Value} {ok : Bool} {m k : AV} {u v : Value} (ht : P.underlying t = some (.map kt el)) (hk : tyKD P kt = some kd) (hz : tyZero P el = some z)
    (h : HRel w X ρ H) (hm : Rp w X ρ H m u) (hkr : Rp w X ρ H k v) : Gives P (Instr.lookup t u v ok) w X ρ H (rLook kd (zeroA z) ok m k H) := by
  have hzr : ∀ w : World, (zeroValue el).run P w = .ok z w := by
    intro w
    unfold tyZero at hz
    cases hi : P.info? el with
    | none => simp [hi] at hz
    | some i => simp [hi] at hz; simp [zeroValue, typeInfo, hi, hz]
  have key : ∀ (b : Nat) (es : Array MapEntry) (clock : Nat) (ks : List Value) (vs : List AV), w.heap[b]? = some (.map es clock) → ks = es.toList.map (·.key) → vs.length = es.size →
      (∀ (i : Nat) (x : AV) (e : MapEntry), vs[i]? = some x → es[i]? = some e → Rep w (Mut X ρ H.length) ρ 0 x e.val) → ∀ kv, (∀ k' ∈ ks, kCmp kv k' = true) ∧ kIs kd kv = true →
      ∃ r, (Instr.lookup t (.map (some b)) kv ok).run P w = .ok r w ∧ Rp w X ρ H (lookV (zeroA z) ok (mget kv ks vs)) r := by
    intro b es clock ks vs hb hks hvs hr kv ⟨h1, h2⟩
    subst hks
    obtain ⟨r, h3, h4⟩ := findKey_ok (w := w) hk h2 es.toList vs (by simpa using hvs) (fun e he => h1 _ (List.mem_map.2 ⟨e, he, rfl⟩))
    have hget : (getObj b).run P w = .ok (.map es clock) w := by simp [getObj, Sem.run, hb]
    unfold Instr.lookup
    simp only [Sem.run_bind, run_underlying ht, Result.andThen_ok, hget, Sem.run_pure, checkKey_ok hk h2, h3]
    rcases h4 with ⟨rfl, h4⟩ | ⟨j, e, x, rfl, h5, h6, h7⟩
    · rw [h4]
      cases ok with
      | true =>
        refine ⟨.tuple #[z, .bool false], by simp [hzr], ?_⟩
        refine .tup _ _ _ rfl fun i x u hx hu => ?_
        match i with
        | 0 => simp at hx hu; subst hx; subst hu; exact zeroA_rep z
        | 1 => simp at hx hu; subst hx; subst hu; exact .v _ _
        | n + 2 => simp at hx
      | false => exact ⟨z, by simp [hzr], zeroA_rep z⟩
    · rw [h7]
      have hrep : Rp w X ρ H x e.val := (hr j x e h6 (by simpa using h5)).mono (Nat.zero_le _)
      cases ok with
      | true =>
        refine ⟨.tuple #[e.val, .bool true], by simp, ?_⟩
        refine .tup _ _ _ rfl fun i x u hx hu => ?_
        match i with
        | 0 => simp at hx hu; subst hx; subst hu; exact hrep
        | 1 => simp at hx hu; subst hx; subst hu; exact .v _ _
        | n + 2 => simp at hx
      | false => exact ⟨e.val, by simp, hrep⟩
  cases m with
  | mp ks vs =>
    cases k with
    | v k =>
      have := rep_v hkr; subst this
      refine gives_pure h fun hp => ?_
      cases hm with
      | mp _ _ _ b es clock hmm hb hh hks hvs hr => exact key b es clock ks vs hh hks hvs hr v hp
    | _ => exact gives_no
  | om r ver =>
    cases k with
    | v k =>
      have := rep_v hkr; subst this
      simp only [rLook]
      cases ho : H[r]? with
      | none => exact gives_no
      | some obj =>
        cases obj <;> first | exact gives_no | skip
        rename_i ver' ks vs
        refine gives_also fun hver => ?_
        subst hver
        refine gives_pure h fun hp => ?_
        obtain ⟨h1, b, es, clock, hblk, hh, hks, hvs, hr⟩ := h.objs r _ ho
        cases hm with
        | om _ _ _ _ hrl hle hone hpt =>
          obtain ⟨b', o', hb', rfl⟩ := hpt h1.symm
          rw [hblk] at hb'
          simp only [Option.some.injEq, Prod.mk.injEq] at hb'
          obtain ⟨rfl, _⟩ := hb'
          exact key b es clock ks vs hh hks hvs hr v hp
    | _ => exact gives_no
  | _ => exact gives_no
end
end Go.Ax
