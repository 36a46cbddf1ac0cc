/- That an operation does what is said of it: append, copy, conversions, maps that are made. -/
import Derived.Test.YtdgmlepakippmaaAx13
namespace Go.Ax
open Go Go.RowKit

section
variable {P : Program} {w w1 : World} {X : Nat → Prop} {ρ : Nat → Loc} {H : AHeap}

theorem one_byte (b : UInt8) : one (.int .u8 b.toNat) = true := rfl

/-- The elements that append and copy take: how many, and their cells. -/
theorem rows_src (h : HRel w X ρ H) {x : AV} {u : Value} {sz : Nat} {ys : List (List AV)} (hx : Rp w X ρ H x u) (hy : rowsOf H x = some ys) (hs : szOk H sz x) (hsz : 0 < sz) :
    (Builtin.lenOf u).run P w = .ok ys.length w ∧ ∀ m, m ≤ ys.length → ∃ cs : List Value, cs.length = m * sz ∧ (∀ w2 : World, (∀ a, w2.cell? a = w.cell? a) → (Builtin.firstCells sz m u).run P w2 = .ok cs.toArray w2) ∧ (∀ v ∈ cs, one v = true) ∧ (∀ y ∈ ys, y.length = sz) ∧
      ∀ (i j : Nat) (y : List AV) (z : AV) (v : Value), i < m → ys[i]? = some y → y[j]? = some z → cs[i * sz + j]? = some v → Rep w (Mut X ρ H.length) ρ 0 z v := by
  have mem : ∀ (b o len cap : Nat) (c : Nat → Nat → Value), (∀ y ∈ ys, y.length = sz) →
      (∀ (i j : Nat) (y : List AV) (z : AV), ys[i]? = some y → y[j]? = some z → w.cell? ⟨b, o + i * sz + j, none⟩ = some (c i j) ∧ one (c i j) = true ∧ Rep w (Mut X ρ H.length) ρ 0 z (c i j)) →
      ∀ m, m ≤ ys.length → ∃ cs : List Value, cs.length = m * sz ∧ (∀ w2 : World, (∀ a, w2.cell? a = w.cell? a) → (Builtin.firstCells sz m (.slice (some ⟨b, o, none⟩) len cap)).run P w2 = .ok cs.toArray w2) ∧ (∀ v ∈ cs, one v = true) ∧ (∀ y ∈ ys, y.length = sz) ∧
        ∀ (i j : Nat) (y : List AV) (z : AV) (v : Value), i < m → ys[i]? = some y → y[j]? = some z → cs[i * sz + j]? = some v → Rep w (Mut X ρ H.length) ρ 0 z v := by
    intro b o len cap c hrow hcell m hm
    have hat : ∀ k, k < m * sz → w.cell? ⟨b, o + k, none⟩ = some (c (k / sz) (k % sz)) ∧ one (c (k / sz) (k % sz)) = true := by
      intro k hk
      have h1 : k / sz < m := Nat.div_lt_of_lt_mul (by rw [Nat.mul_comm]; exact hk)
      have h2 : k % sz < sz := Nat.mod_lt _ hsz
      have h3 : k / sz < ys.length := by omega
      have h4 : ys[k / sz]? = some ys[k / sz] := by simp [h3]
      have h5 := hrow _ (List.mem_of_getElem? h4)
      have h6 : (ys[k / sz])[k % sz]? = some ((ys[k / sz])[k % sz]'(by omega)) := by simp [h5, h2]
      have := hcell _ _ _ _ h4 h6
      have e : o + k / sz * sz + k % sz = o + k := by have := Nat.div_add_mod k sz; rw [Nat.mul_comm] at this; omega
      rw [e] at this
      exact ⟨this.1, this.2.1⟩
    refine ⟨(List.range (m * sz)).map fun k => c (k / sz) (k % sz), by simp, ?_, ?_, hrow, ?_⟩
    · intro w2 hw2
      unfold Builtin.firstCells
      rw [run_loadCells w2 ⟨b, o, none⟩ (m * sz) (fun k => c (k / sz) (k % sz)) (fun j hj => by rw [Addr.add_lit, hw2]; exact (hat j hj).1)]
    · intro v hv
      simp only [List.mem_map, List.mem_range] at hv
      obtain ⟨k, hk, rfl⟩ := hv
      exact (hat k hk).2
    · intro i j y z v hi hy hz hv
      have hj : j < sz := by
        have := (List.getElem?_eq_some_iff.1 hz).1
        rwa [hrow y (List.mem_of_getElem? hy)] at this
      have hlt : i * sz + j < m * sz := mul_lt_of hi hj
      simp only [List.getElem?_map, List.getElem?_range hlt, Option.map_some, Option.some.injEq] at hv
      have e1 : (i * sz + j) / sz = i := by rw [Nat.add_comm, Nat.add_mul_div_right _ _ hsz, Nat.div_eq_of_lt hj, Nat.zero_add]
      have e2 : (i * sz + j) % sz = j := by rw [Nat.add_comm, Nat.add_mul_mod_self_right, Nat.mod_eq_of_lt hj]
      rw [e1, e2] at hv
      subst hv
      exact (hcell i j y z hy hz).2.2
  have none_ : ys = [] → ∀ (a : Option Addr) (len cap : Nat), u = .slice a len cap → ∀ m, m ≤ ys.length → ∃ cs : List Value, cs.length = m * sz ∧ (∀ w2 : World, (∀ a, w2.cell? a = w.cell? a) → (Builtin.firstCells sz m u).run P w2 = .ok cs.toArray w2) ∧ (∀ v ∈ cs, one v = true) ∧ (∀ y ∈ ys, y.length = sz) ∧
        ∀ (i j : Nat) (y : List AV) (z : AV) (v : Value), i < m → ys[i]? = some y → y[j]? = some z → cs[i * sz + j]? = some v → Rep w (Mut X ρ H.length) ρ 0 z v := by
    intro hn a len cap hu m hm
    subst hn
    simp only [List.length_nil, Nat.le_zero] at hm
    subst hm
    refine ⟨[], by simp, ?_, fun v hv => by simp at hv, fun y hy => by simp at hy, fun i j y z v hi => by omega⟩
    subst hu
    intro w2 _
    cases a <;> simp [Builtin.firstCells, loadCells, loadCellsFrom]
  cases x with
  | sl sz' xs =>
    simp only [rowsOf, Option.some.injEq] at hy
    subst hy
    cases hx with
    | slE => exact ⟨rfl, none_ rfl _ _ _ rfl⟩
    | slN _ _ _ b o cap c hm hb hcap hrow hcell hrep =>
      refine ⟨rfl, ?_⟩
      by_cases hn : xs = []
      · exact none_ hn _ _ _ rfl
      · have hs' : sz' = sz := by simpa [szOk, hn] using hs
        subst hs'
        exact mem b o _ cap c hrow fun i j y z hy hz => ⟨(hcell i j y z hy hz).1, (hcell i j y z hy hz).2, hrep i j y z hy hz⟩
  | os r ver off len =>
    simp only [rowsOf, osRows] at hy
    cases ho : H[r]? with
    | none => simp [ho] at hy
    | some obj =>
      rw [ho] at hy
      cases obj <;> simp at hy
      rename_i ver' sz' xs
      obtain ⟨⟨hv, hol⟩, rfl⟩ := hy
      obtain ⟨hr, hver, hs', hs0, hrow, hext, ⟨a, cap, rfl, hlc, hcap⟩, hblk⟩ := os_arr h hx ho hv
      have hss : sz' = sz := by simpa [szOk, ho] using hs
      subst hss
      have hlen : ((xs.drop off).take len).length = len := by simp; omega
      refine ⟨by rw [hlen]; rfl, ?_⟩
      rcases hcap with hcap | ⟨b, o, hb, rfl, he⟩
      · have h0 : len = 0 := by omega
        subst h0
        exact none_ (by simp) _ _ _ rfl
      · obtain ⟨c, e, fr, hh, hsz', hfr, hrep⟩ := hblk b o hb
        have hget : ∀ i y, ((xs.drop off).take len)[i]? = some y → xs[off + i]? = some y := by
          intro i y hy
          rw [List.getElem?_take] at hy
          split at hy
          · rwa [List.getElem?_drop] at hy
          · cases hy
        refine mem b (o + off * (ρ r).sz) _ cap (fun i j => c.getD (o + (off + i) * sz' + j) undef) (fun y hy => hrow y (List.mem_of_mem_drop (List.mem_of_mem_take hy))) fun i j y z hy hz => ?_
        have g := hget i y hy
        have hlt : o + (off + i) * sz' + j < c.size := by
          have h1 : off + i < xs.length := (List.getElem?_eq_some_iff.1 g).1
          have h2 : j < y.length := (List.getElem?_eq_some_iff.1 hz).1
          rw [hrow y (List.mem_of_getElem? g)] at h2
          have := mul_lt_of h1 h2
          omega
        have hg := get_some hlt
        refine ⟨?_, (hrep _ _ _ _ _ g hz hg).2, (hrep _ _ _ _ _ g hz hg).1⟩
        rw [cell_of_blk hh, hs', show o + off * sz' + i * sz' + j = o + (off + i) * sz' + j by rw [Nat.add_mul]; omega]
        exact hg
  | nc =>
    simp only [rowsOf, Option.some.injEq] at hy
    subst hy
    cases hx
    exact ⟨rfl, none_ rfl _ _ _ rfl⟩
  | v x =>
    have := rep_v hx; subst this
    cases u with
    | slice a n c =>
      cases a <;> cases n <;> cases c <;> simp [rowsOf] at hy
      subst hy
      exact ⟨rfl, none_ rfl _ _ _ rfl⟩
    | string s =>
      simp only [rowsOf, Option.some.injEq] at hy
      have h1 : sz = 1 := by simpa [szOk] using hs
      subst h1 hy
      refine ⟨by simp [Builtin.lenOf, len_bs], fun m hm => ?_⟩
      simp only [List.length_map] at hm
      refine ⟨((bs s).take m).map fun b => .int .u8 b.toNat, by simp; omega, ?_, ?_, ?_, ?_⟩
      · intro w2 _
        simp only [Builtin.firstCells, Sem.run_pure]
        congr 1
        apply Array.ext'
        simp [bs, ByteArray.data_extract, List.extract_eq_take_drop]
      · intro v hv
        simp only [List.mem_map] at hv
        obtain ⟨b, _, rfl⟩ := hv
        rfl
      · intro y hy
        simp only [List.mem_map] at hy
        obtain ⟨b, _, rfl⟩ := hy
        rfl
      · intro i j y z v hi hy hz hv
        simp only [List.getElem?_map] at hy
        cases hb : (bs s)[i]? with
        | none => simp [hb] at hy
        | some b =>
          simp [hb] at hy
          subst hy
          cases j with
          | succ j => simp [byteRow] at hz
          | zero =>
            simp [byteRow] at hz
            subst hz
            simp [hi, hb] at hv
            subst hv
            exact .v _ _
    | _ => simp [rowsOf] at hy
  | _ => simp [rowsOf] at hy

theorem growBy_le (n : Nat) : ∀ (r c : Nat), 256 ≤ c → c ≤ 2 * n → Builtin.growBy n r c ≤ 2 * n
  | 0, c, _, h => h
  | r + 1, c, h0, h => by
    simp only [Builtin.growBy]
    split
    · exact h
    · exact growBy_le n r _ (by omega) (by omega)
theorem nextcap_le {n c : Nat} (h : c < n) : Builtin.nextslicecap n c ≤ 2 * n := by
  unfold Builtin.nextslicecap
  split
  · omega
  · split
    · omega
    · exact growBy_le n 4 c (by omega) (by omega)

theorem append_run {t u el : TypeId} {i : TypeInfo} {ty : TypeId} {s x z : Value} (ht : P.underlying t = some (.slice el)) (hu : ∃ d, P.underlying u = some d ∧ ∀ k, d ≠ .int k) (hi : P.info? el = some i) (hz : i.zero = some z)
    {base : Option Addr} {sLen sCap n : Nat} (hs : s = .slice base sLen sCap) (hn : (Builtin.lenOf x).run P w = .ok n w) {cs : List Value} (hf0 : ∀ w2 : World, (∀ a, w2.cell? a = w.cell? a) → (Builtin.firstCells i.size n x).run P w2 = .ok cs.toArray w2) :
    (sLen + n ≤ sCap → ∀ w', (match base with | some a => (storeCells (a.add (sLen * i.size)) cs).run P w = .ok () w' | none => w' = w) → (Builtin.append_ #[t, u] ty #[s, x]).run P w = .ok (.slice base (sLen + n) sCap) w') ∧
    (¬ sLen + n ≤ sCap → (sLen + n) * i.bytes ≤ 140737488355328 → sLen + n ≤ 140737488355328 → ∀ old : List Value, (∀ w2 : World, (∀ a, w2.cell? a = w.cell? a) → (Builtin.firstCells i.size sLen s).run P w2 = .ok old.toArray w2) → ∃ cap, sLen + n ≤ cap ∧
      (Builtin.append_ #[t, u] ty #[s, x]).run P w = .ok (.slice (some ⟨w.heap.size, 0, none⟩) (sLen + n) cap) (w.drew.alloc (.cells (old.toArray ++ cs.toArray ++ Builtin.zeroCells z.cells (cap - (sLen + n))) el))) := by
  obtain ⟨d, hd, hnd⟩ := hu
  have e5 : ∀ b (w : World), (askRoom b).run P w = .ok () w := fun b w => by
    unfold askRoom
    split <;> rfl
  subst hs
  constructor
  · intro hle w' hst
    have hf := hf0 w fun _ => rfl
    unfold Builtin.append_
    simp only [List.getElem?_toArray, List.getElem?_cons_zero, List.getElem?_cons_succ, Sem.run_bind, run_underlying ht, Result.andThen_ok, sizeOf, typeInfo, run_program, hi, Sem.run_pure, run_underlying hd, Bool.false_eq_true, if_false, hn, Sem.run_ite, if_pos hle, hf, Bool.not_false, if_true]
    cases base with
    | none => simp only [Sem.run_pure]; rw [hst]
    | some a => simp only at hst; simp [hst]
  · intro hle hb1 hb2 old hold
    refine ⟨grownCap w (sLen + n) sCap el, grownCap_ge _ _ _ _, ?_⟩
    have hnext := nextcap_le (n := sLen + n) (c := sCap) (by omega)
    have h48 : ¬ Builtin.nextslicecap (sLen + n) sCap * i.bytes > 2 ^ 48 := by
      have := Nat.mul_le_mul_right i.bytes hnext
      rw [Nat.mul_assoc] at this
      omega
    have hch : (choose (.appendCap (sLen + n) sCap el)).run P w = .ok (grownCap w (sLen + n) sCap el) w.drew := by
      simp [choose, Sem.run, Question.forced, grownCap]
    have hf' := hf0 w.drew fun _ => rfl
    have hold' := hold w.drew fun _ => rfl
    unfold Builtin.append_
    simp only [List.getElem?_toArray, List.getElem?_cons_zero, List.getElem?_cons_succ, Sem.run_bind, run_underlying ht, Result.andThen_ok, sizeOf, typeInfo, run_program, hi, Sem.run_pure, run_underlying hd, Bool.false_eq_true, if_false, hn, Sem.run_ite, if_neg hle, if_neg h48, hch, e5, hold', hf', Bool.not_false, if_true]
    rw [if_neg (by rw [IntKind.max_i64]; omega)]
    simp [zeroValue, typeInfo, hi, hz, newRow]

theorem zeroCells_size (z : Array Value) (n : Nat) : (Builtin.zeroCells z n).size = n * z.size := by simp [Builtin.zeroCells]

/-- Old elements, new elements, and whatever lies behind them. -/
theorem rows_app {M : Nat → Prop} {sz : Nat} {xs ys : List (List AV)} {old cs : List Value} {Z : Array Value} (hx : ∀ x ∈ xs, x.length = sz) (hy : ∀ y ∈ ys, y.length = sz) (ho : old.length = xs.length * sz) (hc : cs.length = ys.length * sz)
    (ro : ∀ (i j : Nat) (y : List AV) (z : AV) (v : Value), xs[i]? = some y → y[j]? = some z → old[i * sz + j]? = some v → Rep w M ρ 0 z v ∧ one v = true)
    (rc : ∀ (i j : Nat) (y : List AV) (z : AV) (v : Value), ys[i]? = some y → y[j]? = some z → cs[i * sz + j]? = some v → Rep w M ρ 0 z v ∧ one v = true) :
    Rows w M ρ (old.toArray ++ cs.toArray ++ Z) 0 sz (xs ++ ys) := by
  refine ⟨by simp [ho, hc, Nat.add_mul], fun x hx' => ?_, fun i j x y u hx' hy' hu => ?_⟩
  · rcases List.mem_append.1 hx' with h | h
    · exact hx x h
    · exact hy x h
  · have hj : j < sz := by
      have := (List.getElem?_eq_some_iff.1 hy').1
      have hm : x.length = sz := by
        rcases List.mem_append.1 (List.mem_of_getElem? hx') with h | h
        · exact hx x h
        · exact hy x h
      omega
    rw [List.getElem?_append] at hx'
    split at hx'
    · rename_i hi
      have hlt : i * sz + j < old.length := by rw [ho]; exact mul_lt_of hi hj
      have : old[i * sz + j]? = some u := by
        rw [Nat.zero_add, Array.getElem?_append_left (by simp; omega), Array.getElem?_append_left (by simpa using hlt)] at hu
        simpa using hu
      exact ro i j x y u hx' hy' this
    · rename_i hi
      have hi2 : i - xs.length < ys.length := (List.getElem?_eq_some_iff.1 hx').1
      have hlt : (i - xs.length) * sz + j < cs.length := by rw [hc]; exact mul_lt_of hi2 hj
      have he : i * sz = xs.length * sz + (i - xs.length) * sz := by rw [← Nat.add_mul]; congr 1; omega
      have : cs[(i - xs.length) * sz + j]? = some u := by
        rw [Nat.zero_add, Array.getElem?_append_left (by simp; omega), Array.getElem?_append_right (by simp; omega)] at hu
        have e2 : i * sz + j - old.toArray.size = (i - xs.length) * sz + j := by simp; omega
        rw [e2] at hu
        simpa using hu
      exact rc _ j x y u hx' hy' this

theorem one_of_mem {cs : List Value} (h : ∀ v ∈ cs, one v = true) {k : Nat} {v : Value} (hk : cs[k]? = some v) : one v = true := h v (List.mem_of_getElem? hk)

theorem snd_append_nil {t u el : TypeId} {i : TypeInfo} {ty : TypeId} {z : Value} {x : AV} {v : Value} {base : Option Addr} (ht : P.underlying t = some (.slice el)) (hu : ∃ d, P.underlying u = some d ∧ ∀ k, d ≠ .int k) (hi : P.info? el = some i) (hz : i.zero = some z) (hzs : z.cells.size = i.size)
    (h : HRel w X ρ H) (hx : Rp w X ρ H x v) : Gives P (Builtin.append_ #[t, u] ty #[.slice base 0 0, v]) w X ρ H ((rAppendN i.size i.bytes (rowsOf H x) H).also (szOk H i.size x)) := by
  refine gives_also fun hso => ?_
  cases hr : rowsOf H x with
  | none => exact gives_no
  | some ys =>
    rintro ⟨hsz, hb, hb2⟩
    obtain ⟨hlen, hsrc⟩ := rows_src (P := P) h hx hr hso hsz
    obtain ⟨cs, hl, hf, h1, hrow, hrep⟩ := hsrc ys.length (Nat.le_refl _)
    obtain ⟨ha, hg⟩ := append_run (ty := ty) (s := .slice base 0 0) ht hu hi hz rfl hlen hf
    by_cases h0 : ys.length = 0
    · have hys : ys = [] := List.eq_nil_of_length_eq_zero h0
      subst hys
      have hcs : cs = [] := List.eq_nil_of_length_eq_zero (by simpa using hl)
      subst hcs
      have hrun := ha (by simp) w (by cases base <;> simp [storeCells])
      obtain ⟨ρ', g1, g2, g3⟩ := none_own h hsz base
      exact ⟨_, _, ρ', hrun, g1, g2, g3⟩
    · obtain ⟨cap, hcap, hrun⟩ := hg (by omega) (by simpa using hb) (by omega) [] (by intro w2 _; cases base <;> simp [Builtin.firstCells, loadCells, loadCellsFrom])
      simp only [Nat.zero_add] at hrun hcap
      have hrows := rows_app (w := w) (M := Mut X ρ H.length) (ρ := ρ) (sz := i.size) (xs := []) (ys := ys) (old := []) (cs := cs) (Z := Builtin.zeroCells z.cells (cap - ys.length)) (fun x hx => by simp at hx) hrow (by simp) hl
        (fun i j y z v hy => by simp at hy) (fun i j y z v hy hz hv => ⟨hrep i j y z v (List.getElem?_eq_some_iff.1 hy).1 hy hz hv, one_of_mem h1 hv⟩)
      obtain ⟨ρ', g1, g2, g3⟩ := new_own (w1 := w.drew.alloc (.cells ([].toArray ++ cs.toArray ++ Builtin.zeroCells z.cells (cap - ys.length)) el)) h ((Same.drew w).trans (Same.alloc _ _)) (heap_old w.drew _) (Nat.le_refl _) (by simp) (heap_new w.drew _) (.inl rfl) hsz hrows
        (len := ys.length) (cap := cap) hcap (by simp [zeroCells_size, hzs, hl, ← Nat.add_mul]; exact Nat.mul_le_mul_right _ (by omega))
      exact ⟨_, _, ρ', hrun, g1, by simpa [rAppendN] using g2, g3⟩

theorem snd_append {t u el : TypeId} {i : TypeInfo} {ty : TypeId} {z : Value} {s x : AV} {sv v : Value} (ht : P.underlying t = some (.slice el)) (hu : ∃ d, P.underlying u = some d ∧ ∀ k, d ≠ .int k) (hi : P.info? el = some i) (hz : i.zero = some z) (hzs : z.cells.size = i.size)
    (h : HRel w X ρ H) (hs : Rp w X ρ H s sv) (hx : Rp w X ρ H x v) : Gives P (Builtin.append_ #[t, u] ty #[sv, v]) w X ρ H (rAppend i.size i.bytes s x H) := by
  cases s with
  | nc =>
    cases hs
    exact snd_append_nil ht hu hi hz hzs h hx
  | v sx =>
    have := rep_v hs; subst this
    cases sv with
    | slice a n c => cases a <;> cases n <;> cases c <;> first | exact gives_no | exact snd_append_nil ht hu hi hz hzs h hx
    | _ => exact gives_no
  | os r ver off len =>
    cases off with
    | succ off => exact gives_no
    | zero =>
      simp only [rAppend]
      refine gives_also fun hso => ?_
      cases ho : H[r]? with
      | none => exact gives_no
      | some obj =>
        cases obj <;> first | exact gives_no | skip
        rename_i ver' sz' xs
        cases hr : rowsOf H x with
        | none => exact gives_no
        | some ys =>
          rintro ⟨hv, hss, hlx, hb, hb2⟩
          subst hv hss
          obtain ⟨hrl, hver, hsz', hsz, hrowx, hext, ⟨a, cap, rfl, hlc, hcap⟩, hblk⟩ := os_arr h hs ho rfl
          obtain ⟨hlen, hsrc⟩ := rows_src (P := P) h hx hr hso hsz
          obtain ⟨cs, hl, hf, h1, hrow, hrep⟩ := hsrc ys.length (Nat.le_refl _)
          obtain ⟨ha, hg⟩ := append_run (ty := ty) (s := .slice a len cap) ht hu hi hz rfl hlen hf
          have hobj := h.objs r _ ho
          by_cases hin : len + ys.length ≤ cap
          · rcases hcap with hc0 | ⟨b, o, hb', rfl, he⟩
            · have hl0 : len = 0 := by omega
              have hy0 : ys = [] := List.eq_nil_of_length_eq_zero (by omega)
              subst hl0 hy0 hc0
              have hcs : cs = [] := List.eq_nil_of_length_eq_zero (by simpa using hl)
              subst hcs
              have hrun := ha hin w (by cases a <;> simp [storeCells])
              obtain ⟨ρ', hρ, g1, g2⟩ := h.setAt (w' := w) hrl { ρ r with ver := ver + 1 } (.arr (ver + 1) i.size (xs.take 0 ++ [])) (Same.refl w) (.inr (by show (ρ r).ver < ver + 1; omega)) (fun b o hb => .inl ⟨o, hb⟩) (fun _ _ _ => rfl)
                (fun ρ' _ hf' => by
                  refine ⟨rfl, hsz', hsz, fun x hx => by simp at hx, by simp, ?_⟩
                  show match (ρ r).blk with | none => _ | some (b, o) => _
                  cases hbk : (ρ r).blk with
                  | none => simp
                  | some bo =>
                    obtain ⟨b, o⟩ := bo
                    obtain ⟨c, e, fr, q1, q2, q3, _⟩ := hblk b o hbk
                    exact ⟨c, e, fr, q1, q2, q3, fun i j x y u hx => by simp at hx⟩)
              refine ⟨_, _, ρ', hrun, g1, ?_, g2⟩
              exact .os _ _ _ _ _ _ (by simpa [rAppendO] using hrl) (by rw [hρ]; exact Nat.le_refl _) rfl fun _ => ⟨_, _, rfl, by simp, .inl rfl⟩
            · obtain ⟨c, e, fr, hh, hsize, hfr, hrepo⟩ := hblk b o hb'
              rw [hsz'] at he
              have hfit : o + len * i.size + cs.length ≤ c.size := by
                rw [hl]
                have : (len + ys.length) * i.size ≤ cap * i.size := Nat.mul_le_mul_right _ hin
                rw [Nat.add_mul] at this
                simp only [Nat.zero_add] at he
                omega
              have hst := run_storeCells_fr (P := P) b (o + len * i.size) e fr cs 0 c w hh hfr (by simpa using hfit) h1
              simp only [Nat.add_zero] at hst
              have hadd : (⟨b, o + 0 * (ρ r).sz, none⟩ : Addr).add (len * i.size) = ⟨b, o + len * i.size, none⟩ := by rw [Addr.add_lit]; simp
              have hrun := ha hin _ (by simp only; rw [hadd]; exact hst)
              obtain ⟨ρ', hρ, g1, g2⟩ := h.setAt (w' := w.setRow b (c.toList.take (o + len * i.size) ++ cs ++ c.toList.drop (o + len * i.size + cs.length)).toArray) hrl { ρ r with ver := ver + 1 } (.arr (ver + 1) i.size (xs.take len ++ ys)) (Same.setRow _ _ _)
                (.inr (by show (ρ r).ver < ver + 1; omega)) (fun b o hb => .inl ⟨o, hb⟩) (fun b' _ hne => setRow_other _ _ _ _ (fun e => hne o (by rw [e]; exact hb')))
                (fun ρ' _ hf' => by
                  have hcsz : ((c.toList.take (o + len * i.size) ++ cs ++ c.toList.drop (o + len * i.size + cs.length)).toArray).size = c.size := by simp; omega
                  refine ⟨rfl, hsz', hsz, ?_, ?_, ?_⟩
                  · intro y hy
                    rcases List.mem_append.1 hy with hy | hy
                    · exact hrowx y (List.mem_of_mem_take hy)
                    · exact hrow y hy
                  · show _ ≤ (ρ r).ext
                    simp only [List.length_append, List.length_take, Nat.min_eq_left hlx]
                    have : (len + ys.length) * i.size ≤ cap * i.size := Nat.mul_le_mul_right _ hin
                    simp only [Nat.zero_add] at he
                    omega
                  · show match (ρ r).blk with | none => _ | some (b, o) => _
                    rw [hb']
                    refine ⟨_, e, fr, setRow_heap w b c _ e fr hh, by rw [hcsz]; exact hsize, by rw [hcsz]; exact hfr, ?_⟩
                    intro k j x' y zz hx' hy hzz
                    have hj : j < i.size := by
                      have h2 := (List.getElem?_eq_some_iff.1 hy).1
                      have hm : x'.length = i.size := by
                        rcases List.mem_append.1 (List.mem_of_getElem? hx') with h | h
                        · exact hrowx x' (List.mem_of_mem_take h)
                        · exact hrow x' h
                      omega
                    have hzz' : (c.toList.take (o + len * i.size) ++ cs ++ c.toList.drop (o + len * i.size + cs.length))[o + k * i.size + j]? = some zz := by simpa using hzz
                    rw [getElem?_splice _ _ _ _ (by simpa using hfit)] at hzz'
                    rw [List.getElem?_append, List.length_take, Nat.min_eq_left hlx] at hx'
                    split at hx'
                    · rename_i hk
                      have := mul_lt_of hk hj
                      rw [if_pos (by omega)] at hzz'
                      rw [List.getElem?_take, if_pos hk] at hx'
                      have := hrepo k j x' y zz hx' hy (by simpa using hzz')
                      exact ⟨this.1.next hf' (Nat.zero_le _), this.2⟩
                    · rename_i hk
                      have hk2 : k - len < ys.length := (List.getElem?_eq_some_iff.1 hx').1
                      have hke : k * i.size = len * i.size + (k - len) * i.size := by rw [← Nat.add_mul]; congr 1; omega
                      have := mul_lt_of hk2 hj
                      rw [if_neg (by omega), if_pos (by omega), show o + k * i.size + j - (o + len * i.size) = (k - len) * i.size + j by omega] at hzz'
                      exact ⟨(hrep _ j x' y zz hk2 hx' hy hzz').next hf' (Nat.zero_le _), one_of_mem h1 hzz'⟩)
              refine ⟨_, _, ρ', hrun, g1, ?_, g2⟩
              refine .os _ _ _ _ _ _ (by simpa [rAppendO] using hrl) (by rw [hρ]; exact Nat.le_refl _) rfl fun _ => ⟨_, _, rfl, hin, .inr ⟨b, o, by rw [hρ]; exact hb', by rw [hρ], ?_⟩⟩
              rw [hρ]
              show (0 + cap) * (ρ r).sz ≤ (ρ r).ext
              rw [hsz']
              exact he
          · have hselfR : rowsOf H (.os r ver 0 len) = some (xs.take len) := by simp [rowsOf, osRows, ho, hlx]
            have hselfS : szOk H i.size (.os r ver 0 len) := by simp [szOk, ho]
            obtain ⟨_, hself⟩ := rows_src (P := P) h hs hselfR hselfS hsz
            have htl : (xs.take len).length = len := by simp; omega
            obtain ⟨old, hol, hfo, h1o, _, hrepold⟩ := hself len (by omega)
            obtain ⟨cap', hcap', hrun⟩ := hg hin (by simpa using hb) hb2 old hfo
            have hrows := rows_app (w := w) (M := Mut X ρ H.length) (ρ := ρ) (sz := i.size) (xs := xs.take len) (ys := ys) (old := old) (cs := cs) (Z := Builtin.zeroCells z.cells (cap' - (len + ys.length)))
              (fun x hx => hrowx x (List.mem_of_mem_take hx)) hrow (by rw [htl]; exact hol) hl
              (fun k j y zz v hy hzz hv => ⟨hrepold k j y zz v (by have := (List.getElem?_eq_some_iff.1 hy).1; omega) hy hzz hv, one_of_mem h1o hv⟩)
              (fun k j y zz v hy hzz hv => ⟨hrep k j y zz v (List.getElem?_eq_some_iff.1 hy).1 hy hzz hv, one_of_mem h1 hv⟩)
            have hCs : (old.toArray ++ cs.toArray ++ Builtin.zeroCells z.cells (cap' - (len + ys.length))).size = cap' * i.size := by
              simp [zeroCells_size, hzs, hl, hol, ← Nat.add_mul]
              congr 1
              omega
            obtain ⟨ρ', hρ, g1, g2⟩ := h.setAt (w' := w.drew.alloc (.cells (old.toArray ++ cs.toArray ++ Builtin.zeroCells z.cells (cap' - (len + ys.length))) el)) hrl { blk := some (w.heap.size, 0), ext := cap' * i.size, ver := ver + 1, sz := i.size } (.arr (ver + 1) i.size (xs.take len ++ ys))
              ((Same.drew w).trans (Same.alloc _ _)) (.inr (by show (ρ r).ver < ver + 1; omega)) (fun b o hb => .inr (by simp at hb; obtain ⟨rfl, _⟩ := hb; simp)) (fun b hb _ => heap_old w.drew _ b hb)
              (fun ρ' _ hf' => by
                refine ⟨rfl, rfl, hsz, hrows.row, ?_, _, el, (0, 0), heap_new w.drew _, ?_, .inl rfl, ?_⟩
                · show _ ≤ cap' * i.size
                  have := hrows.fit
                  omega
                · show 0 + cap' * i.size ≤ _
                  omega
                · intro k j x' y zz hx' hy hzz
                  have := hrows.rep k j x' y zz hx' hy hzz
                  exact ⟨this.1.next hf' (Nat.zero_le _), this.2⟩)
            refine ⟨_, _, ρ', hrun, g1, ?_, g2⟩
            refine .os _ _ _ _ _ _ (by simpa [rAppendO] using hrl) (by rw [hρ]; exact Nat.le_refl _) rfl fun _ => ⟨_, _, rfl, hcap', .inr ⟨w.heap.size, 0, by rw [hρ], by simp, ?_⟩⟩
            rw [hρ]
            simp
  | _ => exact gives_no
end
end Go.Ax
