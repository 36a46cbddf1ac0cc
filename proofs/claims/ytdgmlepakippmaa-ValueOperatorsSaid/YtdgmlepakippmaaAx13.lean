/- That an operation does what is said of it: slices that are made, appended to, copied. -/
import Derived.Test.YtdgmlepakippmaaAx12
namespace Go.Ax
open Go Go.RowKit

section
variable {P : Program} {w w1 : World} {X : Nat → Prop} {ρ : Nat → Loc} {H : AHeap}

theorem get_some {C : Array Value} {k : Nat} (h : k < C.size) : C[k]? = some (C.getD k undef) := by simp [h]

/-- The elements xs lie in the cells C from o on. -/
structure Rows (w : World) (M : Nat → Prop) (ρ : Nat → Loc) (C : Array Value) (o sz : Nat) (xs : List (List AV)) : Prop where
  fit : o + xs.length * sz ≤ C.size
  row : ∀ x ∈ xs, x.length = sz
  rep : ∀ (i j : Nat) (x : List AV) (y : AV) (u : Value), xs[i]? = some x → x[j]? = some y → C[o + i * sz + j]? = some u → Rep w M ρ 0 y u ∧ one u = true

theorem Rows.nil (w : World) (M : Nat → Prop) (ρ : Nat → Loc) (C : Array Value) (sz : Nat) : Rows w M ρ C 0 sz [] := ⟨by simp, fun x hx => by simp at hx, fun i j x y u hx => by simp at hx⟩

theorem Rows.lt {M : Nat → Prop} {C : Array Value} {o sz : Nat} {xs : List (List AV)} (h : Rows w M ρ C o sz xs) {i j : Nat} {x : List AV} {y : AV} (hx : xs[i]? = some x) (hy : x[j]? = some y) : o + i * sz + j < C.size := by
  have h1 : i < xs.length := (List.getElem?_eq_some_iff.1 hx).1
  have h2 : j < x.length := (List.getElem?_eq_some_iff.1 hy).1
  rw [h.row x (List.mem_of_getElem? hx)] at h2
  have := mul_lt_of h1 h2
  have := h.fit
  omega

/-- A new block: a slice over it that nobody changes. -/
theorem new_imm (h : HRel w X ρ H) (hs : Same w w1) (keep : ∀ b, b < w.heap.size → w1.heap[b]? = w.heap[b]?) {b : Nat} {C : Array Value} {el : TypeId} {fr : Nat × Nat} (hb : w.heap.size ≤ b) (hb1 : b < w1.heap.size)
    (hh : w1.heap[b]? = some (.cells C el fr)) {sz cap : Nat} {xs : List (List AV)} (hr : Rows w (Mut X ρ H.length) ρ C 0 sz xs) (hc : xs.length ≤ cap) :
    HRel w1 X ρ H ∧ Rp w1 X ρ H (.sl sz xs) (.slice (some ⟨b, 0, none⟩) xs.length cap) ∧ Fut w ρ H.length w1 ρ H.length := by
  obtain ⟨hrel, hf⟩ := h.more hs keep
  refine ⟨hrel, ?_, hf⟩
  refine .slN _ _ _ _ _ _ (fun i j => C.getD (0 + i * sz + j) undef) (not_mut_new h hb) hb1 hc hr.row (fun i j x y hx hy => ?_) (fun i j x y hx hy => ?_)
  · have hlt := hr.lt hx hy
    refine ⟨?_, ?_⟩
    · rw [cell_of_blk hh]; exact get_some hlt
    · exact (hr.rep i j x y _ hx hy (get_some hlt)).2
  · have hlt := hr.lt hx hy
    exact (hr.rep i j x y _ hx hy (get_some hlt)).1.next hf (Nat.zero_le _)

/-- A new block: a slice over it that the run owns. -/
theorem new_own (h : HRel w X ρ H) (hs : Same w w1) (keep : ∀ b, b < w.heap.size → w1.heap[b]? = w.heap[b]?) {b : Nat} {C : Array Value} {el : TypeId} {fr : Nat × Nat} (hb : w.heap.size ≤ b) (hb1 : b < w1.heap.size)
    (hh : w1.heap[b]? = some (.cells C el fr)) (hfr : noFr fr C.size) {sz len cap : Nat} {xs : List (List AV)} (hsz : 0 < sz) (hr : Rows w (Mut X ρ H.length) ρ C 0 sz xs) (hl : len ≤ cap) (hc : cap * sz ≤ C.size) :
    ∃ ρ', HRel w1 X ρ' (H ++ [.arr 0 sz xs]) ∧ Rep w1 (Mut X ρ' (H ++ [HO.arr 0 sz xs]).length) ρ' (H ++ [HO.arr 0 sz xs]).length (.os H.length 0 0 len) (.slice (some ⟨b, 0, none⟩) len cap) ∧ Fut w ρ H.length w1 ρ' (H ++ [HO.arr 0 sz xs]).length := by
  obtain ⟨ρ', hl', hrel, hf⟩ := h.push (w' := w1) { blk := some (b, 0), ext := C.size, sz := sz } (.arr 0 sz xs) hs (fun b' o hb' => by simp at hb'; obtain ⟨rfl, _⟩ := hb'; exact ⟨hb, hb1⟩) keep
    (fun ρ' hf hl' => by
      refine ⟨rfl, rfl, hsz, hr.row, by simpa using hr.fit, C, el, fr, hh, by simp, hfr, fun i j x y u hx hy hu => ?_⟩
      have := hr.rep i j x y u hx hy hu
      exact ⟨this.1.next hf (Nat.zero_le _), this.2⟩)
  refine ⟨ρ', hrel, ?_, hf⟩
  refine .os _ _ _ _ _ _ (by simp) (by rw [hl']; exact Nat.le_refl _) rfl fun _ => ⟨_, _, rfl, hl, .inr ⟨b, 0, by rw [hl'], by simp, ?_⟩⟩
  rw [hl']
  simpa using hc

/-- An empty slice without a block, which the run owns. -/
theorem none_own (h : HRel w X ρ H) {sz : Nat} (hsz : 0 < sz) (a : Option Addr) :
    ∃ ρ', HRel w X ρ' (H ++ [.arr 0 sz []]) ∧ Rep w (Mut X ρ' (H ++ [HO.arr 0 sz []]).length) ρ' (H ++ [HO.arr 0 sz []]).length (.os H.length 0 0 0) (.slice a 0 0) ∧ Fut w ρ H.length w ρ' (H ++ [HO.arr 0 sz []]).length := by
  obtain ⟨ρ', hl', hrel, hf⟩ := h.push (w' := w) { blk := none, sz := sz } (.arr 0 sz []) (Same.refl w) (fun b' o hb' => by simp at hb') (fun _ _ => rfl)
    (fun ρ' hf hl' => ⟨rfl, rfl, hsz, fun x hx => by simp at hx, by simp, rfl⟩)
  exact ⟨ρ', hrel, .os _ _ _ _ _ _ (by simp) (by rw [hl']; exact Nat.le_refl _) rfl fun _ => ⟨_, _, rfl, Nat.le_refl _, .inl rfl⟩, hf⟩

/-- n zero elements. -/
theorem zero_rows {M : Nat → Prop} {z : Array Value} {sz n : Nat} (hz : z.size = sz) (h1 : z.toList.all one = true) : Rows w M ρ ((Array.range (n * sz)).map (fun k => z[k % z.size]!)) 0 sz (List.replicate n (avs z.toList)) := by
  refine ⟨by simp, fun x hx => by rw [List.eq_of_mem_replicate hx]; simp [avs, hz], fun i j x y u hx hy hu => ?_⟩
  have hi : i < n := by have := (List.getElem?_eq_some_iff.1 hx).1; simpa using this
  rw [List.getElem?_replicate, if_pos hi] at hx
  simp only [Option.some.injEq] at hx
  subst hx
  have hj : j < sz := by have := (List.getElem?_eq_some_iff.1 hy).1; simp [avs] at this; omega
  have hlt : i * sz + j < n * sz := mul_lt_of hi hj
  have hmod : (i * sz + j) % z.size = j := by rw [hz, Nat.add_comm, Nat.add_mul_mod_self_right, Nat.mod_eq_of_lt hj]
  have hjz : j < z.size := by omega
  simp only [Nat.zero_add, Array.getElem?_map, Array.getElem?_range, hlt, if_true, Option.map_some, Option.some.injEq, hmod] at hu
  have hu' : z[j] = u := by rw [← hu]; simp [hjz]
  simp only [avs, List.getElem?_map, Array.getElem?_toList, Array.getElem?_eq_getElem hjz, Option.map_some, Option.some.injEq] at hy
  subst hy hu'
  refine ⟨.v _ _, ?_⟩
  exact List.all_eq_true.1 h1 _ (by simp)

def RpSs (w : World) (X : Nat → Prop) (ρ : Nat → Loc) (H : AHeap) : List (Nat × Value) → List (Nat × AV) → Prop
  | [], [] => True
  | (i, u) :: l, (i', x) :: m => i = i' ∧ Rp w X ρ H x u ∧ RpSs w X ρ H l m
  | _, _ => False

theorem fillS_ok {sz : Nat} : ∀ (l : List (Nat × Value)) (m : List (Nat × AV)) (xs : List (List AV)) (c : Array Value), RpSs w X ρ H l m → c.size = xs.length * sz → Rows w (Mut X ρ H.length) ρ c 0 sz xs → (fillS sz xs m).1 →
    ∃ c', Instr.fill (fun i => some (i * sz, sz)) c l = some c' ∧ (fillS sz xs m).2.length = xs.length ∧ c'.size = c.size ∧ Rows w (Mut X ρ H.length) ρ c' 0 sz (fillS sz xs m).2
  | [], [], xs, c, _, _, hr, _ => ⟨c, rfl, rfl, rfl, hr⟩
  | [], _ :: _, _, _, h, _, _, _ => h.elim
  | _ :: _, [], _, _, h, _, _, _ => h.elim
  | (i, u) :: l, (i', x) :: m, xs, c, ⟨hi, hx, hrest⟩, hc, hr, hok => by
    subst hi
    simp only [fillS] at hok ⊢
    obtain ⟨⟨h1, h2, h3, h4⟩, hok⟩ := hok
    obtain ⟨hcl, hcr⟩ := rep_cells hx h3
    have hsz : u.cells.size = sz := by omega
    have hfit : i * sz + u.cells.size ≤ c.size := by
      have : (i + 1) * sz ≤ xs.length * sz := Nat.mul_le_mul_right _ h2
      rw [Nat.add_mul] at this
      omega
    obtain ⟨z1, z2⟩ := zip_fold (i * sz) u.cells c hfit
    obtain ⟨c', f1, f2, f3, f4⟩ := fillS_ok l m (xs.set i (cellsOf x)) _ hrest (by rw [z1]; simpa using hc) ⟨by rw [z1]; simpa using hr.fit, fun y hy => by
      rcases List.mem_or_eq_of_mem_set hy with hy | rfl
      · exact hr.row y hy
      · exact h1, fun i' j x' y v hx' hy hv => by
      rw [z2] at hv
      by_cases hii : i' = i
      · subst hii
        rw [List.getElem?_set_self h2] at hx'
        simp only [Option.some.injEq] at hx'
        subst hx'
        have hj : j < (cellsOf x).length := (List.getElem?_eq_some_iff.1 hy).1
        rw [if_pos (by omega), show 0 + i' * sz + j - i' * sz = j by omega] at hv
        have := hcr j y v hy hv
        exact ⟨this.1.of_cl (clL_all h4 hy), this.2⟩
      · rw [List.getElem?_set_ne (fun e => hii e.symm)] at hx'
        have hj : j < sz := by
          have := (List.getElem?_eq_some_iff.1 hy).1
          rwa [hr.row x' (List.mem_of_getElem? hx')] at this
        have hne : ¬ (i * sz ≤ 0 + i' * sz + j ∧ 0 + i' * sz + j < i * sz + u.cells.size) := by
          rcases Nat.lt_or_gt_of_ne hii with hlt | hgt
          · have : (i' + 1) * sz ≤ i * sz := Nat.mul_le_mul_right _ hlt
            rw [Nat.add_mul] at this
            omega
          · have : (i + 1) * sz ≤ i' * sz := Nat.mul_le_mul_right _ hgt
            rw [Nat.add_mul] at this
            omega
        rw [if_neg hne] at hv
        exact hr.rep i' j x' y v hx' hy hv⟩ hok
    refine ⟨c', ?_, by rw [f2]; simp, by rw [f3, z1], f4⟩
    simp only [Instr.fill]
    rw [if_neg (by simp [hsz]; omega)]
    exact f1

theorem snd_bsl {t el : TypeId} {imm : Bool} {sz len : Nat} {z : Value} {ps : Array (Nat × Value)} {m : List (Nat × AV)} (ht : P.underlying t = some (.slice el)) (hn : tySz P el = some sz) (hz : tyZero P el = some z)
    (hsz : 0 < sz) (hzs : z.cells.size = sz) (hbig : len * sz ≤ 16777216) (h1 : z.cells.toList.all one = true) (h : HRel w X ρ H) (hps : RpSs w X ρ H ps.toList m) :
    Gives P (Instr.buildSlice t len ps) w X ρ H (rBsl imm sz len (avs z.cells.toList) m H) := by
  have key : (fillS sz (List.replicate len (avs z.cells.toList)) m).1 → ∃ c', (Instr.buildSlice t len ps).run P w = .ok (.slice (some ⟨w.heap.size, 0, none⟩) len len) (w.alloc (.cells c' el)) ∧ c'.size = len * sz ∧
      (fillS sz (List.replicate len (avs z.cells.toList)) m).2.length = len ∧ Rows w (Mut X ρ H.length) ρ c' 0 sz (fillS sz (List.replicate len (avs z.cells.toList)) m).2 := by
    intro hok
    obtain ⟨c', f1, f2, f3, f4⟩ := fillS_ok ps.toList m (List.replicate len (avs z.cells.toList)) ((Array.range (len * sz)).map (fun k => z.cells[k % z.cells.size]!)) hps (by simp) (zero_rows hzs h1) hok
    refine ⟨c', ?_, by rw [f3]; simp, by rw [f2]; simp, f4⟩
    unfold Instr.buildSlice
    simp only [Sem.run_bind, run_underlying ht, Result.andThen_ok, tySz_run hn, Sem.run_ite]
    rw [if_neg (by omega)]
    by_cases h0 : len * sz = 0
    · rw [h0] at f1
      have e0 : (Array.range 0).map (fun k => (#[] : Array Value)[k % (#[] : Array Value).size]!) = (Array.range 0).map (fun k => z.cells[k % z.cells.size]!) := by simp
      simp only [h0, if_true, Sem.run_pure, Result.andThen_ok, e0, f1, newRow, Sem.run_bind, run_newObj]
      rfl
    · simp only [h0, if_false, Sem.run_bind, zero_run hz, Sem.run_pure, Result.andThen_ok, f1, newRow, run_newObj]
      rfl
  unfold rBsl
  cases imm with
  | true =>
    rw [if_pos rfl]
    intro hok
    obtain ⟨c', hrun, hcs, hlen, hrows⟩ := key hok
    obtain ⟨g1, g2, g3⟩ := new_imm (w1 := w.alloc (.cells c' el)) h (Same.alloc _ _) (heap_old w _) (Nat.le_refl _) (by simp) (heap_new w _) hrows (cap := len) (by omega)
    rw [hlen] at g2
    exact ⟨_, _, ρ, hrun, g1, g2, g3⟩
  | false =>
    rw [if_neg (by simp)]
    intro hok
    obtain ⟨c', hrun, hcs, hlen, hrows⟩ := key hok
    obtain ⟨ρ', g1, g2, g3⟩ := new_own (w1 := w.alloc (.cells c' el)) h (Same.alloc _ _) (heap_old w _) (Nat.le_refl _) (by simp) (heap_new w _) (.inl rfl) hsz hrows (len := len) (cap := len) (Nat.le_refl _) (by omega)
    exact ⟨_, _, ρ', hrun, g1, g2, g3⟩

theorem snd_msl {t el : TypeId} {i : TypeInfo} {z : Value} {len cap : AV} {u v : Value} (ht : P.underlying t = some (.slice el)) (hi : P.info? el = some i) (hz : i.zero = some z) (hsz : 0 < i.size) (hzs : z.cells.size = i.size)
    (h1 : z.cells.toList.all one = true) (h : HRel w X ρ H) (hl : Rp w X ρ H len u) (hc : Rp w X ρ H cap v) : Gives P (Instr.makeSlice t u v) w X ρ H (rMsl i.size i.bytes (avs z.cells.toList) len cap H) := by
  cases len with
  | v x =>
    have := rep_v hl; subst this
    cases cap with
    | v y =>
      have := rep_v hc; subst this
      cases u <;> first | exact gives_no | skip
      rename_i k n
      cases k <;> first | exact gives_no | skip
      cases v <;> first | exact gives_no | skip
      rename_i k c
      cases k <;> first | exact gives_no | skip
      rintro ⟨h0, h2, h3, h4, h5⟩
      have wn : IntKind.i64.wrap n = n := IntWalk.i64_in _ (by omega)
      have wc : IntKind.i64.wrap c = c := IntWalk.i64_in _ (by omega)
      have hrun : (Instr.makeSlice t (.int .i64 n) (.int .i64 c)).run P w = .ok (.slice (some ⟨w.heap.size, 0, none⟩) n.toNat c.toNat) (w.alloc (.cells ((Array.range (c.toNat * i.size)).map (fun k => z.cells[k % z.cells.size]!)) el)) := by
        have e1 : ¬ (i.bytes : Int) * c > 2 ^ 48 := by
          have : (i.bytes : Int) * c = c * i.bytes := Int.mul_comm _ _
          omega
        have e2 : ¬ c < 0 := by omega
        have e3 : ¬ n < 0 := by omega
        have e4 : ¬ n > c := by omega
        have e5 : (askRoom (c.toNat * i.bytes)).run P w = .ok () w := by
          unfold askRoom
          split <;> rfl
        unfold Instr.makeSlice
        simp only [Sem.run_bind, run_underlying ht, Result.andThen_ok, asInt, asIntOf, Sem.run_pure, typeInfo, run_program, hi, wn, wc]
        simp only [e1, e2, e3, e4, decide_false, Bool.or_false, Bool.false_eq_true, if_false, e5, Result.andThen_ok, sizeOf, typeInfo, Sem.run_bind, run_program, hi, Sem.run_pure, Sem.run_ite, zeroValue, hz, newRow, run_newObj]
        by_cases hc0 : c.toNat * i.size = 0
        · simp [hc0, Array.range_zero']
        · simp [hc0]
      obtain ⟨ρ', g1, g2, g3⟩ := new_own (w1 := w.alloc (.cells ((Array.range (c.toNat * i.size)).map (fun k => z.cells[k % z.cells.size]!)) el)) h (Same.alloc _ _) (heap_old w _) (Nat.le_refl _) (by simp) (heap_new w _) (.inl rfl) hsz
        (zero_rows (n := c.toNat) hzs h1) (len := n.toNat) (cap := c.toNat) (by omega) (by simp)
      exact ⟨_, _, ρ', hrun, g1, g2, g3⟩
    | _ => cases u <;> first | exact gives_no | (rename_i k n; cases k <;> exact gives_no)
  | _ => exact gives_no
end
end Go.Ax
