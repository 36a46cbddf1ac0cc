/- That an operation does what is said of it: copy, conversions, maps that are made; what the proof turns by itself. -/
import Derived.Test.YtdgmlepakippmaaAx14
namespace Go.Ax
open Go Go.RowKit

section
variable {P : Program} {w w1 : World} {X : Nat → Prop} {ρ : Nat → Loc} {H : AHeap}

theorem snd_copy {t u el : TypeId} {sz : Nat} {ty : TypeId} {s x : AV} {sv v : Value} (ht : P.underlying t = some (.slice el)) (hn : tySz P el = some sz) (hsz : 0 < sz)
    (h : HRel w X ρ H) (hs : Rp w X ρ H s sv) (hx : Rp w X ρ H x v) : Gives P (Builtin.copy_ #[t, u] ty #[sv, v]) w X ρ H (rCopy sz s x H) := by
  cases s with
  | os r ver off len =>
    cases hr : rowsOf H x with
    | none => simp only [rCopy, hr]; exact gives_no
    | some ys =>
      simp only [rCopy, hr]
      cases ho : H[r]? with
      | none => exact gives_no
      | some obj =>
        cases obj <;> first | exact gives_no | skip
        rename_i ver' sz' xs
        rintro ⟨hv, hss, hso, hfitx⟩
        subst hv hss
        obtain ⟨hrl, hver, hsz', _, hrowx, hext, ⟨a, cap, rfl, hlc, hcap⟩, hblk⟩ := os_arr h hs ho rfl
        obtain ⟨hlen, hsrc⟩ := rows_src (P := P) h hx hr hso hsz
        generalize hm : min ys.length len = m
        obtain ⟨cs, hl, hf, h1, hrow, hrep⟩ := hsrc m (by omega)
        have hf := hf w fun _ => rfl
        have hrunA : ∀ w', (match a with | some a => (storeCells a cs).run P w = .ok () w' | none => w' = w) → (Builtin.copy_ #[t, u] ty #[.slice a len cap, v]).run P w = .ok (.int .i64 (m : Nat)) w' := by
          intro w' hst
          have hmin : Nat.min ys.length len = m := hm
          unfold Builtin.copy_
          simp only [List.getElem?_toArray, List.getElem?_cons_zero, List.getElem?_cons_succ, Sem.run_bind, run_underlying ht, Result.andThen_ok, hlen, hmin, tySz_run hn, hf]
          cases a with
          | none => simp only at hst; subst hst; simp [goInt]
          | some a => simp only at hst; simp [hst, goInt]
        have hy' : (ys.take m).length = m := by simp; omega
        rcases hcap with hc0 | ⟨b, o, hb', rfl, he⟩
        · have hl0 : len = 0 := by omega
          have hm0 : m = 0 := by omega
          subst hm0
          have hcs : cs = [] := List.eq_nil_of_length_eq_zero (by simpa using hl)
          subst hcs
          have hrun := hrunA w (by cases a <;> simp [storeCells])
          obtain ⟨ρ', hρ, g1, g2⟩ := h.setAt (w' := w) hrl (ρ r) (.arr ver sz' (xs.take off ++ ys.take 0 ++ xs.drop (off + 0))) (Same.refl w) (.inl rfl) (fun b o hb => .inl ⟨o, hb⟩) (fun _ _ _ => rfl)
            (fun ρ' _ hf' => by
              simp only [List.take_zero, List.append_nil, Nat.add_zero, List.take_append_drop]
              exact (h.objs r _ ho).next hf' fun _ _ _ => rfl)
          exact ⟨_, _, ρ', hrun, g1, .v _ _, g2⟩
        · obtain ⟨c, e, fr, hh, hsize, hfr, hrepo⟩ := hblk b o hb'
          have hxs := hext
          have hofs : (off + m) * sz' ≤ xs.length * sz' := Nat.mul_le_mul_right _ (by omega)
          rw [Nat.add_mul] at hofs
          have hfit : o + off * sz' + cs.length ≤ c.size := by rw [hl]; omega
          have hst := run_storeCells_fr (P := P) b (o + off * sz') e fr cs 0 c w hh hfr (by simpa using hfit) h1
          simp only [Nat.add_zero] at hst
          have hrun := hrunA _ (by simp only; rw [hsz']; exact hst)
          obtain ⟨ρ', hρ, g1, g2⟩ := h.setAt (w' := w.setRow b (c.toList.take (o + off * sz') ++ cs ++ c.toList.drop (o + off * sz' + cs.length)).toArray) hrl (ρ r) (.arr ver sz' (xs.take off ++ ys.take m ++ xs.drop (off + m))) (Same.setRow _ _ _)
            (.inl rfl) (fun b o hb => .inl ⟨o, hb⟩) (fun b' _ hne => setRow_other _ _ _ _ (fun e => hne o (by rw [e]; exact hb')))
            (fun ρ' _ hf' => by
              have hcsz : ((c.toList.take (o + off * sz') ++ cs ++ c.toList.drop (o + off * sz' + cs.length)).toArray).size = c.size := by simp; omega
              refine ⟨hver, hsz', hsz, ?_, ?_, ?_⟩
              · intro y hy
                rcases List.mem_append.1 hy with hy | hy
                · rcases List.mem_append.1 hy with hy | hy
                  · exact hrowx y (List.mem_of_mem_take hy)
                  · exact hrow y (List.mem_of_mem_take hy)
                · exact hrowx y (List.mem_of_mem_drop hy)
              · have : (xs.take off ++ ys.take m ++ xs.drop (off + m)).length = xs.length := by simp; omega
                rw [this]
                exact hext
              · rw [hb']
                refine ⟨_, e, fr, setRow_heap w b c _ e fr hh, by rw [hcsz]; exact hsize, by rw [hcsz]; exact hfr, ?_⟩
                intro k j x' y zz hx' hy hzz
                have hzz' : (c.toList.take (o + off * sz') ++ cs ++ c.toList.drop (o + off * sz' + cs.length))[o + k * sz' + j]? = some zz := by simpa using hzz
                rw [getElem?_splice _ _ _ _ (by simpa using hfit), hl] at hzz'
                have hx2 : (xs.take off ++ ys.take m ++ xs.drop (off + (ys.take m).length))[k]? = some x' := by rw [hy']; exact hx'
                rw [getElem?_splice _ _ _ _ (by rw [hy']; omega), hy'] at hx2
                have hj : j < sz' := by
                  have h2 := (List.getElem?_eq_some_iff.1 hy).1
                  have hmm : x'.length = sz' := by
                    rcases List.mem_append.1 (List.mem_of_getElem? hx') with h | h
                    · rcases List.mem_append.1 h with h | h
                      · exact hrowx x' (List.mem_of_mem_take h)
                      · exact hrow x' (List.mem_of_mem_take h)
                    · exact hrowx x' (List.mem_of_mem_drop h)
                  omega
                by_cases hk1 : k < off
                · have := mul_lt_of hk1 hj
                  rw [if_pos hk1] at hx2
                  rw [if_pos (by omega)] at hzz'
                  have := hrepo k j x' y zz hx2 hy (by simpa using hzz')
                  exact ⟨this.1.next hf' (Nat.zero_le _), this.2⟩
                · rw [if_neg hk1] at hx2
                  have hke : k * sz' = off * sz' + (k - off) * sz' := by rw [← Nat.add_mul]; congr 1; omega
                  by_cases hk2 : k < off + m
                  · have hk3 : k - off < m := by omega
                    have := mul_lt_of hk3 hj
                    rw [if_pos hk2, List.getElem?_take, if_pos hk3] at hx2
                    rw [if_neg (by omega), if_pos (by omega), show o + k * sz' + j - (o + off * sz') = (k - off) * sz' + j by omega] at hzz'
                    exact ⟨(hrep _ j x' y zz hk3 hx2 hy hzz').next hf' (Nat.zero_le _), one_of_mem h1 hzz'⟩
                  · rw [if_neg hk2] at hx2
                    have : m * sz' ≤ (k - off) * sz' := Nat.mul_le_mul_right _ (by omega)
                    rw [if_neg (by omega), if_neg (by omega)] at hzz'
                    have := hrepo k j x' y zz hx2 hy (by simpa using hzz')
                    exact ⟨this.1.next hf' (Nat.zero_le _), this.2⟩)
          exact ⟨_, _, ρ', hrun, g1, .v _ _, g2⟩
  | _ => simp only [rCopy]; exact gives_no

theorem snd_mkmap {t : TypeId} (h : HRel w X ρ H) : Gives P (Instr.makeMap t none) w X ρ H ⟨True, .om H.length 0, H ++ [.map 0 [] []]⟩ := by
  intro _
  obtain ⟨ρ', hl, hrel, hf⟩ := h.push (w' := w.alloc (.map #[] 0)) { blk := some (w.heap.size, 0) } (.map 0 [] []) (Same.alloc _ _) (fun b o hb => by simp at hb; obtain ⟨rfl, _⟩ := hb; simp) (heap_old w _)
    (fun ρ' hf hl' => ⟨rfl, w.heap.size, #[], 0, rfl, heap_new w _, rfl, rfl, fun i x e hx => by simp at hx⟩)
  refine ⟨.map (some w.heap.size), _, ρ', by simp [Instr.makeMap], hrel, ?_, hf⟩
  exact .om _ _ _ _ (by simp) (by rw [hl]; exact Nat.le_refl _) rfl fun _ => ⟨w.heap.size, 0, by rw [hl], rfl⟩

theorem mget_fresh {k : Value} : ∀ (ks : List Value) (vs : List AV), (∀ k' ∈ ks, kEq k k' = false) → mget k ks vs = none
  | [], vs, _ => by cases vs <;> rfl
  | k' :: ks, [], _ => rfl
  | k' :: ks, v :: vs, h => by
    simp only [mget, h k' (by simp), Bool.false_eq_true, if_false]
    exact mget_fresh ks vs fun k hk => h k (by simp [hk])

theorem snd_ins {t kt el : TypeId} {kd : KD} {m k x : AV} {mu ku u : Value} (ht : P.underlying t = some (.map kt el)) (hk : tyKD P kt = some kd) (h : HRel w X ρ H) (hm : Rp w X ρ H m mu) (hkr : Rp w X ρ H k ku) (hx : Rp w X ρ H x u) :
    GivesU P (Instr.mapUpdate t mu ku u) w X ρ H (rIns kd m k x H) := by
  cases m with
  | om r ver =>
    cases k with
    | v k =>
      have := rep_v hkr; subst this
      simp only [rIns]
      cases ho : H[r]? with
      | none => intro hok; exact hok.elim
      | some obj =>
        cases obj <;> first | (intro hok; exact hok.elim) | skip
        rename_i ver' ks vs
        rintro ⟨hv, hfr, hki, hcl⟩
        subst hv
        obtain ⟨h1, b, es, clock, hblk, hh, hks, hvs, hr⟩ := h.objs r _ ho
        cases hm with
        | om _ _ _ _ hrl hle hone hpt =>
          obtain ⟨b', o', hb', rfl⟩ := hpt h1.symm
          rw [hblk] at hb'
          simp only [Option.some.injEq, Prod.mk.injEq] at hb'
          obtain ⟨rfl, _⟩ := hb'
          obtain ⟨r', hf1, hf2⟩ := findKey_ok (w := w) hk hki es.toList vs (by simpa using hvs) (fun e he => (hfr _ (by rw [hks]; exact List.mem_map.2 ⟨e, he, rfl⟩)).1)
          have hnone : r' = none := by
            rcases hf2 with ⟨h2, _⟩ | ⟨j, e, y, _, _, _, h2⟩
            · exact h2
            · rw [← hks, mget_fresh ks vs fun k' hk' => (hfr k' hk').2] at h2; cases h2
          subst hnone
          have hblt : b < w.heap.size := (h.lt r b 0 hrl hblk).1
          have hget : (getObj b).run P w = .ok (.map es clock) w := by simp [getObj, Sem.run, hh]
          have hset : (setObj b (.map (es.push { key := ku, val := u, born := clock }) (clock + 1))).run P w = .ok () { w with heap := w.heap.setIfInBounds b (.map (es.push { key := ku, val := u, born := clock }) (clock + 1)) } := by
            simp [setObj, Sem.run, hh]
          have hrun : (Instr.mapUpdate t (.map (some b)) ku u).run P w = .ok () { w with heap := w.heap.setIfInBounds b (.map (es.push { key := ku, val := u, born := clock }) (clock + 1)) } := by
            unfold Instr.mapUpdate
            simp only [Sem.run_bind, run_underlying ht, Result.andThen_ok, hget, checkKey_ok hk hki, hf1, hset]
          obtain ⟨ρ', hρ, g1, g2⟩ := h.setAt (w' := { w with heap := w.heap.setIfInBounds b (.map (es.push { key := ku, val := u, born := clock }) (clock + 1)) }) hrl (ρ r) (.map ver (ks ++ [ku]) (vs ++ [x]))
            ⟨rfl, rfl, rfl, by simp⟩ (.inl rfl) (fun b o hb => .inl ⟨o, hb⟩) (fun b' _ hne => by
              have : b ≠ b' := fun e => hne 0 (by rw [← e]; exact hblk)
              simp [Array.getElem?_setIfInBounds_ne this]) (fun ρ' _ hf' => by
              refine ⟨h1, b, es.push { key := ku, val := u, born := clock }, clock + 1, hblk, by simp [hblt], by simp [hks], by simp [hvs], ?_⟩
              intro i y e hy he
              rw [List.getElem?_append] at hy
              split at hy
              · rename_i hi
                rw [Array.getElem?_push, if_neg (by omega)] at he
                exact (hr i y e hy he).next hf' (Nat.zero_le _)
              · rename_i hi
                have hi2 : i = vs.length := by
                  have := (List.getElem?_eq_some_iff.1 hy).1
                  simp at this
                  omega
                subst hi2
                simp at hy
                subst hy
                rw [hvs] at he
                simp at he
                subst he
                exact (hx.of_cl hcl).next hf' (Nat.zero_le _))
          exact ⟨rfl, _, ρ', hrun, g1, g2⟩
    | _ => intro hok; exact hok.elim
  | _ => intro hok; exact hok.elim

/-- What the proof turns by itself: the value of a slot stays, what is known of it changes. -/
theorem snd_frz {x : AV} {u : Value} (h : HRel w X ρ H) (hx : Rp w X ρ H x u) (hok : (rFrz x H).ok) :
    ∃ ρ', HRel w X ρ' (rFrz x H).H ∧ Rep w (Mut X ρ' (rFrz x H).H.length) ρ' (rFrz x H).H.length (rFrz x H).x u ∧ Fut w ρ H.length w ρ' (rFrz x H).H.length := by
  have dead : ∀ r, r < H.length → ∃ ρ', (∀ b o, (ρ r).blk = some (b, o) → ¬ Mut X ρ' H.length b) ∧ HRel w X ρ' (H.set r .dead) ∧ Fut w ρ H.length w ρ' H.length := by
    intro r hr
    obtain ⟨ρ', hρ, hne, g1, g2⟩ := h.setAtX (w' := w) hr { ver := (ρ r).ver + 1 } .dead (Same.refl w) (.inr (Nat.lt_succ_self _)) (fun b o hb => by simp at hb) (fun _ _ _ => rfl) (fun _ _ _ => trivial)
    rw [show (H.set r .dead).length = H.length from List.length_set] at g2
    refine ⟨ρ', fun b o hb hm => ?_, g1, g2⟩
    rcases hm with hx | ⟨r', o', hr', hb'⟩
    · exact (h.lt r b o hr hb).2 hx
    · by_cases hrr : r' = r
      · rw [hrr, hρ] at hb'; simp at hb'
      · rw [hne r' hrr] at hb'
        exact h.inj r' r b o' b o hr' hr hrr hb' hb rfl
  have hlen : ∀ r, (H.set r .dead).length = H.length := fun r => List.length_set
  cases x with
  | sl sz xs => exact ⟨ρ, h, hx, Fut.refl _ _ _⟩
  | v x =>
    have := rep_v hx; subst this
    cases u with
    | slice a n c =>
      cases a <;> cases n <;> cases c <;> first | exact hok.elim | exact ⟨ρ, h, .slE _ _ _ _, Fut.refl _ _ _⟩
    | _ => exact hok.elim
  | os r ver off len =>
    simp only [rFrz] at hok ⊢
    cases ho : H[r]? with
    | none => rw [ho] at hok; exact hok.elim
    | some obj =>
      rw [ho] at hok
      cases obj <;> first | exact hok.elim | skip
      rename_i ver' sz xs
      obtain ⟨hv, hol⟩ := hok
      subst hv
      obtain ⟨hrl, hver, hsz', hsz, hrowx, hext, ⟨a, cap, rfl, hlc, hcap⟩, hblk⟩ := os_arr h hx ho rfl
      obtain ⟨ρ', hmut, g1, g2⟩ := dead r hrl
      simp only [hlen]
      refine ⟨ρ', g1, ?_, g2⟩
      have hl' : ((xs.drop off).take len).length = len := by simp; omega
      rcases hcap with hc0 | ⟨b, o, hb, rfl, he⟩
      · have : len = 0 := by omega
        subst this
        simp only [List.take_zero]
        exact .slE _ _ _ _
      · obtain ⟨c, e, fr, hh, hsize, hfr, hrep⟩ := hblk b o hb
        have hget : ∀ i y, ((xs.drop off).take len)[i]? = some y → xs[off + i]? = some y := by
          intro i y hy
          rw [List.getElem?_take] at hy
          split at hy
          · rwa [List.getElem?_drop] at hy
          · cases hy
        have hat : ∀ (i j : Nat) (y : List AV) (z : AV), ((xs.drop off).take len)[i]? = some y → y[j]? = some z → xs[off + i]? = some y ∧ o + (off + i) * sz + j < c.size := by
          intro i j y z hy hz
          have g := hget i y hy
          refine ⟨g, ?_⟩
          have h1 : off + i < xs.length := (List.getElem?_eq_some_iff.1 g).1
          have h2 : j < y.length := (List.getElem?_eq_some_iff.1 hz).1
          rw [hrowx y (List.mem_of_getElem? g)] at h2
          have := mul_lt_of h1 h2
          omega
        have := Rep.slN (w := w) (M := Mut X ρ' H.length) (ρ := ρ') H.length sz ((xs.drop off).take len) b (o + off * sz) cap (fun i j => c.getD (o + (off + i) * sz + j) undef) (hmut b o hb) (h.lt r b o hrl hb).1 (by omega)
          (fun y hy => hrowx y (List.mem_of_mem_drop (List.mem_of_mem_take hy)))
          (fun i j y z hy hz => by
            obtain ⟨g, hlt⟩ := hat i j y z hy hz
            refine ⟨?_, (hrep _ _ _ _ _ g hz (get_some hlt)).2⟩
            rw [cell_of_blk hh, show o + off * sz + i * sz + j = o + (off + i) * sz + j by rw [Nat.add_mul]; omega]
            exact get_some hlt)
          (fun i j y z hy hz => by
            obtain ⟨g, hlt⟩ := hat i j y z hy hz
            exact (hrep _ _ _ _ _ g hz (get_some hlt)).1.next g2 (Nat.zero_le _))
        rw [hl'] at this
        rw [hsz']
        exact this
  | om r ver =>
    simp only [rFrz] at hok ⊢
    cases ho : H[r]? with
    | none => rw [ho] at hok; exact hok.elim
    | some obj =>
      rw [ho] at hok
      cases obj <;> first | exact hok.elim | skip
      rename_i ver' ks vs
      have hv : ver = ver' := hok
      subst hv
      obtain ⟨h1, b, es, clock, hblk, hh, hks, hvs, hr⟩ := h.objs r _ ho
      cases hx with
      | om _ _ _ _ hrl hle hone hpt =>
        obtain ⟨b', o', hb', rfl⟩ := hpt h1.symm
        rw [hblk] at hb'
        simp only [Option.some.injEq, Prod.mk.injEq] at hb'
        obtain ⟨rfl, _⟩ := hb'
        obtain ⟨ρ', hmut, g1, g2⟩ := dead r hrl
        simp only [hlen]
        refine ⟨ρ', g1, ?_, g2⟩
        exact .mp _ _ _ _ es clock (hmut b 0 hblk) (h.lt r b 0 hrl hblk).1 hh hks hvs fun i x e hx he => (hr i x e hx he).next g2 (Nat.zero_le _)
  | ptr r ver off =>
    simp only [rFrz] at hok ⊢
    cases ho : H[r]? with
    | none => rw [ho] at hok; exact hok.elim
    | some obj =>
      rw [ho] at hok
      cases obj <;> first | exact hok.elim | skip
      rename_i cs
      obtain ⟨hv, hcl⟩ := hok
      obtain ⟨hrl, b, c, e, fr, hblk, rfl, hh, hl, hfr, hver, hrep⟩ := ptr_box h hx ho hv
      obtain ⟨ρ', hmut, g1, g2⟩ := dead r hrl
      simp only [hlen]
      refine ⟨ρ', g1, ?_, g2⟩
      have := Rep.vp (w := w) (M := Mut X ρ' H.length) (ρ := ρ') H.length cs off b 0 (fun j => c.getD j undef) (hmut b 0 hblk) (h.lt r b 0 hrl hblk).1
        (fun j y hy => by
          have hlt : j < c.size := by have := (List.getElem?_eq_some_iff.1 hy).1; omega
          refine ⟨?_, (hrep j y _ hy (get_some hlt)).2⟩
          rw [cell_of_blk hh, Nat.zero_add]
          exact get_some hlt)
        (fun j y hy => by
          have hlt : j < c.size := by have := (List.getElem?_eq_some_iff.1 hy).1; omega
          exact ((hrep j y _ hy (get_some hlt)).1.of_cl (clL_all hcl hy)).next g2 (Nat.zero_le _))
      rw [Nat.zero_add] at this
      exact this
  | _ => exact hok.elim

theorem snd_own {sz : Nat} {x : AV} {u : Value} (h : HRel w X ρ H) (hx : Rp w X ρ H x u) (hok : (rOwn sz x H).ok) :
    ∃ ρ', HRel w X ρ' (rOwn sz x H).H ∧ Rep w (Mut X ρ' (rOwn sz x H).H.length) ρ' (rOwn sz x H).H.length (rOwn sz x H).x u ∧ Fut w ρ H.length w ρ' (rOwn sz x H).H.length := by
  cases x with
  | v x =>
    have := rep_v hx; subst this
    cases u with
    | slice a n c =>
      cases a <;> cases n <;> cases c <;> first | exact hok.elim | exact none_own h hok none
    | _ => exact hok.elim
  | _ => exact hok.elim

theorem shape_new (w : World) (C : Array Value) (el : TypeId) : (w.alloc (.cells C el)).shape? w.heap.size = some (el, C.size) := by
  unfold World.shape?
  rw [heap_new]

theorem rowBytes_cells : ∀ (ys : List (List AV)) (l : List UInt8) (cs : List Value), rowBytes ys = some l → cs.length = ys.length → (∀ (i j : Nat) (y : List AV) (z : AV) (v : Value), ys[i]? = some y → y[j]? = some z → cs[i + j]? = some v → Rep w (Mut X ρ H.length) ρ 0 z v) →
    ∃ ns : List Int, cs = ns.map (Value.int .u8) ∧ l = ns.map fun n => UInt8.ofNat n.toNat
  | [], l, cs, h, hl, _ => by
    simp [rowBytes] at h
    subst h
    have : cs = [] := List.eq_nil_of_length_eq_zero (by simpa using hl)
    subst this
    exact ⟨[], rfl, rfl⟩
  | y :: ys, l, cs, h, hl, hr => by
    cases cs with
    | nil => simp at hl
    | cons c cs =>
      unfold rowBytes at h
      split at h
      · rename_i heq; cases heq
      · rename_i n ys' heq
        injection heq with e1 e2
        subst e1 e2
        cases hb : rowBytes ys with
        | none => simp [hb] at h
        | some m =>
          simp [hb] at h
          subst h
          obtain ⟨ns, h1, h2⟩ := rowBytes_cells ys m cs hb (by simpa using hl) (fun i j y z v hy hz hv => hr (i + 1) j y z v (by simpa using hy) hz (by rw [show i + 1 + j = (i + j) + 1 by omega]; simpa using hv))
          have hc := hr 0 0 [.v (.int .u8 n)] (.v (.int .u8 n)) c rfl rfl rfl
          have := rep_vx hc
          subst this
          exact ⟨n :: ns, by rw [h1]; rfl, by rw [h2]; rfl⟩
      · cases h

theorem foldl_push : ∀ (ns : List Int) (r : ByteArray), ns.foldl (fun r n => r.push (UInt8.ofNat n.toNat)) r = mkS (bs r ++ ns.map fun n => UInt8.ofNat n.toNat)
  | [], r => by
    apply ByteArray.ext
    simp [mkS, bs]
  | n :: ns, r => by
    rw [List.foldl_cons, foldl_push ns]
    simp [mkS, bs, ByteArray.push]

theorem snd_conv {src dst : TypeId} {c : Cv} {x : AV} {u : Value}
    (ht : match c with
      | .toInt k => (∃ d, P.underlying src = some d) ∧ P.underlying dst = some (.int k)
      | .same => P.underlying src = some .string ∧ P.underlying dst = some .string
      | .runeStr => (∃ k, P.underlying src = some (.int k)) ∧ P.underlying dst = some .string
      | .strBytes => P.underlying src = some .string ∧ ∃ e, P.underlying dst = some (.slice e) ∧ P.underlying e = some (.int .u8)
      | .bytesStr => (∃ e, P.underlying src = some (.slice e) ∧ P.underlying e = some (.int .u8)) ∧ P.underlying dst = some .string
      | .sameB => ∃ e, P.underlying src = some (.slice e) ∧ P.underlying e = some (.int .u8) ∧ src = dst)
    (h : HRel w X ρ H) (hx : Rp w X ρ H x u) : Gives P (convert src dst u) w X ρ H (rConv c x H) := by
  cases c with
  | toInt k =>
    obtain ⟨⟨d, h1⟩, h2⟩ := ht
    cases x with
    | v x =>
      have := rep_v hx; subst this
      cases u <;> first | exact gives_no | skip
      refine gives_v h fun _ => ?_
      simp [convert, run_underlying h1, run_underlying h2, Conv.intToInt]
    | _ => exact gives_no
  | same =>
    cases x with
    | v x =>
      have := rep_v hx; subst this
      cases u <;> first | exact gives_no | skip
      refine gives_v h fun _ => ?_
      simp [convert, run_underlying ht.1, run_underlying ht.2]
    | _ => exact gives_no
  | runeStr =>
    obtain ⟨⟨k, h1⟩, h2⟩ := ht
    cases x with
    | v x =>
      have := rep_v hx; subst this
      cases u <;> first | exact gives_no | skip
      refine gives_v h fun _ => ?_
      simp [convert, run_underlying h1, run_underlying h2, Conv.intToString]
    | _ => exact gives_no
  | strBytes =>
    obtain ⟨h1, e, h2, h3⟩ := ht
    cases x with
    | v x =>
      have := rep_v hx; subst this
      cases u <;> first | exact gives_no | skip
      rename_i s
      intro hlen
      have hrun := run_bytes_of_string w src dst e s h1 h2 h3
      have hge : s.size ≤ grownCap w s.size 0 e := grownCap_ge _ _ _ _
      have hC : bytesRow s (grownCap w s.size 0 e) = (s.data.map fun b => Value.int .u8 b.toNat) ++ Array.replicate (grownCap w s.size 0 e - s.size) (.int .u8 0) := rfl
      have hrows : Rows w (Mut X ρ H.length) ρ (bytesRow s (grownCap w s.size 0 e)) 0 1 ((bs s).map byteRow) := by
        refine ⟨?_, fun x hx => ?_, fun i j x y v hx hy hv => ?_⟩
        · rw [hC]; simp [bs]
        · simp only [List.mem_map] at hx; obtain ⟨b, _, rfl⟩ := hx; rfl
        · simp only [List.getElem?_map] at hx
          cases hb : (bs s)[i]? with
          | none => simp [hb] at hx
          | some b =>
            simp [hb] at hx
            subst hx
            cases j with
            | succ j => simp [byteRow] at hy
            | zero =>
              simp [byteRow] at hy
              subst hy
              have hi : i < (bs s).length := (List.getElem?_eq_some_iff.1 hb).1
              have hi' : i < s.data.size := by simpa [bs] using hi
              rw [hC, Array.getElem?_append_left (by simp; exact hi')] at hv
              have hb' : s.data[i]? = some b := by simpa [bs] using hb
              simp [hb'] at hv
              subst hv
              exact ⟨.v _ _, rfl⟩
      obtain ⟨g1, g2, g3⟩ := new_imm (w1 := w.drew.alloc (.cells (bytesRow s (grownCap w s.size 0 e)) e ((bytesRow s (grownCap w s.size 0 e)).size, (bytesRow s (grownCap w s.size 0 e)).size + 1))) h ((Same.drew w).trans (Same.alloc _ _)) (heap_old w.drew _) (Nat.le_refl _) (by simp) (heap_new w.drew _) hrows (cap := grownCap w s.size 0 e) (by simp [len_bs]; exact hge)
      have hl : ((bs s).map byteRow).length = s.size := by simp [len_bs]
      rw [hl] at g2
      exact ⟨_, _, ρ, hrun, g1, g2, g3⟩
    | _ => exact gives_no
  | bytesStr =>
    obtain ⟨⟨e, h1, h2⟩, h3⟩ := ht
    have main : ∀ (a : Option Addr) (len cap : Nat), u = .slice a len cap → szOk H 1 x ∧ ((rowsOf H x).bind rowBytes).isSome = true → ∃ v, (convert src dst u).run P w = .ok v w ∧ Rp w X ρ H (str (((rowsOf H x).bind rowBytes).getD [])) v := by
      intro a len cap hu ⟨hs, hb⟩
      cases hr : rowsOf H x with
      | none => simp [hr] at hb
      | some ys =>
        cases hl : rowBytes ys with
        | none => simp [hr, hl] at hb
        | some l =>
          obtain ⟨hlen, hsrc⟩ := rows_src (P := P) h hx hr hs (by omega)
          obtain ⟨cs, hcl, hf, _, _, hrep⟩ := hsrc ys.length (Nat.le_refl _)
          obtain ⟨ns, hns, hl2⟩ := rowBytes_cells ys l cs hl (by simpa using hcl) (fun i j y z v hy hz hv => hrep i j y z v (List.getElem?_eq_some_iff.1 hy).1 hy hz (by simpa using hv))
          subst hu
          have hlen' : len = ys.length := by
            simp [Builtin.lenOf] at hlen
            exact hlen
          refine ⟨.string (mkS l), ?_, by simp [hl]; exact .v _ _⟩
          rw [run_convert_bytes_string w src dst e a len cap h1 h2 h3]
          cases a with
          | none =>
            have h0 := hf w fun _ => rfl
            simp [Builtin.firstCells] at h0
            subst h0
            have : ns = [] := by cases ns <;> simp at hns ⊢
            subst this
            simp at hl2
            subst hl2
            rfl
          | some a =>
            have h0 := hf w fun _ => rfl
            simp only [Builtin.firstCells, Nat.mul_one] at h0
            rw [run_bytesToString w a len cap ns (by rw [hlen', h0, hns]), foldl_push, hl2]
            rfl
    cases x with
    | v x =>
      have := rep_v hx; subst this
      cases u <;> first | exact gives_no | skip
      case slice a n c =>
        exact gives_pure h fun hp => main a n c rfl hp
      all_goals exact gives_pure h fun hp => by have := hp.1; simp [szOk] at this
    | sl sz xs =>
      cases hx with
      | slE _ _ a cap => exact gives_pure h fun hp => main _ _ _ rfl hp
      | slN _ _ _ b o cap c => exact gives_pure h fun hp => main _ _ _ rfl hp
    | os r ver off len =>
      refine gives_pure h fun hp => ?_
      have hb := hp.2
      cases ho : H[r]? with
      | none => simp [rowsOf, osRows, ho] at hb
      | some obj =>
        cases obj <;> simp [rowsOf, osRows, ho] at hb
        rename_i ver' sz' xs
        by_cases hv : ver = ver'
        · obtain ⟨_, _, _, _, _, _, ⟨a, cap, hu, _⟩, _⟩ := os_arr h hx ho hv
          exact main a len cap hu hp
        · simp [hv] at hb
    | nc =>
      cases hx
      exact gives_pure h fun hp => main _ _ _ rfl hp
    | _ => exact gives_pure h fun hp => by have := hp.1; simp [szOk] at this
  | sameB =>
    obtain ⟨e, h1, h2, h3⟩ := ht
    subst h3
    cases x with
    | os r ver off len =>
      refine fun ⟨hl, hba, hv⟩ => ?_
      obtain ⟨ver', sz, xs, ho⟩ := isArr_some hba
      rw [ho] at hv
      simp only [isVer] at hv
      obtain ⟨hrl, hver, hsz', hsz, hrowx, hext, ⟨a, cap, rfl, hlc, hcap⟩, hblk⟩ := os_arr h hx ho hv
      rcases hcap with hc0 | ⟨b, o, hb, rfl, he⟩
      · omega
      · obtain ⟨c, el, fr, hh, hsize, hfr, hrep⟩ := hblk b o hb
        have hblt : b < w.heap.size := (h.lt r b o hrl hb).1
        have hshape : w.shape? b = some (el, c.size) := by simp [World.shape?, hh]
        have hrun : (convert src src (.slice (some ⟨b, o + off * (ρ r).sz, none⟩) len cap)).run P w = .ok (.slice (some ⟨b, o + off * (ρ r).sz, none⟩) len cap) (w.freeze ⟨b, c.size, none⟩ 1) := by
          simp [convert, run_underlying h1, run_underlying h2, markStringish, hshape]
        have hfz : (w.freeze ⟨b, c.size, none⟩ 1).heap[b]? = some (.cells c el (if fr.1 == fr.2 then (c.size, c.size + 1) else (min fr.1 c.size, max fr.2 (c.size + 1)))) := by
          simp [World.freeze, Array.getElem?_modify, hh]
        have hfo : ∀ b', b' ≠ b → (w.freeze ⟨b, c.size, none⟩ 1).heap[b']? = w.heap[b']? := by
          intro b' hb'
          simp [World.freeze, Array.getElem?_modify, Ne.symm hb']
        obtain ⟨ρ', hρ, g1, g2⟩ := h.setAt (w' := w.freeze ⟨b, c.size, none⟩ 1) hrl (ρ r) (.arr ver' sz xs) ⟨rfl, rfl, rfl, by simp [World.freeze]⟩ (.inl rfl) (fun b o hb => .inl ⟨o, hb⟩)
          (fun b' _ hne => hfo b' fun e => hne o (by rw [e]; exact hb)) (fun ρ' _ hf' => by
            refine ⟨by omega, hsz', hsz, hrowx, hext, ?_⟩
            rw [hb]
            refine ⟨c, el, _, hfz, hsize, ?_, fun i j x y u hx hy hu => ⟨(hrep i j x y u hx hy hu).1.next hf' (Nat.zero_le _), (hrep i j x y u hx hy hu).2⟩⟩
            rcases hfr with hfr | hfr
            · simp [hfr, noFr]
            · split
              · right; simp
              · right; simp; omega)
        have hset : H.set r (.arr ver' sz xs) = H := by
          apply List.ext_getElem?
          intro i
          by_cases hi : i = r
          · subst hi; rw [List.getElem?_set_self hrl, ho]
          · rw [List.getElem?_set_ne (fun e => hi e.symm)]
        rw [hset] at g1 g2
        exact ⟨_, _, ρ', hrun, g1, Rep.nextN g2 hx, g2⟩
    | v x => cases x <;> exact gives_no
    | _ => exact gives_no
end
end Go.Ax
