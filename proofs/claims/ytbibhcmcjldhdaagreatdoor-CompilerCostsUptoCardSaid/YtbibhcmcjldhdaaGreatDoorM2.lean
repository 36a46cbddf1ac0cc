/- Parts, merged by a program (wip/tools/merge2.py): Ax15 Ax16 Ax17 Ax18 Ax19 Ax20 Ax20b Ax20c Ax20d Ax20e Ax20f. -/
import Derived.Test.YtbibhcmcjldhdaaGreatDoorM1
import Derived.Maps.RangeRun
import Derived.Deep.LoopGhost
import Derived.TacticsIn
import Derived.OrdersIn
import Derived.StillTail
namespace Go.Ax
open Go Go.RowKit
section
variable {P : Program} {w w1 : World} {X : Nat → Prop} {ρ : Nat → Loc} {H : zC}
theorem snd_copy {t u el : TypeId} {sz : Nat} {ty : TypeId} {s x : AV} {sv v : Value} (ht : P.underlying t = some (.slice el)) (hn : zCv P el = some sz) (hsz : 0 < sz)
  (h : HRel w X ρ H) (hs : Rp w X ρ H s sv) (hx : Rp w X ρ H x v) : zAR P (Builtin.copy_ #[t, u] ty #[sv, v]) w X ρ H (rCopy sz s x H) := by
 cases s with
 | os r ver off len =>
  cases hr : rowsOf H x with
  | none => simp only [rCopy, hr]; exact zE
  | some ys =>
   simp only [rCopy, hr]
   cases ho : H[r]? with
   | none => exact zE
   | some obj =>
    cases obj <;> first | exact zE | skip
    rename_i ver' sz' xs
    rintro ⟨hv, hss, hso, hfitx⟩
    subst hv hss
    obtain ⟨hrl, hver, hsz', _, hrowx, hext, ⟨a, cap, rfl, hlc, hcap⟩, hblk⟩ := os_arr h hs ho rfl
    obtain ⟨hlen, hsrc⟩ := zC3 (P := P) h hx hr hso hsz
    generalize hm : min ys.length len = m
    obtain ⟨cs, hl, hf, h1, hrow, hrep⟩ := hsrc m (by omega)
    have hf := hf w fun _ => rfl
    have hrunA : ∀ w', (match a with | some a => (storeCells a cs).run P w = .ok () w' | none => w' = w) → (Builtin.copy_ #[t, u] ty #[.slice a len cap, v]).run P w = .ok (.int .i64 (m : Nat)) w' := by
     intro w' hst
     have hmin : Nat.min ys.length len = m := hm
     unfold Builtin.copy_
     simp only [List.getElem?_toArray, List.getElem?_cons_zero, List.getElem?_cons_succ, Sem.run_bind, run_underlying ht, Result.andThen_ok, hlen, hmin, zBI hn, hf]
     cases a with
     | none => simp only at hst; subst hst; simp [goInt]
     | some a => simp only at hst; simp [hst, goInt]
    have hy' : (ys.take m).length = m := by simp; omega
    rcases hcap with hc0 | ⟨b, o, hb', rfl, he⟩
    ·have hl0 : len = 0 := by omega
     have hm0 : m = 0 := by omega
     subst hm0
     have hcs : cs = [] := List.eq_nil_of_length_eq_zero (by simpa using hl)
     subst hcs
     have hrun := hrunA w (by cases a <;> simp [storeCells])
     obtain ⟨ρ', hρ, g1, g2⟩ := h.setAt (w' := w) hrl (ρ r) (.arr ver sz' (xs.take off ++ ys.take 0 ++ xs.drop (off + 0))) (Same.refl w) (.inl rfl) (fun b o hb => .inl ⟨o, hb⟩) (fun _ _ _ => rfl)
      (fun ρ' _ hf' => by
       simp only [List.take_zero, List.append_nil, Nat.add_zero, List.take_append_drop]
       exact (h.objs r _ ho).next hf' fun _ _ _ => rfl)
     exact ⟨_, _, ρ', hrun, g1, .v _ _, g2⟩
    ·obtain ⟨c, e, fr, hh, hsize, hfr, hrepo⟩ := hblk b o hb'
     have hxs := hext
     have hofs : (off + m) * sz' ≤ xs.length * sz' := Nat.mul_le_mul_right _ (by omega)
     rw [Nat.add_mul] at hofs
     have hfit : o + off * sz' + cs.length ≤ c.size := by rw [hl]; omega
     have hst := zA1 (P := P) b (o + off * sz') e fr cs 0 c w hh hfr (by simpa using hfit) h1
     simp only [Nat.add_zero] at hst
     have hrun := hrunA _ (by simp only; rw [hsz']; exact hst)
     obtain ⟨ρ', hρ, g1, g2⟩ := h.setAt (w' := w.setRow b (c.toList.take (o + off * sz') ++ cs ++ c.toList.drop (o + off * sz' + cs.length)).toArray) hrl (ρ r) (.arr ver sz' (xs.take off ++ ys.take m ++ xs.drop (off + m))) (Same.setRow _ _ _)
      (.inl rfl) (fun b o hb => .inl ⟨o, hb⟩) (fun b' _ hne => setRow_other _ _ _ _ (fun e => hne o (by rw [e]; exact hb')))
      (fun ρ' _ hf' => by
       have hcsz : ((c.toList.take (o + off * sz') ++ cs ++ c.toList.drop (o + off * sz' + cs.length)).toArray).size = c.size := by simp; omega
       refine ⟨hver, hsz', hsz, ?_, ?_, ?_⟩
       ·intro y hy
        rcases List.mem_append.1 hy with hy | hy
        ·rcases List.mem_append.1 hy with hy | hy
         ·exact hrowx y (List.mem_of_mem_take hy)
         ·exact hrow y (List.mem_of_mem_take hy)
        ·exact hrowx y (List.mem_of_mem_drop hy)
       ·have : (xs.take off ++ ys.take m ++ xs.drop (off + m)).length = xs.length := by simp; omega
        rw [this]
        exact hext
       ·rw [hb']
        refine ⟨_, e, fr, setRow_heap w b c _ e fr hh, by rw [hcsz]; exact hsize, by rw [hcsz]; exact hfr, ?_⟩
        intro k j x' y zz hx' hy hzz
        have hzz' : (c.toList.take (o + off * sz') ++ cs ++ c.toList.drop (o + off * sz' + cs.length))[o + k * sz' + j]? = some zz := by simpa using hzz
        rw [zAC _ _ _ _ (by simpa using hfit), hl] at hzz'
        have hx2 : (xs.take off ++ ys.take m ++ xs.drop (off + (ys.take m).length))[k]? = some x' := by rw [hy']; exact hx'
        rw [zAC _ _ _ _ (by rw [hy']; omega), hy'] at hx2
        have hj : j < sz' := by
         have h2 := (List.getElem?_eq_some_iff.1 hy).1
         have hmm : x'.length = sz' := by
          rcases List.mem_append.1 (List.mem_of_getElem? hx') with h | h
          ·rcases List.mem_append.1 h with h | h
           ·exact hrowx x' (List.mem_of_mem_take h)
           ·exact hrow x' (List.mem_of_mem_take h)
          ·exact hrowx x' (List.mem_of_mem_drop h)
         omega
        by_cases hk1 : k < off
        ·have := zA2 hk1 hj
         rw [if_pos hk1] at hx2
         rw [if_pos (by omega)] at hzz'
         have := hrepo k j x' y zz hx2 hy (by simpa using hzz')
         exact ⟨this.1.nextN hf', this.2⟩
        ·rw [if_neg hk1] at hx2
         have hke : k * sz' = off * sz' + (k - off) * sz' := by rw [← Nat.add_mul]; congr 1; omega
         by_cases hk2 : k < off + m
         ·have hk3 : k - off < m := by omega
          have := zA2 hk3 hj
          rw [if_pos hk2, List.getElem?_take, if_pos hk3] at hx2
          rw [if_neg (by omega), if_pos (by omega), show o + k * sz' + j - (o + off * sz') = (k - off) * sz' + j by omega] at hzz'
          exact ⟨(hrep _ j x' y zz hk3 hx2 hy hzz').nextN hf', zCP h1 hzz'⟩
         ·rw [if_neg hk2] at hx2
          have : m * sz' ≤ (k - off) * sz' := Nat.mul_le_mul_right _ (by omega)
          rw [if_neg (by omega), if_neg (by omega)] at hzz'
          have := hrepo k j x' y zz hx2 hy (by simpa using hzz')
          exact ⟨this.1.nextN hf', this.2⟩)
     exact ⟨_, _, ρ', hrun, g1, .v _ _, g2⟩
 | _ => simp only [rCopy]; exact zE
theorem snd_mkmap {t : TypeId} (h : HRel w X ρ H) : zAR P (Instr.makeMap t none) w X ρ H ⟨True, .om H.length 0, H ++ [.map 0 [] []]⟩ := by
 intro _
 obtain ⟨ρ', hl, hrel, hf⟩ := h.push (w' := w.alloc (.map #[] 0)) { blk := some (w.heap.size, 0) } (.map 0 [] []) (Same.alloc _ _) (fun b o hb => by simp at hb; obtain ⟨rfl, _⟩ := hb; simp) (zBa w _)
  (fun ρ' hf hl' => ⟨rfl, w.heap.size, #[], 0, rfl, zBA w _, ⟨rfl, by simp, by simp⟩, rfl, fun i x e hx => by simp at hx⟩)
 refine ⟨.map (some w.heap.size), _, ρ', by simp [Instr.makeMap], hrel, ?_, hf⟩
 exact .om _ _ _ _ (by simp) (by rw [hl]; exact Nat.le_refl _) rfl fun _ => ⟨w.heap.size, 0, by rw [hl], rfl⟩
theorem mget_fresh {k : Value} : ∀ (ks : List Value) (vs : List AV), (∀ k' ∈ ks, kEq k k' = false) → mget k ks vs = none
 | [], vs, _ => by cases vs <;> rfl
 | k' :: ks, [], _ => rfl
 | k' :: ks, v :: vs, h => by
  simp only [mget, h k' (by simp), Bool.false_eq_true, if_false]
  exact mget_fresh ks vs fun k hk => h k (by simp [hk])
theorem snd_ins {t kt el : TypeId} {kd : KD} {m k x : AV} {mu ku u : Value} (ht : P.underlying t = some (.map kt el)) (hk : keyKD P kt = some kd) (h : HRel w X ρ H) (hm : Rp w X ρ H m mu) (hkr : Rp w X ρ H k ku) (hx : Rp w X ρ H x u) :
  GivesU P (Instr.mapUpdate t mu ku u) w X ρ H (rIns kd m k x H) := by
 cases m with
 | om r ver =>
  cases k with
  | v k =>
   have := zAP hkr; subst this
   simp only [rIns]
   cases ho : H[r]? with
   | none => intro hok; exact hok.elim
   | some obj =>
    cases obj <;> first | (intro hok; exact hok.elim) | skip
    rename_i ver' ks vs
    rintro ⟨hv, hfr, hki, hcl⟩
    subst hv
    obtain ⟨h1, b, es, clock, hblk, hh, ⟨hks, hbn, hnd⟩, hvs, hr⟩ := h.objs r _ ho
    cases hm with
    | om _ _ _ _ hrl hle hone hpt =>
     obtain ⟨b', o', hb', rfl⟩ := hpt h1.symm
     rw [hblk] at hb'
     simp only [Option.some.injEq, Prod.mk.injEq] at hb'
     obtain ⟨rfl, _⟩ := hb'
     obtain ⟨r', hf1, hf2⟩ := findKey_ok (w := w) hk hki es.toList vs (by simpa using hvs) (fun e he => (hfr _ (by rw [hks]; exact List.mem_map.2 ⟨e, he, rfl⟩)).1)
     have hnone : r' = none := by
      rcases hf2 with ⟨h2, _⟩ | ⟨j, e, y, _, _, _, h2⟩
      ·exact h2
      ·rw [← hks, mget_fresh ks vs fun k' hk' => (hfr k' hk').2] at h2; cases h2
     subst hnone
     have hblt : b < w.heap.size := (h.lt r b 0 hrl hblk).1
     have hget : (getObj b).run P w = .ok (.map es clock) w := by simp [getObj, Sem.run, hh]
     have hset : (setObj b (.map (es.push { key := ku, val := u, born := clock }) (clock + 1))).run P w = .ok () { w with heap := w.heap.setIfInBounds b (.map (es.push { key := ku, val := u, born := clock }) (clock + 1)) } := by
      simp [setObj, Sem.run, hh]
     have hrun : (Instr.mapUpdate t (.map (some b)) ku u).run P w = .ok () { w with heap := w.heap.setIfInBounds b (.map (es.push { key := ku, val := u, born := clock }) (clock + 1)) } := by
      unfold Instr.mapUpdate
      simp only [Sem.run_bind, run_underlying ht, Result.andThen_ok, hget, checkKey_ok hk hki, hf1, hset]
     obtain ⟨ρ', hρ, g1, g2⟩ := h.setAt (w' := { w with heap := w.heap.setIfInBounds b (.map (es.push { key := ku, val := u, born := clock }) (clock + 1)) }) hrl (ρ r) (.map ver (ks ++ [ku]) (vs ++ [x]))
      ⟨rfl, rfl, rfl, by simp⟩ (.inl rfl) (fun b o hb => .inl ⟨o, hb⟩) (fun b' _ hne => by
       have : b ≠ b' := fun e => hne 0 (by rw [← e]; exact hblk)
       simp [Array.getElem?_setIfInBounds_ne this]) (fun ρ' _ hf' => by
       refine ⟨h1, b, es.push { key := ku, val := u, born := clock }, clock + 1, hblk, by simp [hblt], ⟨by simp [hks], ?_, ?_⟩, by simp [hvs], ?_⟩
       ·intro e he
        simp only [Array.toList_push, List.mem_append, List.mem_singleton] at he
        rcases he with he | rfl
        ·have := hbn e he; omega
        ·exact Nat.lt_succ_self _
       ·simp only [Array.toList_push, List.map_append, List.map_cons, List.map_nil, List.nodup_append]
        refine ⟨hnd, by simp, fun x hx y hy => ?_⟩
        obtain ⟨e, he, rfl⟩ := List.mem_map.1 hx
        have := hbn e he
        simp at hy
        omega
       intro i y e hy he
       rw [List.getElem?_append] at hy
       split at hy
       ·rename_i hi
        rw [Array.getElem?_push, if_neg (by omega)] at he
        exact (hr i y e hy he).next hf' (Nat.zero_le _)
       ·rename_i hi
        have hi2 : i = vs.length := by
         have := (List.getElem?_eq_some_iff.1 hy).1
         simp at this
         omega
        subst hi2
        simp at hy
        subst hy
        rw [hvs] at he
        simp at he
        subst he
        exact (hx.of_cl hcl).next hf' (Nat.zero_le _))
     exact ⟨rfl, _, ρ', hrun, g1, g2⟩
  | _ => intro hok; exact hok.elim
 | _ => intro hok; exact hok.elim
theorem snd_frz {x : AV} {u : Value} (h : HRel w X ρ H) (hx : Rp w X ρ H x u) (hok : (rFrz x H).ok) :
  ∃ ρ', HRel w X ρ' (rFrz x H).H ∧ Rep w (Mut X ρ' (rFrz x H).H.length) ρ' (rFrz x H).H.length (rFrz x H).x u ∧ Fut w ρ H.length w ρ' (rFrz x H).H.length := by
 have dead : ∀ r, r < H.length → ∃ ρ', (∀ b o, (ρ r).blk = some (b, o) → ¬ Mut X ρ' H.length b) ∧ HRel w X ρ' (H.set r .dead) ∧ Fut w ρ H.length w ρ' H.length := by
  intro r hr
  obtain ⟨ρ', hρ, hne, g1, g2⟩ := h.setAtX (w' := w) hr { ver := (ρ r).ver + 1 } .dead (Same.refl w) (.inr (Nat.lt_succ_self _)) (fun b o hb => by simp at hb) (fun _ _ _ => rfl) (fun _ _ _ => trivial)
  rw [show (H.set r .dead).length = H.length from List.length_set] at g2
  refine ⟨ρ', fun b o hb hm => ?_, g1, g2⟩
  rcases hm with hx | ⟨r', o', hr', hb'⟩
  ·exact (h.lt r b o hr hb).2 hx
  ·by_cases hrr : r' = r
   ·rw [hrr, hρ] at hb'; simp at hb'
   ·rw [hne r' hrr] at hb'
    exact h.inj r' r b o' b o hr' hr hrr hb' hb rfl
 have hlen : ∀ r, (H.set r .dead).length = H.length := fun r => List.length_set
 cases x with
 | sl sz xs => exact ⟨ρ, h, hx, Fut.refl _ _ _⟩
 | nc => cases hx; exact ⟨ρ, h, .slE _ _ _ _, Fut.refl _ _ _⟩
 | v x =>
  have := zAP hx; subst this
  cases u with
  | slice a n c =>
   cases a <;> cases n <;> cases c <;> first | exact hok.elim | exact ⟨ρ, h, .slE _ _ _ _, Fut.refl _ _ _⟩
  | _ => exact hok.elim
 | os r ver off len =>
  simp only [rFrz] at hok ⊢
  cases ho : H[r]? with
  | none => rw [ho] at hok; exact hok.elim
  | some obj =>
   rw [ho] at hok
   cases obj <;> first | exact hok.elim | skip
   rename_i ver' sz xs
   obtain ⟨hv, hol, hcr⟩ := hok
   subst hv
   obtain ⟨hrl, hver, hsz', hsz, hrowx, hext, ⟨a, cap, rfl, hlc, hcap⟩, hblk⟩ := os_arr h hx ho rfl
   obtain ⟨ρ', hmut, g1, g2⟩ := dead r hrl
   simp only [hlen]
   refine ⟨ρ', g1, ?_, g2⟩
   have hl' : ((xs.drop off).take len).length = len := by simp; omega
   rcases hcap with hc0 | ⟨b, o, hb, rfl, he⟩
   ·have : len = 0 := by omega
    subst this
    simp only [List.take_zero]
    exact .slE _ _ _ _
   ·obtain ⟨c, e, fr, hh, hsize, hfr, hrep⟩ := hblk b o hb
    have hget : ∀ i y, ((xs.drop off).take len)[i]? = some y → xs[off + i]? = some y := by
     intro i y hy
     rw [List.getElem?_take] at hy
     split at hy
     ·rwa [List.getElem?_drop] at hy
     ·cases hy
    have hat : ∀ (i j : Nat) (y : List AV) (z : AV), ((xs.drop off).take len)[i]? = some y → y[j]? = some z → xs[off + i]? = some y ∧ o + (off + i) * sz + j < c.size := by
     intro i j y z hy hz
     have g := hget i y hy
     refine ⟨g, ?_⟩
     have h1 : off + i < xs.length := (List.getElem?_eq_some_iff.1 g).1
     have h2 : j < y.length := (List.getElem?_eq_some_iff.1 hz).1
     rw [hrowx y (List.mem_of_getElem? g)] at h2
     have := zA2 h1 h2
     omega
    have := Rep.slN (w := w) (M := Mut X ρ' H.length) (ρ := ρ') H.length sz ((xs.drop off).take len) b (o + off * sz) cap (fun i j => c.getD (o + (off + i) * sz + j) undef) (hmut b o hb) (h.lt r b o hrl hb).1 (by omega)
     (fun y hy => hrowx y (List.mem_of_mem_drop (List.mem_of_mem_take hy)))
     (fun i j y z hy hz => by
      obtain ⟨g, hlt⟩ := hat i j y z hy hz
      refine ⟨?_, (hrep _ _ _ _ _ g hz (zBo hlt)).2⟩
      rw [zAH hh, show o + off * sz + i * sz + j = o + (off + i) * sz + j by rw [Nat.add_mul]; omega]
      exact zBo hlt)
     (fun i j y z hy hz => by
      obtain ⟨g, hlt⟩ := hat i j y z hy hz
      exact ((hrep _ _ _ _ _ g hz (zBo hlt)).1.of_cl (zDa (List.all_eq_true.1 hcr y (List.mem_of_mem_drop (List.mem_of_mem_take (List.mem_of_getElem? hy)))) hz)).next g2 (Nat.zero_le _))
    rw [hl'] at this
    rw [hsz']
    exact this
 | om r ver =>
  simp only [rFrz] at hok ⊢
  cases ho : H[r]? with
  | none => rw [ho] at hok; exact hok.elim
  | some obj =>
   rw [ho] at hok
   cases obj <;> first | exact hok.elim | skip
   rename_i ver' ks vs
   have hv : ver = ver' := hok
   subst hv
   obtain ⟨h1, b, es, clock, hblk, hh, hks, hvs, hr⟩ := h.objs r _ ho
   cases hx with
   | om _ _ _ _ hrl hle hone hpt =>
    obtain ⟨b', o', hb', rfl⟩ := hpt h1.symm
    rw [hblk] at hb'
    simp only [Option.some.injEq, Prod.mk.injEq] at hb'
    obtain ⟨rfl, _⟩ := hb'
    obtain ⟨ρ', hmut, g1, g2⟩ := dead r hrl
    simp only [hlen]
    refine ⟨ρ', g1, ?_, g2⟩
    exact .mp _ _ _ _ es clock (hmut b 0 hblk) (h.lt r b 0 hrl hblk).1 hh hks hvs fun i x e hx he => (hr i x e hx he).next g2 (Nat.zero_le _)
 | ptr r ver off =>
  simp only [rFrz] at hok ⊢
  cases ho : H[r]? with
  | none => rw [ho] at hok; exact hok.elim
  | some obj =>
   rw [ho] at hok
   cases obj <;> first | exact hok.elim | skip
   rename_i cs
   obtain ⟨hv, hcl⟩ := hok
   obtain ⟨hrl, b, c, e, fr, hblk, rfl, hh, hl, hfr, hver, hrep⟩ := zCG h hx ho hv
   obtain ⟨ρ', hmut, g1, g2⟩ := dead r hrl
   simp only [hlen]
   refine ⟨ρ', g1, ?_, g2⟩
   have := Rep.vp (w := w) (M := Mut X ρ' H.length) (ρ := ρ') H.length cs off b 0 (fun j => c.getD j undef) (hmut b 0 hblk) (h.lt r b 0 hrl hblk).1
    (fun j y hy => by
     have hlt : j < c.size := by have := (List.getElem?_eq_some_iff.1 hy).1; omega
     refine ⟨?_, (hrep j y _ hy (zBo hlt)).2⟩
     rw [zAH hh, Nat.zero_add]
     exact zBo hlt)
    (fun j y hy => by
     have hlt : j < c.size := by have := (List.getElem?_eq_some_iff.1 hy).1; omega
     exact ((hrep j y _ hy (zBo hlt)).1.of_cl (zDa hcl hy)).next g2 (Nat.zero_le _))
   rw [Nat.zero_add] at this
   exact this
 | _ => exact hok.elim
theorem snd_frzN {sz : Nat} {x : AV} {u : Value} (h : HRel w X ρ H) (hx : Rp w X ρ H x u) (hok : (rFrzN sz x H).ok) :
  ∃ ρ', HRel w X ρ' (rFrzN sz x H).H ∧ Rep w (Mut X ρ' (rFrzN sz x H).H.length) ρ' (rFrzN sz x H).H.length (rFrzN sz x H).x u ∧ Fut w ρ H.length w ρ' (rFrzN sz x H).H.length := by
 cases x with
 | sl sz xs => exact ⟨ρ, h, hx, Fut.refl _ _ _⟩
 | v x =>
  have := zAP hx; subst this
  cases u with
  | slice a n c =>
   cases a <;> cases n <;> cases c <;> first | exact hok.elim | exact ⟨ρ, h, .slE _ _ _ _, Fut.refl _ _ _⟩
  | _ => exact hok.elim
 | os r ver off len => exact snd_frz h hx hok
 | _ => exact hok.elim
theorem frzN_at {sz : Nat} {y : AV} {cs : List AV} {r : Nat} (hr : H[r]? = some (.box cs)) (hok : (rFrzN sz y H).ok) : (rFrzN sz y H).H[r]? = some (.box cs) ∧ (rFrzN sz y H).H.length = H.length ∧ ∀ t, (rFrzN sz y H).x ≠ .bnil t := by
 cases y with
 | sl sz xs => exact ⟨hr, rfl, fun _ h => by cases h⟩
 | v x =>
  cases x with
  | slice a n c =>
   cases a <;> cases n <;> cases c <;> first | exact hok.elim | exact ⟨hr, rfl, fun _ h => by cases h⟩
  | _ => exact hok.elim
 | os r' ver off len =>
  simp only [rFrzN, rFrz] at hok ⊢
  cases ho : H[r']? with
  | none => rw [ho] at hok; exact hok.elim
  | some obj =>
   rw [ho] at hok
   cases obj <;> first | exact hok.elim | skip
   simp only
   refine ⟨?_, by simp, fun _ h => by cases h⟩
   rw [List.getElem?_set_ne (fun e => by subst e; rw [ho] at hr; cases hr)]
   exact hr
 | _ => exact hok.elim
theorem snd_frzf {sz off : Nat} {x : AV} {u : Value} (h : HRel w X ρ H) (hx : Rp w X ρ H x u) (hok : (rFrzf sz off x H).ok) :
  ∃ ρ', HRel w X ρ' (rFrzf sz off x H).H ∧ Rep w (Mut X ρ' (rFrzf sz off x H).H.length) ρ' (rFrzf sz off x H).H.length (rFrzf sz off x H).x u ∧ Fut w ρ H.length w ρ' (rFrzf sz off x H).H.length := by
 cases x with
 | agg cs =>
  simp only [rFrzf] at hok ⊢
  cases hy : cs[off]? with
  | none => rw [hy] at hok; exact hok.elim
  | some y =>
   rw [hy] at hok
   simp only [rFrzfO, rFrzO] at hok ⊢
   cases hx with
   | agg _ _ us hl hr =>
    have hlt : off < us.size := by have := (List.getElem?_eq_some_iff.1 hy).1; omega
    obtain ⟨ρ', g1, g2, g3⟩ := snd_frzN h (hr off y _ hy (Array.getElem?_eq_getElem hlt)) hok
    refine ⟨ρ', g1, .agg _ _ _ (by simpa using hl) fun i z v hz hv => ?_, g3⟩
    rw [List.getElem?_set] at hz
    split at hz
    ·rename_i hi
     subst hi
     split at hz
     ·cases hz
      rw [Array.getElem?_eq_getElem hlt] at hv
      cases hv
      exact g2
     ·cases hz
    ·exact (hr i z v hz hv).nextN g3
 | ptr r ver o =>
  simp only [rFrzf] at hok ⊢
  cases ho : H[r]? with
  | none => rw [ho] at hok; exact hok.elim
  | some obj =>
   rw [ho] at hok
   cases obj <;> first | exact hok.elim | skip
   rename_i cs
   simp only [rFrzB, Res.also] at hok ⊢
   obtain ⟨hv, hok⟩ := hok
   cases hy : cs[o + off]? with
   | none => rw [hy] at hok; exact hok.elim
   | some y =>
    rw [hy] at hok
    simp only [rFrzQ, rFrzP] at hok ⊢
    obtain ⟨hrl, b, c, e, fr, hblk, hu, hh, hl, hfr, hver, hrep⟩ := zCG h hx ho hv
    have hlt : o + off < c.size := by have := (List.getElem?_eq_some_iff.1 hy).1; omega
    obtain ⟨ρ1, g1, g2, g3⟩ := snd_frzN h (hrep (o + off) y _ hy (zBo hlt)).1 hok
    obtain ⟨q1, q2, q3⟩ := frzN_at ho hok
    obtain ⟨k1, b1, c1, e1, fr1, k2, k3, k4, k5, k6⟩ := g1.objs r _ q1
    have hloc : ρ1 r = ρ r := (g3.loc r hrl).resolve_right (by omega)
    have hbb : b1 = b := by rw [hloc, hblk] at k2; cases k2; rfl
    subst hbb
    have hcc : c1 = c := by rw [hh] at k3; cases k3; rfl
    subst hcc
    obtain ⟨ρ2, p1, p2, p3⟩ := g1.setAt (w' := w) (r := r) (by rw [q2]; exact hrl) (ρ1 r) (.box (cs.set (o + off) (rFrzN sz y H).x)) (Same.refl w) (.inl rfl) (fun b o hb => .inl ⟨o, hb⟩) (fun _ _ _ => rfl)
     (fun ρ' hρ hf => by
      have hρ : ρ' = ρ1 := by rw [hρ]; funext i; split <;> simp_all
      subst hρ
      refine ⟨k1, b1, c1, e1, fr1, k2, k3, by simpa using k4, ⟨k5.1, fun t ht => ?_⟩, fun j z v hz hv => ?_⟩
      ·rw [List.getElem?_set] at ht
       split at ht
       ·split at ht
        ·exact absurd (Option.some.inj ht) (q3 t)
        ·cases ht
       ·exact k5.2 t ht
      ·rw [List.getElem?_set] at hz
       split at hz
       ·rename_i hj
        subst hj
        split at hz
        ·cases hz
         rw [zBo hlt] at hv
         cases hv
         exact ⟨g2, (hrep (o + off) y _ hy (zBo hlt)).2⟩
        ·cases hz
       ·exact k6 j z v hz hv)
    exact ⟨ρ2, p2, hx.nextN (g3.trans p3), g3.trans p3⟩
 | _ => exact hok.elim
theorem snd_own {sz : Nat} {x : AV} {u : Value} (h : HRel w X ρ H) (hx : Rp w X ρ H x u) (hok : (rOwn sz x H).ok) :
  ∃ ρ', HRel w X ρ' (rOwn sz x H).H ∧ Rep w (Mut X ρ' (rOwn sz x H).H.length) ρ' (rOwn sz x H).H.length (rOwn sz x H).x u ∧ Fut w ρ H.length w ρ' (rOwn sz x H).H.length := by
 cases x with
 | v x =>
  have := zAP hx; subst this
  cases u with
  | slice a n c =>
   cases a <;> cases n <;> cases c <;> first | exact hok.elim | exact none_own h hok none
  | _ => exact hok.elim
 | _ => exact hok.elim
theorem rowBytes_cells {kk : Nat} : ∀ (ys : List (List AV)) (l : List UInt8) (cs : List Value), zAN ys = some l → cs.length = ys.length → (∀ (i j : Nat) (y : List AV) (z : AV) (v : Value), ys[i]? = some y → y[j]? = some z → cs[i + j]? = some v → Rep w (Mut X ρ H.length) ρ kk z v) →
  ∃ ns : List Int, cs = ns.map (Value.int .u8) ∧ l = ns.map fun n => UInt8.ofNat n.toNat
 | [], l, cs, h, hl, _ => by
  simp [zAN] at h
  subst h
  have : cs = [] := List.eq_nil_of_length_eq_zero (by simpa using hl)
  subst this
  exact ⟨[], rfl, rfl⟩
 | y :: ys, l, cs, h, hl, hr => by
  cases cs with
  | nil => simp at hl
  | cons c cs =>
   unfold zAN at h
   split at h
   ·rename_i heq; cases heq
   ·rename_i n ys' heq
    injection heq with e1 e2
    subst e1 e2
    cases hb : zAN ys with
    | none => simp [hb] at h
    | some m =>
     simp [hb] at h
     subst h
     obtain ⟨ns, h1, h2⟩ := rowBytes_cells ys m cs hb (by simpa using hl) (fun i j y z v hy hz hv => hr (i + 1) j y z v (by simpa using hy) hz (by rw [show i + 1 + j = (i + j) + 1 by omega]; simpa using hv))
     have hc := hr 0 0 [.v (.int .u8 n)] (.v (.int .u8 n)) c rfl rfl rfl
     have := rep_vx hc
     subst this
     exact ⟨n :: ns, by rw [h1]; rfl, by rw [h2]; rfl⟩
   ·cases h
theorem foldl_push : ∀ (ns : List Int) (r : ByteArray), ns.foldl (fun r n => r.push (UInt8.ofNat n.toNat)) r = mkS (bs r ++ ns.map fun n => UInt8.ofNat n.toNat)
 | [], r => by
  apply ByteArray.ext
  simp [mkS, bs]
 | n :: ns, r => by
  rw [List.foldl_cons, foldl_push ns]
  simp [mkS, bs, ByteArray.push]
theorem snd_conv {src dst : TypeId} {c : Cv} {x : AV} {u : Value}
  (ht : match c with
   | .toInt k => (∃ d, P.underlying src = some d) ∧ P.underlying dst = some (.int k)
   | .same => P.underlying src = some .string ∧ P.underlying dst = some .string
   | .runeStr => (∃ k, P.underlying src = some (.int k)) ∧ P.underlying dst = some .string
   | .strBytes => P.underlying src = some .string ∧ ∃ e, P.underlying dst = some (.slice e) ∧ P.underlying e = some (.int .u8)
   | .bytesStr => (∃ e, P.underlying src = some (.slice e) ∧ P.underlying e = some (.int .u8)) ∧ P.underlying dst = some .string
   | .sameB => ∃ e, P.underlying src = some (.slice e) ∧ P.underlying e = some (.int .u8) ∧ src = dst)
  (h : HRel w X ρ H) (hx : Rp w X ρ H x u) : zAR P (convert src dst u) w X ρ H (rConv c x H) := by
 cases c with
 | toInt k =>
  obtain ⟨⟨d, h1⟩, h2⟩ := ht
  cases x with
  | v x =>
   have := zAP hx; subst this
   cases u <;> first | exact zE | skip
   refine zA4 h fun _ => ?_
   simp [convert, run_underlying h1, run_underlying h2, Conv.intToInt]
  | _ => exact zE
 | same =>
  cases x with
  | v x =>
   have := zAP hx; subst this
   cases u <;> first | exact zE | skip
   refine zA4 h fun _ => ?_
   simp [convert, run_underlying ht.1, run_underlying ht.2]
  | _ => exact zE
 | runeStr =>
  obtain ⟨⟨k, h1⟩, h2⟩ := ht
  cases x with
  | v x =>
   have := zAP hx; subst this
   cases u <;> first | exact zE | skip
   refine zA4 h fun _ => ?_
   simp [convert, run_underlying h1, run_underlying h2, Conv.intToString]
  | _ => exact zE
 | strBytes =>
  obtain ⟨h1, e, h2, h3⟩ := ht
  cases x with
  | v x =>
   have := zAP hx; subst this
   cases u <;> first | exact zE | skip
   rename_i s
   intro hlen
   have hrun := run_bytes_of_string w src dst e s h1 h2 h3
   have hge : s.size ≤ grownCap w s.size 0 e := grownCap_ge _ _ _ _
   have hC : bytesRow s (grownCap w s.size 0 e) = (s.data.map fun b => Value.int .u8 b.toNat) ++ Array.replicate (grownCap w s.size 0 e - s.size) (.int .u8 0) := rfl
   have hrows : Rows w (Mut X ρ H.length) ρ 0 (bytesRow s (grownCap w s.size 0 e)) 0 1 ((bs s).map zBU) := by
    refine ⟨?_, fun x hx => ?_, fun i j x y v hx hy hv => ?_⟩
    ·rw [hC]; simp [bs]
    ·simp only [List.mem_map] at hx; obtain ⟨b, _, rfl⟩ := hx; rfl
    ·simp only [List.getElem?_map] at hx
     cases hb : (bs s)[i]? with
     | none => simp [hb] at hx
     | some b =>
      simp [hb] at hx
      subst hx
      cases j with
      | succ j => simp [zBU] at hy
      | zero =>
       simp [zBU] at hy
       subst hy
       have hi : i < (bs s).length := (List.getElem?_eq_some_iff.1 hb).1
       have hi' : i < s.data.size := by simpa [bs] using hi
       rw [hC, Array.getElem?_append_left (by simp; exact hi')] at hv
       have hb' : s.data[i]? = some b := by simpa [bs] using hb
       simp [hb'] at hv
       subst hv
       exact ⟨.v _ _, rfl⟩
   obtain ⟨g1, g2, g3⟩ := new_imm (w1 := w.drew.alloc (.cells (bytesRow s (grownCap w s.size 0 e)) e ((bytesRow s (grownCap w s.size 0 e)).size, (bytesRow s (grownCap w s.size 0 e)).size + 1))) h ((Same.drew w).trans (Same.alloc _ _)) (zBa w.drew _) (Nat.le_refl _) (by simp) (zBA w.drew _) hrows (cap := grownCap w s.size 0 e) (by simp [len_bs]; exact hge)
   have hl : ((bs s).map zBU).length = s.size := by simp [len_bs]
   rw [hl] at g2
   exact ⟨_, _, ρ, hrun, g1, g2, g3⟩
  | _ => exact zE
 | bytesStr =>
  obtain ⟨⟨e, h1, h2⟩, h3⟩ := ht
  have main : ∀ (a : Option Addr) (len cap : Nat), u = .slice a len cap → szOk H 1 x ∧ ((rowsOf H x).bind zAN).isSome = true → ∃ v, (convert src dst u).run P w = .ok v w ∧ Rp w X ρ H (str (((rowsOf H x).bind zAN).getD [])) v := by
   intro a len cap hu ⟨hs, hb⟩
   cases hr : rowsOf H x with
   | none => simp [hr] at hb
   | some ys =>
    cases hl : zAN ys with
    | none => simp [hr, hl] at hb
    | some l =>
     obtain ⟨hlen, hsrc⟩ := zC3 (P := P) h hx hr hs (by omega)
     obtain ⟨cs, hcl, hf, _, _, hrep⟩ := hsrc ys.length (Nat.le_refl _)
     obtain ⟨ns, hns, hl2⟩ := rowBytes_cells ys l cs hl (by simpa using hcl) (fun i j y z v hy hz hv => hrep i j y z v (List.getElem?_eq_some_iff.1 hy).1 hy hz (by simpa using hv))
     subst hu
     have hlen' : len = ys.length := by
      simp [Builtin.lenOf] at hlen
      exact hlen
     refine ⟨.string (mkS l), ?_, by simp [hl]; exact .v _ _⟩
     rw [run_convert_bytes_string w src dst e a len cap h1 h2 h3]
     cases a with
     | none =>
      have h0 := hf w fun _ => rfl
      simp [Builtin.firstCells] at h0
      subst h0
      have : ns = [] := by cases ns <;> simp at hns ⊢
      subst this
      simp at hl2
      subst hl2
      rfl
     | some a =>
      have h0 := hf w fun _ => rfl
      simp only [Builtin.firstCells, Nat.mul_one] at h0
      rw [run_bytesToString w a len cap ns (by rw [hlen', h0, hns]), foldl_push, hl2]
      rfl
  cases x with
  | v x =>
   have := zAP hx; subst this
   cases u <;> first | exact zE | skip
   case slice a n c =>
    exact zW h fun hp => main a n c rfl hp
   all_goals exact zW h fun hp => by have := hp.1; simp [szOk] at this
  | sl sz xs =>
   cases hx with
   | slE _ _ a cap => exact zW h fun hp => main _ _ _ rfl hp
   | slN _ _ _ b o cap c => exact zW h fun hp => main _ _ _ rfl hp
  | os r ver off len =>
   refine zW h fun hp => ?_
   have hb := hp.2
   cases ho : H[r]? with
   | none => simp [rowsOf, osRows, ho] at hb
   | some obj =>
    cases obj <;> simp [rowsOf, osRows, ho] at hb
    rename_i ver' sz' xs
    by_cases hv : ver = ver'
    ·obtain ⟨_, _, _, _, _, _, ⟨a, cap, hu, _⟩, _⟩ := os_arr h hx ho hv
     exact main a len cap hu hp
    ·simp [hv] at hb
  | nc =>
   cases hx
   exact zW h fun hp => main _ _ _ rfl hp
  | _ => exact zW h fun hp => by have := hp.1; simp [szOk] at this
 | sameB =>
  obtain ⟨e, h1, h2, h3⟩ := ht
  subst h3
  cases x with
  | os r ver off len =>
   refine fun ⟨hl, hba, hv⟩ => ?_
   obtain ⟨ver', sz, xs, ho⟩ := zBn hba
   rw [ho] at hv
   simp only [isVer] at hv
   obtain ⟨hrl, hver, hsz', hsz, hrowx, hext, ⟨a, cap, rfl, hlc, hcap⟩, hblk⟩ := os_arr h hx ho hv
   rcases hcap with hc0 | ⟨b, o, hb, rfl, he⟩
   ·omega
   ·obtain ⟨c, el, fr, hh, hsize, hfr, hrep⟩ := hblk b o hb
    have hblt : b < w.heap.size := (h.lt r b o hrl hb).1
    have hshape : w.shape? b = some (el, c.size) := by simp [World.shape?, hh]
    have hrun : (convert src src (.slice (some ⟨b, o + off * (ρ r).sz, none⟩) len cap)).run P w = .ok (.slice (some ⟨b, o + off * (ρ r).sz, none⟩) len cap) (w.freeze ⟨b, c.size, none⟩ 1) := by
     simp [convert, run_underlying h1, run_underlying h2, markStringish, hshape]
    have hfz : (w.freeze ⟨b, c.size, none⟩ 1).heap[b]? = some (.cells c el (if fr.1 == fr.2 then (c.size, c.size + 1) else (min fr.1 c.size, max fr.2 (c.size + 1)))) := by
     simp [World.freeze, Array.getElem?_modify, hh]
    have hfo : ∀ b', b' ≠ b → (w.freeze ⟨b, c.size, none⟩ 1).heap[b']? = w.heap[b']? := by
     intro b' hb'
     simp [World.freeze, Array.getElem?_modify, Ne.symm hb']
    obtain ⟨ρ', hρ, g1, g2⟩ := h.setAt (w' := w.freeze ⟨b, c.size, none⟩ 1) hrl (ρ r) (.arr ver' sz xs) ⟨rfl, rfl, rfl, by simp [World.freeze]⟩ (.inl rfl) (fun b o hb => .inl ⟨o, hb⟩)
     (fun b' _ hne => hfo b' fun e => hne o (by rw [e]; exact hb)) (fun ρ' _ hf' => by
      refine ⟨by omega, hsz', hsz, hrowx, hext, ?_⟩
      rw [hb]
      refine ⟨c, el, _, hfz, hsize, ?_, fun i j x y u hx hy hu => ⟨(hrep i j x y u hx hy hu).1.nextN hf', (hrep i j x y u hx hy hu).2⟩⟩
      rcases hfr with hfr | hfr
      ·simp [hfr, noFr]
      ·split
       ·right; simp
       ·right; simp; omega)
    have hset : H.set r (.arr ver' sz xs) = H := by
     apply List.ext_getElem?
     intro i
     by_cases hi : i = r
     ·subst hi; rw [List.getElem?_set_self hrl, ho]
     ·rw [List.getElem?_set_ne (fun e => hi e.symm)]
    rw [hset] at g1 g2
    exact ⟨_, _, ρ', hrun, g1, Rep.nextN g2 hx, g2⟩
  | v x => cases x <;> exact zE
  | _ => exact zE
end
section
variable {P : Program} {w : World} {X : Nat → Prop} {ρ : Nat → Loc} {H : zC} {e : Env} {a : Act} {n : Nat}
abbrev ER (w : World) (X : Nat → Prop) (ρ : Nat → Loc) (H : zC) (n : Nat) (e : Env) (a : Act) : Prop := ERep w (Mut X ρ H.length) ρ H.length n e a
def OpOK (P : Program) (o : Oper) (a : Act) (w : World) (X : Nat → Prop) (ρ : Nat → Loc) (H : zC) (r : Res) : Prop :=
 r.ok → ∃ u w' ρ', ((execOp a.eval o).run P w = .ok (.value u) w' ∨ ((execOp a.eval o).run P w = .ok .skip w' ∧ u = undef)) ∧ HRel w' X ρ' r.H ∧ Rep w' (Mut X ρ' r.H.length) ρ' r.H.length r.x u ∧ Fut w ρ H.length w' ρ' r.H.length
theorem zAA {o : Oper} {s : Sem Value} {r : Res} (h : zAR P s w X ρ H r) (he : execOp a.eval o = (do pure (.value (← s)))) : OpOK P o a w X ρ H r := by
 intro hok
 obtain ⟨u, w', ρ', h1, h2, h3, h4⟩ := h hok
 exact ⟨u, w', ρ', .inl (by rw [he]; simp [h1]), h2, h3, h4⟩
theorem opOK_u {o : Oper} {s : Sem Unit} {r : Res} (h : GivesU P s w X ρ H r) (he : execOp a.eval o = (do s; pure .skip)) : OpOK P o a w X ρ H r := by
 intro hok
 obtain ⟨hx, w', ρ', h1, h2, h3⟩ := h hok
 exact ⟨undef, w', ρ', .inr ⟨by rw [he]; simp [h1], rfl⟩, h2, by rw [hx]; exact .any _ _, h3⟩
theorem opOK_no {o : Oper} : OpOK P o a w X ρ H (.no H) := fun h => h.elim
theorem zCd {M : Nat → Prop} {k : Nat} (he : ERep w M ρ k n e a) : ∀ (l : List Operand) (m : List LX), lxs n l = some m → m.length = l.length ∧ ∀ (i : Nat) (x : AV) (u : Value), (m.map (ev e))[i]? = some x → (l.map a.eval)[i]? = some u → Rep w M ρ k x u
 | [], m, h => by simp [lxs] at h; subst h; exact ⟨rfl, fun i x u hx => by simp at hx⟩
 | o :: l, m, h => by
  unfold lxs at h
  cases ho : lx n o with
  | none => simp [ho] at h
  | some y =>
   cases hm : lxs n l with
   | none => simp [ho, hm] at h
   | some m' =>
    simp [ho, hm] at h
    subst h
    obtain ⟨h1, h2⟩ := zCd he l m' hm
    refine ⟨by simp [h1], fun i x u hx hu => ?_⟩
    cases i with
    | zero => simp at hx hu; subst hx hu; exact zAc he ho
    | succ i => exact h2 i x u (by simpa using hx) (by simpa using hu)
theorem lowPs_rep (he : ER w X ρ H n e a) {place : Nat → Option (Nat × Nat)} : ∀ (l : List (Nat × Operand)) (m : List (Nat × Nat × LX)), lowPs n place l = some m → RpPs w X ρ H place (l.map fun (i, x) => (i, a.eval x)) (m.map fun (o, k, x) => (o, k, ev e x))
 | [], m, h => by simp [lowPs] at h; subst h; trivial
 | (i, o) :: l, m, h => by
  unfold lowPs at h
  cases hp : place i with
  | none => simp [hp] at h
  | some pl =>
   obtain ⟨off, sz⟩ := pl
   cases ho : lx n o with
   | none => simp [hp, ho] at h
   | some y =>
    cases hm : lowPs n place l with
    | none => simp [hp, ho, hm] at h
    | some m' =>
     simp [hp, ho, hm] at h
     subst h
     exact ⟨hp, zAc he ho, lowPs_rep he l m' hm⟩
theorem lowSs_rep (he : ER w X ρ H n e a) : ∀ (l : List (Nat × Operand)) (m : List (Nat × LX)), lowSs n l = some m → RpSs w X ρ H (l.map fun (i, x) => (i, a.eval x)) (m.map fun (i, x) => (i, ev e x))
 | [], m, h => by simp [lowSs] at h; subst h; trivial
 | (i, o) :: l, m, h => by
  unfold lowSs at h
  cases ho : lx n o with
  | none => simp [ho] at h
  | some y =>
   cases hm : lowSs n l with
   | none => simp [ho, hm] at h
   | some m' =>
    simp [ho, hm] at h
    subst h
    exact ⟨rfl, zAc he ho, lowSs_rep he l m' hm⟩
theorem snd_nilchk {x : AV} {u : Value} {o : Oper} {ox : Operand} (ho : o.op = .nilCheck ox) (hu : a.eval ox = u) (h : HRel w X ρ H) (hx : Rp w X ρ H x u) : OpOK P o a w X ρ H (rNil x H) := by
 have key : ∀ v : Value, (∃ p, v = .pointer (some p)) ∨ (∃ r, v = .map r) ∨ (∃ f fs us, v = .func (.func f) fs us) → u = v → (execOp a.eval o).run P w = .ok (.value v) w := by
  intro v hv huv
  unfold execOp
  rw [ho]
  simp only [hu, huv]
  rcases hv with ⟨p, rfl⟩ | ⟨r, rfl⟩ | ⟨f, fs, us, rfl⟩ <;> rfl
 cases x with
 | vp cs off =>
  intro _
  cases hx with
  | vp _ _ _ b o' c hm hb hcell hrep => exact ⟨_, w, ρ, .inl (key _ (.inl ⟨_, rfl⟩) rfl), h, .vp _ _ _ _ _ c hm hb hcell hrep, Fut.refl _ _ _⟩
 | mp ks vs =>
  intro _
  cases hx with
  | mp _ _ _ b es clock hm hb hh hks hvs hr => exact ⟨_, w, ρ, .inl (key _ (.inr (.inl ⟨_, rfl⟩)) rfl), h, .mp _ _ _ _ es clock hm hb hh hks hvs hr, Fut.refl _ _ _⟩
 | fn f fs us =>
  cases f <;> first | exact opOK_no | skip
  intro _
  have hx' := hx
  cases hx with
  | fn => exact ⟨_, w, ρ, .inl (key _ (.inr (.inr ⟨_, _, _, rfl⟩)) rfl), h, hx', Fut.refl _ _ _⟩
 | ptr r ver off =>
  intro hv
  have hx' := hx
  cases hx with
  | ptr _ _ _ _ _ hr hle hone hp =>
   have hver : ver = (ρ r).ver := by
    have hv : isVer ver H[r]? := hv
    cases ho' : H[r]? with
    | none => rw [ho'] at hv; exact hv.elim
    | some obj =>
     rw [ho'] at hv
     have hob := h.objs r _ ho'
     cases obj <;> simp only [isVer] at hv <;> first | exact hv.elim | skip
     ·rw [hob.1]; exact hv
     ·rw [hob.1]; exact hv
     ·rw [hob.1]; exact hv
   obtain ⟨b, o', _, rfl⟩ := hp hver
   exact ⟨_, w, ρ, .inl (key _ (.inl ⟨_, rfl⟩) rfl), h, hx', Fut.refl _ _ _⟩
 | pe r ver i off =>
  intro hv
  have hx' := hx
  cases hx with
  | pe _ _ _ _ _ _ hr hle hone hp =>
   have hver : ver = (ρ r).ver := by
    have hv : isVer ver H[r]? := hv
    cases ho' : H[r]? with
    | none => rw [ho'] at hv; exact hv.elim
    | some obj =>
     rw [ho'] at hv
     have hob := h.objs r _ ho'
     cases obj <;> simp only [isVer] at hv <;> first | exact hv.elim | skip
     ·rw [hob.1]; exact hv
     ·rw [hob.1]; exact hv
     ·rw [hob.1]; exact hv
   obtain ⟨b, o', _, rfl⟩ := hp hver
   exact ⟨_, w, ρ, .inl (key _ (.inl ⟨_, rfl⟩) rfl), h, hx', Fut.refl _ _ _⟩
 | _ => exact opOK_no
def zCH : LOp → Bool
 | .call _ _ => false
 | .callh _ _ => false
 | .pick _ _ _ => false
 | .isnil _ _ => false
 | .nextm _ => false
 | .frz _ => false
 | .own _ _ => false
 | .frzf _ _ _ => false
 | _ => true
theorem zAr {α β : Type} {x : Option α} {f : α → β} {y : β} (h : x.map f = some y) : ∃ a, x = some a ∧ f a = y := by
 cases x with
 | none => cases h
 | some a => exact ⟨a, rfl, by simpa using h⟩
theorem lowCallB_plain {c : Call} {lo : LOp} (hl : zCC P n c = some lo) : zCH lo = true ∨ ∃ f g m, c.callee = .value f ∧ lx n f = some g ∧ lxs n c.args.toList = some m ∧ lo = .callh g m := by
 unfold zCC at hl
 split at hl
 ·rename_i f hc
  split at hl
  ·rename_i g m hg hm; cases hl; exact .inr ⟨f, g, m, hc, hg, hm, rfl⟩
  ·cases hl
 ·split at hl
  ·split at hl
   ·split at hl
    ·split at hl
     ·cases hl; exact .inl rfl
     ·cases hl
    ·cases hl
   ·cases hl
  ·cases hl
 ·cases hl
theorem lowCallB_ok {c : Call} {lo : LOp} {o : Oper} (ho : o.op = .call c) (hl : zCC P n c = some lo) (hp : zCH lo = true) (h : HRel w X ρ H) (he : ER w X ρ H n e a) : OpOK P o a w X ρ H (zAZ lo e H) := by
 obtain ⟨callee, args, tys⟩ := c
 unfold zCC at hl
 cases callee with
 | value f =>
  simp only at hl
  split at hl
  ·cases hl; simp [zCH] at hp
  ·cases hl
 | invoke r m => simp at hl
 | builtin b =>
  obtain ⟨bcs, hex⟩ : ∃ cs, execOp a.eval o = builtin b tys o.type cs (args.map a.eval) := by
   unfold execOp
   rw [ho]
   exact ⟨_, rfl⟩
  cases b <;> simp only at hl <;> first | (cases hl; done) | skip
  cases hm : lxs n args.toList with
  | none => simp [hm] at hl
  | some m =>
   obtain ⟨hlen, hrep⟩ := zCd he _ _ hm
   match m, hlen, hl with
   | [], _, hl => simp [hm] at hl
   | [_], _, hl => simp [hm] at hl
   | _ :: _ :: _ :: _, _, hl => simp [hm] at hl
   | [s, x], hlen, hl =>
    obtain ⟨so, xo, hao⟩ : ∃ so xo, args.toList = [so, xo] := by
     match h1 : args.toList, hlen with
     | [so, xo], _ => exact ⟨so, xo, rfl⟩
    have hae : args.map a.eval = #[a.eval so, a.eval xo] := by apply Array.ext'; simp [hao]
    have hs : Rp w X ρ H (ev e s) (a.eval so) := hrep 0 _ _ rfl (by simp [hao])
    have hx : Rp w X ρ H (ev e x) (a.eval xo) := hrep 1 _ _ rfl (by simp [hao])
    match ht : tys.toList, hl with
    | [], hl => simp [hm] at hl
    | [_], hl => simp [hm] at hl
    | _ :: _ :: _ :: _, hl => simp [hm] at hl
    | [t, u], hl =>
     have hty : tys = #[t, u] := by apply Array.ext'; simpa using ht
     simp only [hm] at hl
     cases hu : P.underlying t with
     | none => simp [hu] at hl
     | some d =>
      cases d with
      | slice el =>
       cases hv : P.underlying u with
       | none => simp [hu, hv] at hl
       | some d2 =>
        cases d2 with
        | string =>
         simp only [hu, hv] at hl
         cases hi : P.info? el with
         | none => simp [hi] at hl
         | some i =>
          simp only [hi] at hl
          split at hl
          ·rename_i hc
           obtain ⟨h1, h2, h3⟩ := hc
           obtain ⟨z, hz1, hz2⟩ := zAr h3
           cases hl
           exact zAA (s := Builtin.append_ #[t, u] o.type #[a.eval so, a.eval xo]) (snd_appendb hu ⟨_, hv, fun k hk => by cases hk⟩ hi hz1 hz2 h1 h2 h hs hx) (by rw [hex, hae, hty]; rfl)
          ·cases hl
        | _ => simp [hu, hv] at hl
      | _ => simp [hu] at hl
theorem lowCall_ok {c : Call} {lo : LOp} {o : Oper} (ho : o.op = .call c) (hl : zC7 P n c = some lo) (hp : zCH lo = true) (h : HRel w X ρ H) (he : ER w X ρ H n e a) : OpOK P o a w X ρ H (zAZ lo e H) := by
 obtain ⟨callee, args, tys⟩ := c
 have hex : ∀ b : Builtin, callee = .builtin b → ∃ cs, execOp a.eval o = builtin b tys o.type cs (args.map a.eval) := by
  intro b hb
  subst hb
  unfold execOp
  rw [ho]
  exact ⟨_, rfl⟩
 unfold zC7 at hl
 cases callee with
 | value f =>
  simp only at hl
  cases hf : lx n f with
  | none => simp [hf] at hl
  | some g =>
   cases hm : lxs n args.toList with
   | none => simp [hf, hm] at hl
   | some m => simp [hf, hm] at hl; subst hl; simp [zCH] at hp
 | invoke r m => simp at hl
 | builtin b =>
  obtain ⟨bcs, hex⟩ := hex b rfl
  cases b <;> simp only at hl <;> first | (cases hl; done) | skip
  case len =>
   cases hm : lxs n args.toList with
   | none => simp [hm] at hl
   | some m =>
    obtain ⟨hlen, hrep⟩ := zCd he _ _ hm
    match m, hlen, hl with
    | [], _, hl => simp [hm] at hl
    | _ :: _ :: _, _, hl => simp [hm] at hl
    | [x], hlen, hl =>
     obtain ⟨ao, hao⟩ : ∃ ao, args.toList = [ao] := by
      match h1 : args.toList, hlen with
      | [ao], _ => exact ⟨ao, rfl⟩
     have hae : args.map a.eval = #[a.eval ao] := by apply Array.ext'; simp [hao]
     have hx : Rp w X ρ H (ev e x) (a.eval ao) := hrep 0 _ _ rfl (by simp [hao])
     match ht : tys.toList, hl with
     | [], hl => simp [hm] at hl
     | _ :: _ :: _, hl => simp [hm] at hl
     | [t], hl =>
      have hty : tys = #[t] := by apply Array.ext'; simpa using ht
      simp only [hm] at hl
      refine zAA (s := Builtin.len_ #[t] o.type #[a.eval ao]) ?_ (by rw [hex, hae, hty]; rfl)
      cases hu : P.underlying t with
      | none => simp [hu] at hl
      | some d =>
       simp only [hu] at hl
       cases d <;> simp at hl <;> subst hl <;> refine snd_len ⟨?_, ?_, ?_⟩ h hx <;> intro hk <;> first | (cases hk; done) | exact hu | exact ⟨_, hu⟩ | exact ⟨_, _, hu⟩
  case append =>
   cases hm : lxs n args.toList with
   | none => simp [hm] at hl
   | some m =>
    obtain ⟨hlen, hrep⟩ := zCd he _ _ hm
    match m, hlen, hl with
    | [], _, hl => simp [hm] at hl
    | [_], _, hl => simp [hm] at hl
    | _ :: _ :: _ :: _, _, hl => simp [hm] at hl
    | [s, x], hlen, hl =>
     obtain ⟨so, xo, hao⟩ : ∃ so xo, args.toList = [so, xo] := by
      match h1 : args.toList, hlen with
      | [so, xo], _ => exact ⟨so, xo, rfl⟩
     have hae : args.map a.eval = #[a.eval so, a.eval xo] := by apply Array.ext'; simp [hao]
     have hs : Rp w X ρ H (ev e s) (a.eval so) := hrep 0 _ _ rfl (by simp [hao])
     have hx : Rp w X ρ H (ev e x) (a.eval xo) := hrep 1 _ _ rfl (by simp [hao])
     match ht : tys.toList, hl with
     | [], hl => simp [hm] at hl
     | [_], hl => simp [hm] at hl
     | _ :: _ :: _ :: _, hl => simp [hm] at hl
     | [t, u], hl =>
      have hty : tys = #[t, u] := by apply Array.ext'; simpa using ht
      simp only [hm] at hl
      cases hu : P.underlying t with
      | none => simp [hu] at hl
      | some d =>
       simp only [hu] at hl
       cases d <;> simp only at hl <;> first | (cases hl; done) | skip
       rename_i el
       cases hi : P.info? el with
       | none => simp [hi] at hl
       | some i =>
        cases hv : P.underlying u with
        | none => simp [hi, hv] at hl
        | some d2 =>
         simp only [hi, hv] at hl
         have fin : (i.zero.map (·.cells.size)) = some i.size → lo = .append i.size i.bytes s x → (∀ k, d2 ≠ .int k) → OpOK P o a w X ρ H (zAZ lo e H) := by
          intro hz hlo hd2
          obtain ⟨z, hz1, hz2⟩ := zAr hz
          subst hlo
          exact zAA (s := Builtin.append_ #[t, u] o.type #[a.eval so, a.eval xo]) (snd_append hu ⟨d2, hv, hd2⟩ hi hz1 hz2 h hs hx) (by rw [hex, hae, hty]; rfl)
         cases d2 <;> simp only at hl <;> first | (cases hl; done) | skip
         case slice =>
          split at hl
          ·rename_i hc; exact fin hc.2 (by simpa using hl.symm) (fun k hk => by cases hk)
          ·cases hl
         case string =>
          split at hl
          ·rename_i hc; exact fin (by rw [hc.2, hc.1]) (by simpa using hl.symm) (fun k hk => by cases hk)
          ·cases hl
  case copy =>
   cases hm : lxs n args.toList with
   | none => simp [hm] at hl
   | some m =>
    obtain ⟨hlen, hrep⟩ := zCd he _ _ hm
    match m, hlen, hl with
    | [], _, hl => simp [hm] at hl
    | [_], _, hl => simp [hm] at hl
    | _ :: _ :: _ :: _, _, hl => simp [hm] at hl
    | [s, x], hlen, hl =>
     obtain ⟨so, xo, hao⟩ : ∃ so xo, args.toList = [so, xo] := by
      match h1 : args.toList, hlen with
      | [so, xo], _ => exact ⟨so, xo, rfl⟩
     have hae : args.map a.eval = #[a.eval so, a.eval xo] := by apply Array.ext'; simp [hao]
     have hs : Rp w X ρ H (ev e s) (a.eval so) := hrep 0 _ _ rfl (by simp [hao])
     have hx : Rp w X ρ H (ev e x) (a.eval xo) := hrep 1 _ _ rfl (by simp [hao])
     match ht : tys.toList, hl with
     | [], hl => simp [hm] at hl
     | [_], hl => simp [hm] at hl
     | _ :: _ :: _ :: _, hl => simp [hm] at hl
     | [t, u], hl =>
      have hty : tys = #[t, u] := by apply Array.ext'; simpa using ht
      simp only [hm] at hl
      cases hu : P.underlying t with
      | none => simp [hu] at hl
      | some d =>
       simp only [hu] at hl
       cases d <;> simp only at hl <;> first | (cases hl; done) | skip
       rename_i el
       cases hn : zCv P el with
       | none => simp [hn] at hl
       | some sz =>
        simp only [hn, Option.bind_some] at hl
        split at hl
        ·rename_i hc
         simp only [Option.some.injEq] at hl
         subst hl
         exact zAA (s := Builtin.copy_ #[t, u] o.type #[a.eval so, a.eval xo]) (snd_copy hu hn hc h hs hx) (by rw [hex, hae, hty]; rfl)
        ·cases hl
  case min =>
   cases hm : lxs n args.toList with
   | none => simp [hm] at hl
   | some m =>
    obtain ⟨hlen, hrep⟩ := zCd he _ _ hm
    match m, hlen, hl with
    | [], _, hl => simp [hm] at hl
    | [_], _, hl => simp [hm] at hl
    | _ :: _ :: _ :: _, _, hl => simp [hm] at hl
    | [s, x], hlen, hl =>
     obtain ⟨so, xo, hao⟩ : ∃ so xo, args.toList = [so, xo] := by
      match h1 : args.toList, hlen with
      | [so, xo], _ => exact ⟨so, xo, rfl⟩
     have hae : args.map a.eval = #[a.eval so, a.eval xo] := by apply Array.ext'; simp [hao]
     have hs : Rp w X ρ H (ev e s) (a.eval so) := hrep 0 _ _ rfl (by simp [hao])
     have hx : Rp w X ρ H (ev e x) (a.eval xo) := hrep 1 _ _ rfl (by simp [hao])
     simp only [hm, Option.some.injEq] at hl
     subst hl
     exact zAA (s := Builtin.min_ tys o.type #[a.eval so, a.eval xo]) (snd_min h hs hx) (by rw [hex, hae]; rfl)
  case max =>
   cases hm : lxs n args.toList with
   | none => simp [hm] at hl
   | some m =>
    obtain ⟨hlen, hrep⟩ := zCd he _ _ hm
    match m, hlen, hl with
    | [], _, hl => simp [hm] at hl
    | [_], _, hl => simp [hm] at hl
    | _ :: _ :: _ :: _ :: _, _, hl => simp [hm] at hl
    | [s, x, z], hlen, hl =>
     obtain ⟨so, xo, zo, hao⟩ : ∃ so xo zo, args.toList = [so, xo, zo] := by
      match h1 : args.toList, hlen with
      | [so, xo, zo], _ => exact ⟨so, xo, zo, rfl⟩
     have hae : args.map a.eval = #[a.eval so, a.eval xo, a.eval zo] := by apply Array.ext'; simp [hao]
     have hs : Rp w X ρ H (ev e s) (a.eval so) := hrep 0 _ _ rfl (by simp [hao])
     have hx : Rp w X ρ H (ev e x) (a.eval xo) := hrep 1 _ _ rfl (by simp [hao])
     have hz : Rp w X ρ H (ev e z) (a.eval zo) := hrep 2 _ _ rfl (by simp [hao])
     simp only [hm, Option.some.injEq] at hl
     subst hl
     exact zAA (s := Builtin.max_ tys o.type #[a.eval so, a.eval xo, a.eval zo]) (snd_max3 h hs hx hz) (by rw [hex, hae]; rfl)
    | [s, x], hlen, hl =>
     obtain ⟨so, xo, hao⟩ : ∃ so xo, args.toList = [so, xo] := by
      match h1 : args.toList, hlen with
      | [so, xo], _ => exact ⟨so, xo, rfl⟩
     have hae : args.map a.eval = #[a.eval so, a.eval xo] := by apply Array.ext'; simp [hao]
     have hs : Rp w X ρ H (ev e s) (a.eval so) := hrep 0 _ _ rfl (by simp [hao])
     have hx : Rp w X ρ H (ev e x) (a.eval xo) := hrep 1 _ _ rfl (by simp [hao])
     simp only [hm, Option.some.injEq] at hl
     subst hl
     exact zAA (s := Builtin.max_ tys o.type #[a.eval so, a.eval xo]) (snd_max h hs hx) (by rw [hex, hae]; rfl)
end
section
variable {P : Program} {w : World} {X : Nat → Prop} {ρ : Nat → Loc} {H : zC} {e : Env} {a : Act} {n : Nat}
theorem lxo_rep (he : ER w X ρ H n e a) {o : Option Operand} {x : Option LX} (h : lxo n o = some x) : RpO w X ρ H (x.map (ev e)) (o.map a.eval) := by
 cases o with
 | none => simp [lxo] at h; subst h; trivial
 | some o =>
  obtain ⟨y, h1, h2⟩ := zAr h
  subst h2
  exact zAc he h1
theorem rep_v' {M : Nat → Prop} {ρ : Nat → Loc} {k : Nat} {y u : Value} (h : Rep w M ρ k (.v y) u) : u = y := by cases h; rfl
theorem valsA_rep {M : Nat → Prop} {ρ : Nat → Loc} {k : Nat} : ∀ {cs : List AV} {l us : List Value}, valsA cs = some l → cs.length = us.length → (∀ (i : Nat) (x : AV) (u : Value), cs[i]? = some x → us[i]? = some u → Rep w M ρ k x u) → us = l
 | [], l, us, h, hl, _ => by
  simp only [valsA, Option.some.injEq] at h
  subst h
  exact List.length_eq_zero_iff.1 hl.symm
 | .v v :: cs, l, us, h, hl, hr => by
  match us, hl with
  | u :: us, hl =>
   simp only [valsA] at h
   obtain ⟨m, hm, rfl⟩ := zAr h
   have h1 := rep_v' (hr 0 _ _ rfl rfl)
   have h2 := valsA_rep hm (us := us) (by simpa using hl) fun i x u hx hu => hr (i + 1) x u (by simpa using hx) (by simpa using hu)
   rw [h1, h2]
 | .any :: _, _, _, h, _, _ | .agg _ :: _, _, _, h, _, _ | .tup _ :: _, _, _, h, _, _ | .sl .. :: _, _, _, h, _, _ | .vp .. :: _, _, _, h, _, _ | .fn .. :: _, _, _, h, _, _ | .mp .. :: _, _, _, h, _, _
 | .os .. :: _, _, _, h, _, _ | .ptr .. :: _, _, _, h, _, _ | .pe .. :: _, _, _, h, _, _ | .om .. :: _, _, _, h, _, _ | .nc :: _, _, _, h, _, _ | .bnil _ :: _, _, _, h, _, _ => by cases h
theorem valA_rep {M : Nat → Prop} {ρ : Nat → Loc} {k : Nat} {x : AV} {v u : Value} (h : valA x = some v) (hr : Rep w M ρ k x u) : u = v := by
 cases x with
 | v y => simp only [valA, Option.some.injEq] at h; subst h; exact rep_v' hr
 | agg cs =>
  simp only [valA] at h
  obtain ⟨l, hl, rfl⟩ := zAr h
  cases hr with
  | agg _ _ us h1 h2 =>
   have := valsA_rep hl (us := us.toList) (by simpa using h1) fun i x u hx hu => h2 i x u hx (by simpa using hu)
   rw [← this]
 | _ => cases h
theorem run_zeroT {t : TypeId} {z : Value} (hz : zA7 P t = some z) (w : World) : (zeroValue t).run P w = .ok z w := by
 unfold zA7 at hz
 cases hi : P.info? t with
 | none => simp [hi] at hz
 | some i => simp [hi] at hz; simp [zeroValue, typeInfo, hi, hz]
theorem vA_zero (v : Value) : vA v = zeroA v := by cases v <;> rfl
theorem eqIn_nilI0 {d : Nat} {t : TypeId} {ms : Array (String × TypeId)} (ht : P.underlying t = some (.interface ms)) : (Op.equalIn (d + 1) t .nilIface .nilIface).run P w = .ok true w := by
 simp [Op.equalIn, run_underlying ht]
theorem eqIn_nilI {t : TypeId} {ms : Array (String × TypeId)} (ht : P.underlying t = some (.interface ms)) : (Op.equal t .nilIface .nilIface).run P w = .ok true w := eqIn_nilI0 (d := 9999) ht
theorem eqIn_nilI20 {d : Nat} {t : TypeId} {ms : Array (String × TypeId)} {t' : TypeId} {v : Value} (ht : P.underlying t = some (.interface ms)) : (Op.equalIn (d + 1) t (.iface t' v) .nilIface).run P w = .ok false w := by
 simp [Op.equalIn, run_underlying ht]
theorem eqIn_nilI2 {t : TypeId} {ms : Array (String × TypeId)} {t' : TypeId} {v : Value} (ht : P.underlying t = some (.interface ms)) : (Op.equal t (.iface t' v) .nilIface).run P w = .ok false w := eqIn_nilI20 (d := 9999) ht
theorem guard_nilI {op : BinOp} {t : TypeId} {x : Operand} {u : Value} : (eqGuard op t x (.const .nilIface) u .nilIface).run P w = .ok () w := by
 cases op <;> simp [eqGuard] <;> cases u <;> simp
theorem snd_nili {o : Oper} {op : BinOp} {t yt : TypeId} {ox oy : Operand} {ms : Array (String × TypeId)} {neg : Bool} {x : AV} (ho : o.op = .binOp op t ox oy yt) (hu : P.underlying t = some (.interface ms)) (hq : isEq op = some neg) (hy : oy = .const .nilIface)
  (h : HRel w X ρ H) (hx : Rp w X ρ H x (a.eval ox)) : OpOK P o a w X ρ H (rNilI neg x H) := by
 subst hy
 cases x with
 | v v =>
  have hv := zAP hx
  cases v <;> first | exact opOK_no | skip
  case iface t' v =>
   intro _
   refine ⟨.bool neg, w, ρ, .inl ?_, h, .v _ _, Fut.refl _ _ _⟩
   unfold execOp
   rw [ho]
   simp only [show a.eval (.const .nilIface) = .nilIface from rfl, hv]
   cases op <;> simp [isEq] at hq <;> subst hq <;> simp [guard_nilI, binOp, eqIn_nilI2 hu]
  case nilIface =>
   intro _
   refine ⟨.bool (!neg), w, ρ, .inl ?_, h, .v _ _, Fut.refl _ _ _⟩
   unfold execOp
   rw [ho]
   simp only [show a.eval (.const .nilIface) = .nilIface from rfl, hv]
   cases op <;> simp [isEq] at hq <;> subst hq <;> simp [guard_nilI, binOp, eqIn_nilI hu]
 | _ => exact opOK_no
theorem snd_asrt {t xt : TypeId} {d : TypeDesc} {z : Value} {x : AV} {u : Value} (hu : P.underlying t = some d) (hni : ∀ ms, d ≠ .interface ms) (hz : zA7 P t = some z) (h : HRel w X ρ H) (hx : Rp w X ρ H x u) :
  zAR P (Instr.typeAssert u xt t true) w X ρ H (rAsrt t (zeroA z) x H) := by
 have two : ∀ (y : AV) (b : Bool) (v : Value), Rp w X ρ H y v → Rp w X ρ H (.tup [y, bool b]) (.tuple #[v, .bool b]) := fun y b v hv => by
  refine .tup _ _ _ rfl fun i x u hx hu => ?_
  match i with
  | 0 => simp at hx hu; subst hx; subst hu; exact hv
  | 1 => simp at hx hu; subst hx; subst hu; exact .v _ _
  | n + 2 => simp at hx
 cases x with
 | v v =>
  have hv := zAP hx
  subst hv
  cases u <;> first | exact zE | skip
  case iface t' v =>
   refine zW h fun _ => ?_
   by_cases ht : t' = t
   ·rw [if_pos ht]
    refine ⟨.tuple #[v, .bool true], ?_, two _ _ _ (by rw [vA_zero]; exact zeroA_rep v)⟩
    unfold Instr.typeAssert
    rw [Sem.run_bind, run_underlying hu, Result.andThen_ok]
    cases d <;> first | exact absurd rfl (hni _) | simp [ht]
   ·rw [if_neg ht]
    refine ⟨.tuple #[z, .bool false], ?_, two _ _ _ (zeroA_rep z)⟩
    unfold Instr.typeAssert
    rw [Sem.run_bind, run_underlying hu, Result.andThen_ok]
    cases d <;> first | exact absurd rfl (hni _) | simp [ht, run_zeroT hz]
  case nilIface =>
   refine zW h fun _ => ⟨.tuple #[z, .bool false], ?_, two _ _ _ (zeroA_rep z)⟩
   unfold Instr.typeAssert
   rw [Sem.run_bind, run_underlying hu, Result.andThen_ok]
   cases d <;> first | exact absurd rfl (hni _) | simp [run_zeroT hz]
 | _ => exact zE
theorem snd_rangem {t kt el : TypeId} {x : AV} {u : Value} (hu : P.underlying t = some (.map kt el)) (h : HRel w X ρ H) (hx : Rp w X ρ H x u) : zAR P (Instr.range t u) w X ρ H (rRangeM x H) := by
 cases x with
 | mp ks vs =>
  intro _
  have hx' := hx.of_cl (by simp [AV.cl])
  cases hx with
  | mp _ _ _ m es clock hm hb hh hks hvs hr =>
   have hle : ks.length = es.size := by rw [hks.1]; simp
   have hle2 : ∀ i, i ∈ List.range ks.length ↔ ∃ e, es[i]? = some e ∧ (#[] : Array Nat).contains e.born = false := by
    intro i
    rw [List.mem_range, hle]
    constructor
    ·intro hi; exact ⟨es[i], by simp [hi], by simp⟩
    ·rintro ⟨e, he, _⟩; exact (Array.getElem?_eq_some_iff.1 he).1
   obtain ⟨ρ', hl, hrel, hf⟩ := h.push (w' := w.alloc (.mapIter (some m) clock #[] clock)) { blk := some (w.heap.size, 0) } (.mit ks vs (List.range ks.length) none) (Same.alloc _ _) (fun b o hb => by simp at hb; obtain ⟨rfl, _⟩ := hb; simp) (zBa w _)
    (fun ρ' hf hl' => ⟨rfl, w.heap.size, m, es, clock, clock, #[], clock, rfl, zBA w _, by rw [zBa w _ m hb]; exact hh, hx'.next hf (Nat.zero_le _), hks.2.1, ⟨Nat.le_refl _, Nat.le_refl _⟩, hle2, fun i hi => by cases hi⟩)
   refine ⟨.pointer (some ⟨w.heap.size, 0, none⟩), _, ρ', run_range_map w t kt el m es clock hu hh, hrel, ?_, hf⟩
   exact .ptr _ _ _ _ _ (by show H.length < (H ++ [_]).length; simp) (by rw [hl]; exact Nat.le_refl _) rfl fun _ => ⟨w.heap.size, 0, by rw [hl], rfl⟩
 | _ => exact zE
theorem mit_push {es : Array MapEntry} {seen : Array Nat} {e : MapEntry} {i : Nat} (hnd : (es.toList.map (·.born)).Nodup) (he : es[i]? = some e) (j : Nat) :
  ((∃ e', es[j]? = some e' ∧ seen.contains e'.born = false) ∧ j ≠ i) ↔ ∃ e', es[j]? = some e' ∧ (seen.push e.born).contains e'.born = false := by
 have hinj : ∀ e', es[j]? = some e' → e'.born = e.born → j = i := by
  intro e' he' hb
  have hj : j < (es.toList.map (·.born)).length := by simp; exact (Array.getElem?_eq_some_iff.1 he').1
  have hi : i < (es.toList.map (·.born)).length := by simp; exact (Array.getElem?_eq_some_iff.1 he).1
  obtain ⟨_, h1⟩ := Array.getElem?_eq_some_iff.1 he'
  obtain ⟨_, h2⟩ := Array.getElem?_eq_some_iff.1 he
  have heq : (es.toList.map (·.born))[j] = (es.toList.map (·.born))[i] := by simp [h1, h2, hb]
  have hp := List.pairwise_iff_getElem.1 hnd
  rcases Nat.lt_trichotomy j i with hlt | hlt | hlt
  ·exact absurd heq (hp j i hj hi hlt)
  ·exact hlt
  ·exact absurd heq.symm (hp i j hi hj hlt)
 constructor
 ·rintro ⟨⟨e', he', hs⟩, hne⟩
  refine ⟨e', he', ?_⟩
  have : e'.born ≠ e.born := fun hb => hne (hinj e' he' hb)
  simp at hs ⊢
  exact ⟨hs, this⟩
 ·rintro ⟨e', he', hs⟩
  simp at hs
  refine ⟨⟨e', he', by simpa using hs.1⟩, fun hji => ?_⟩
  subst hji
  rw [he] at he'
  cases he'
  exact hs.2 rfl
theorem mit_of {r : Nat} {ks : List Value} {vs : List AV} {left : List Nat} {cur : Option Nat} {u : Value} (h : HRel w X ρ H) (hx : Rp w X ρ H (.ptr r 0 0) u) (ho : H[r]? = some (.mit ks vs left cur)) :
  ∃ b m es clock since seen c0, r < H.length ∧ u = .pointer (some ⟨b, 0, none⟩) ∧ (ρ r).blk = some (b, 0) ∧ (ρ r).ver = 0 ∧ w.heap[b]? = some (.mapIter (some m) since seen c0) ∧ w.heap[m]? = some (.map es clock) ∧ Rep w (Mut X ρ H.length) ρ 0 (.mp ks vs) (.map (some m)) ∧ MitOk es clock since seen c0 left cur := by
 obtain ⟨h1, b, m, es, clock, since, seen, c0, h2, h3, h4, h5, h6⟩ := h.objs r _ ho
 cases hx with
 | ptr _ _ _ _ _ hr hle hone hp =>
  obtain ⟨b', o', hb', rfl⟩ := hp h1.symm
  rw [h2] at hb'
  simp only [Option.some.injEq, Prod.mk.injEq] at hb'
  obtain ⟨rfl, rfl⟩ := hb'
  exact ⟨b, m, es, clock, since, seen, c0, hr, rfl, h2, h1, h3, h4, h5, h6⟩
theorem mp_open {ks : List Value} {vs : List AV} {m : Nat} {es : Array MapEntry} {clock : Nat} (hrep : Rep w (Mut X ρ H.length) ρ 0 (.mp ks vs) (.map (some m))) (hm : w.heap[m]? = some (.map es clock)) :
  KsOk ks es clock ∧ vs.length = es.size ∧ ¬ Mut X ρ H.length m ∧ m < w.heap.size ∧ ∀ (i : Nat) (e : MapEntry), es[i]? = some e → ks.getD i default = e.key ∧ Rep w (Mut X ρ H.length) ρ 0 (vs.getD i .any) e.val := by
 cases hrep with
 | mp _ _ _ _ es' clock' hmm hb hh hks hvs hr =>
  rw [hm] at hh
  simp only [Option.some.injEq, Obj.map.injEq] at hh
  obtain ⟨rfl, rfl⟩ := hh
  refine ⟨hks, hvs, hmm, hb, fun i e he => ⟨?_, ?_⟩⟩
  ·rw [hks.1]; simp [List.getD_eq_getElem?_getD, he]
  ·have hi : i < es.size := (Array.getElem?_eq_some_iff.1 he).1
   have hv : vs[i]? = some (vs.getD i .any) := by
    rw [List.getD_eq_getElem?_getD, List.getElem?_eq_getElem (by omega), Option.getD_some]
   exact hr i _ e hv he
theorem snd_entrym {x : AV} {u : Value} (h : HRel w X ρ H) (hx : Rp w X ρ H x u) : zAR P (Instr.entry u) w X ρ H (rEntryM x H) := by
 unfold rEntryM
 split
 ·rename_i r
  unfold rEntryO
  split
  ·rename_i ks vs left i ho
   refine zW h fun _ => ?_
   obtain ⟨b, m, es, clock, since, seen, c0, hr, rfl, h2, h1, h3, h4, h5, h6⟩ := mit_of h hx ho
   obtain ⟨g1, g2, g3, g4⟩ := h6
   obtain ⟨e, seen0, he, rfl, rfl⟩ := g4 i rfl
   obtain ⟨hks, hvs, _, _, hkv⟩ := mp_open h5 h4
   obtain ⟨k1, k2⟩ := hkv i e he
   have hmem : e ∈ es.toList := by
    obtain ⟨hi, rfl⟩ := Array.getElem?_eq_some_iff.1 he
    simp
   refine ⟨_, run_entry_at w b m since seen0 es _ e h3 h4 hmem hks.2.2, ?_⟩
   refine .tup _ _ _ rfl fun j x u hx hu => ?_
   match j with
   | 0 => simp at hx hu; subst hx; subst hu; rw [← k1, List.getD_eq_getElem?_getD]; exact .v _ _
   | 1 => simp at hx hu; subst hx; subst hu; rw [← List.getD_eq_getElem?_getD]; exact k2.mono (Nat.zero_le _)
   | n + 2 => simp at hx
  ·exact zE
 ·exact zE
theorem snd_nextm {ty : TypeId} {K : AV → zC → Prop} {x : AV} {u : Value} (h : HRel w X ρ H) (hx : Rp w X ρ H x u) (hk : nextA x H K) :
  ∃ u' x' H' w' ρ', (Instr.next u false ty).run P w = .ok u' w' ∧ K x' H' ∧ HRel w' X ρ' H' ∧ Rep w' (Mut X ρ' H'.length) ρ' H'.length x' u' ∧ Fut w ρ H.length w' ρ' H'.length := by
 unfold nextA at hk
 split at hk
 ·rename_i r
  unfold nextO at hk
  split at hk
  ·rename_i ks vs left cur ho
   obtain ⟨k0, k1⟩ := hk
   obtain ⟨b, m, es, clock, since, seen, c0, hr, rfl, h2, h1, h3, h4, h5, h6⟩ := mit_of h hx ho
   obtain ⟨g1, g2, g3, g4⟩ := h6
   obtain ⟨hks, hvs, hmm, hmlt, hkv⟩ := mp_open h5 h4
   rcases run_next_at (P := P) w ty b m since c0 seen es clock h3 h4 g1 g2.1 with ⟨hl0, hrun⟩ | ⟨e, hel, w1, hw1, hrun⟩
   ·have hle : left = [] := by
     apply List.eq_nil_iff_forall_not_mem.2
     intro i hi
     obtain ⟨e, he, hs⟩ := (g3 i).1 hi
     have hmem : e ∈ leftOf es seen := by
      unfold leftOf
      rw [Array.mem_filter]
      exact ⟨Array.mem_of_getElem? he, by simpa using hs⟩
     have := Array.size_pos_of_mem hmem
     omega
    refine ⟨_, _, _, w, ρ, hrun, k0 hle, h, ?_, Fut.refl _ _ _⟩
    refine .tup _ _ _ rfl fun j x u hx hu => ?_
    match j with
    | 0 => simp at hx hu; subst hx; subst hu; exact .v _ _
    | n + 1 => simp at hx
   ·have hel' : e ∈ es ∧ seen.contains e.born = false := by
     have : e ∈ leftOf es seen := by simpa using hel
     unfold leftOf at this
     rw [Array.mem_filter] at this
     exact ⟨this.1, by simpa using this.2⟩
    obtain ⟨i, hi, hie⟩ := Array.getElem_of_mem hel'.1
    have he : es[i]? = some e := by rw [Array.getElem?_eq_some_iff]; exact ⟨hi, hie⟩
    have hil : i ∈ left := (g3 i).2 ⟨e, he, hel'.2⟩
    obtain ⟨q1, q2⟩ := hkv i e he
    have hne : b ≠ m := fun hh => by subst hh; rw [h3] at h4; cases h4
    have hsame : Same w w1 := by rcases hw1 with rfl | rfl; exact Same.refl _; exact Same.drew _
    have hheap : w1.heap = w.heap := by rcases hw1 with rfl | rfl <;> rfl
    have hblt : b < w.heap.size := (h.lt r b 0 hr h2).1
    obtain ⟨ρ', hρ, hrel, hfu⟩ := h.setAt (w' := ChangeMaps.setBlock w1 b (.mapIter (some m) since (seen.push e.born) clock)) hr (ρ r) (.mit ks vs (left.filter fun j => !decide (j = i)) (some i))
     ⟨hsame.os, hsame.tape, hsame.output, by simp [ChangeMaps.setBlock, hheap]⟩ (.inl rfl) (fun b o hb => .inl ⟨o, hb⟩)
     (fun b' _ hne' => by
      have : b ≠ b' := fun hh => hne' 0 (by rw [← hh]; exact h2)
      simp [ChangeMaps.setBlock, hheap, Array.getElem?_setIfInBounds_ne this])
     (fun ρ' _ hf' => by
      refine ⟨h1, b, m, es, clock, since, seen.push e.born, clock, h2, by simp [ChangeMaps.setBlock, hheap, hblt], by simp [ChangeMaps.setBlock, hheap, Array.getElem?_setIfInBounds_ne hne]; exact h4, h5.next hf' (Nat.zero_le _), g1, ?_, fun j => ?_, ?_⟩
      ·exact ⟨g2.2, g2.2⟩
      ·rw [List.mem_filter, g3 j, ← mit_push hks.2.2 he j]
       simp
      ·intro j hj
       cases hj
       exact ⟨e, seen, he, rfl, rfl⟩)
    refine ⟨_, _, _, _, ρ', hrun, k1 i hil, hrel, ?_, hfu⟩
    refine .tup _ _ _ rfl fun j x u hx hu => ?_
    match j with
    | 0 => simp at hx hu; subst hx; subst hu; exact .v _ _
    | 1 => simp at hx hu; subst hx; subst hu; rw [← q1, List.getD_eq_getElem?_getD]; exact .v _ _
    | 2 => simp at hx hu; subst hx; subst hu; rw [← List.getD_eq_getElem?_getD]; exact (q2.next hfu (Nat.zero_le _)).mono (Nat.zero_le _)
    | n + 3 => simp at hx
  ·exact hk.elim
 ·exact hk.elim
theorem lowConv_ok {src dst : TypeId} {x : Operand} {lo : LOp} {o : Oper} (ho : o.op = .convert src dst x) (hl : lowConv P n src dst x = some lo) (h : HRel w X ρ H) (he : ER w X ρ H n e a) : OpOK P o a w X ρ H (zAZ lo e H) := by
 have hex : execOp a.eval o = (do pure (.value (← convert src dst (a.eval x)))) := by unfold execOp; rw [ho]
 unfold lowConv at hl
 cases hs : P.underlying src with
 | none => simp [hs] at hl
 | some sd =>
  cases hd : P.underlying dst with
  | none => cases sd <;> simp [hs, hd] at hl
  | some dd =>
   cases hx : lx n x with
   | none => cases sd <;> cases dd <;> simp [hs, hd, hx] at hl
   | some y =>
    have hr := zAc he hx
    cases sd <;> cases dd <;> simp [hs, hd, hx] at hl
    case int.int => subst hl; exact zAA (snd_conv ⟨⟨_, hs⟩, hd⟩ h hr) hex
    case int.string => subst hl; exact zAA (snd_conv ⟨⟨_, hs⟩, hd⟩ h hr) hex
    case string.string => subst hl; exact zAA (snd_conv ⟨hs, hd⟩ h hr) hex
    case string.slice el =>
     cases hu : P.underlying el with
     | none => simp [hu] at hl
     | some ud =>
      cases ud <;> simp [hu] at hl
      rename_i k
      cases k <;> simp at hl
      subst hl
      exact zAA (snd_conv ⟨hs, el, hd, hu⟩ h hr) hex
    case slice.string el =>
     cases hu : P.underlying el with
     | none => simp [hu] at hl
     | some ud =>
      cases ud <;> simp [hu] at hl
      rename_i k
      cases k <;> first | (simp at hl; done) | skip
      cases hz : zCv P el with
      | none => simp [hz] at hl
      | some z =>
       match z, hl with
       | 1, hl =>
        simp [hz] at hl
        subst hl
        exact zAA (snd_conv ⟨⟨el, hs, hu⟩, hd⟩ h hr) hex
       | 0, hl => simp [hz] at hl
       | _ + 2, hl => simp [hz] at hl
    case slice.slice el el2 =>
     cases hu : P.underlying el with
     | none => simp [hu] at hl
     | some ud =>
      cases ud <;> simp [hu] at hl
      rename_i k
      cases k <;> simp at hl
      obtain ⟨h1, hl⟩ := hl
      subst hl
      exact zAA (snd_conv ⟨el, hs, hu, h1⟩ h hr) hex
theorem lowOp0_ok {imm : Bool} {o : Oper} {lo : LOp} (hl : lowOp0 P n imm o = some lo) (hp : zCH lo = true) (h : HRel w X ρ H) (he : ER w X ρ H n e a) : OpOK P o a w X ρ H (zAZ lo e H) := by
 unfold lowOp0 at hl
 cases ho : o.op <;> rw [ho] at hl <;> simp only at hl <;> first | (cases hl; done) | skip
 case move x =>
  obtain ⟨y, h1, rfl⟩ := zAr hl
  intro _
  exact ⟨_, w, ρ, .inl (by unfold execOp; rw [ho]; rfl), h, zAc he h1, Fut.refl _ _ _⟩
 case assign x =>
  obtain ⟨y, h1, rfl⟩ := zAr hl
  intro _
  exact ⟨_, w, ρ, .inl (by unfold execOp; rw [ho]; rfl), h, zAc he h1, Fut.refl _ _ _⟩
 case pick c x y =>
  cases hc : lx n c <;> cases hx : lx n x <;> cases hy : lx n y <;> simp [hc, hx, hy] at hl
  subst hl
  simp [zCH] at hp
 case alloc t =>
  cases hz : zA7 P t with
  | none => simp [hz] at hl
  | some z =>
   simp only [hz, Option.some.injEq] at hl
   subst hl
   split
   ·exact zAA (snd_allocb hz h) (by unfold execOp; rw [ho])
   ·exact zAA (snd_alloc hz h) (by unfold execOp; rw [ho])
 case box t x =>
  obtain ⟨y, h1, rfl⟩ := zAr hl
  exact zAA (snd_box h (zAc he h1)) (by unfold execOp; rw [ho])
 case build t ps =>
  unfold lowBuild at hl
  cases hz : zA7 P t with
  | none => simp [hz] at hl
  | some z =>
   cases z <;> simp only [hz] at hl <;> first | (cases hl; done) | skip
   rename_i z
   cases hu : P.underlying t with
   | none => simp [hu] at hl
   | some d =>
    cases d <;> simp only [hu] at hl <;> first | (cases hl; done) | skip
    case struct fs =>
     cases hpl : zCB P fs.toList with
     | none => simp [hpl] at hl
     | some pl =>
      simp only [hpl] at hl
      obtain ⟨m, h1, rfl⟩ := zAr hl
      refine zAA (s := Instr.build t (ps.map fun (i, x) => (i, a.eval x))) (snd_build_struct hz hu hpl h ?_) (by unfold execOp; rw [ho])
      have := lowPs_rep he _ _ h1
      simpa using this
    case array k el =>
     cases hs : zCv P el with
     | none => simp [hs] at hl
     | some sz =>
      simp only [hs] at hl
      obtain ⟨m, h1, rfl⟩ := zAr hl
      refine zAA (s := Instr.build t (ps.map fun (i, x) => (i, a.eval x))) (snd_build_array hz hu hs h ?_) (by unfold execOp; rw [ho])
      have := lowPs_rep he _ _ h1
      simpa using this
 case buildSlice t len ps =>
  unfold lowBsl at hl
  cases hu : P.underlying t with
  | none => simp [hu] at hl
  | some d =>
   cases d <;> simp only [hu] at hl <;> first | (cases hl; done) | skip
   rename_i el
   cases hs : zCv P el with
   | none => simp [hs] at hl
   | some sz =>
    cases hz : zA7 P el with
    | none => simp [hs, hz] at hl
    | some z =>
     cases hm : lowSs n ps.toList with
     | none => simp [hs, hz, hm] at hl
     | some m =>
      simp only [hs, hz, hm] at hl
      split at hl
      ·rename_i hc
       simp only [Option.some.injEq] at hl
       subst hl
       refine zAA (s := Instr.buildSlice t len (ps.map fun (i, x) => (i, a.eval x))) (snd_bsl hu hs hz hc.1 hc.2.1 hc.2.2.1 hc.2.2.2 h ?_) (by unfold execOp; rw [ho])
       have := lowSs_rep he _ _ hm
       simpa using this
      ·cases hl
 case makeMap t r =>
  cases r with
  | some r => cases hl
  | none =>
   simp only [Option.some.injEq] at hl
   subst hl
   exact zAA (snd_mkmap h) (by unfold execOp; rw [ho]; rfl)
 case insert t m k x =>
  cases hu : P.underlying t with
  | none => simp [hu] at hl
  | some d =>
   cases d <;> simp only [hu] at hl <;> first | (cases hl; done) | skip
   rename_i kt el
   cases hm : lx n m <;> cases hk : lx n k <;> cases hx : lx n x <;> simp only [hm, hk, hx] at hl <;> first | (cases hl; done) | skip
   obtain ⟨kd, h1, rfl⟩ := zAr hl
   exact opOK_u (snd_ins hu h1 h (zAc he hm) (keyV_rep (zAc he hk)) (zAc he hx)) (by unfold execOp; rw [ho])
 case mapUpdate t m k x =>
  cases hu : P.underlying t with
  | none => simp [hu] at hl
  | some d =>
   cases d <;> simp only [hu] at hl <;> first | (cases hl; done) | skip
   rename_i kt el
   cases hm : lx n m <;> cases hk : lx n k <;> cases hx : lx n x <;> simp only [hm, hk, hx] at hl <;> first | (cases hl; done) | skip
   obtain ⟨kd, h1, rfl⟩ := zAr hl
   exact opOK_u (snd_ins hu h1 h (zAc he hm) (keyV_rep (zAc he hk)) (zAc he hx)) (by unfold execOp; rw [ho])
 case load t p =>
  cases hag : tyAg P t <;> cases hs : zCv P t <;> cases hx : lx n p <;> simp only [hag, hs, hx] at hl <;> first | (cases hl; done) | skip
  simp only [Option.some.injEq] at hl
  subst hl
  cases imm with
  | false => exact zAA (snd_load hag hs h (zAc he hx)) (by unfold execOp; rw [ho])
  | true =>
   refine zAA (r := zCg _ _ _ H) (fun hok => ?_) (by unfold execOp; rw [ho])
   have hr := zAc he hx
   generalize ev e _ = x at hok hr ⊢
   cases x <;> first | exact hok.elim | exact snd_load hag hs h hr hok
 case store t p x =>
  cases hs : zCv P t <;> cases hq : lx n p <;> cases hx : lx n x <;> simp only [hs, hq, hx] at hl <;> first | (cases hl; done) | skip
  simp only [Option.some.injEq] at hl
  subst hl
  exact opOK_u (snd_store hs h (zAc he hq) (zAc he hx)) (by unfold execOp; rw [ho])
 case nilCheck x =>
  obtain ⟨y, h1, rfl⟩ := zAr hl
  exact snd_nilchk ho rfl h (zAc he h1)
 case binOp op t x y yt =>
  unfold lowBin at hl
  have fin : ∀ kd, tyKD P t = some kd → ∀ x' y', lx n x = some x' → lx n y = some y' → OpOK P o a w X ρ H (zAZ (.bin kd op x' y') e H) := fun kd hk x' y' hx hy =>
   zAA (snd_bin hk h (zAc he hx) (zAc he hy)) (by unfold execOp; rw [ho])
  have fin2 : (match tyKD P t, lx n x, lx n y with | some kd, some x, some y => some (LOp.bin kd op x y) | _, _, _ => none) = some lo → OpOK P o a w X ρ H (zAZ lo e H) := by
   intro hl
   cases hk : tyKD P t <;> cases hx : lx n x <;> cases hy : lx n y <;> simp only [hk, hx, hy] at hl <;> first | (cases hl; done) | skip
   simp only [Option.some.injEq] at hl
   subst hl
   exact fin _ hk _ _ hx hy
  cases hu : P.underlying t with
  | none => rw [hu] at hl; exact fin2 hl
  | some d =>
   rw [hu] at hl
   cases d <;> first | exact fin2 hl | skip
   case slice el =>
    cases hq : isEq op <;> cases hx : lx n x <;> simp only [hq, hx] at hl <;> first | (cases hl; done) | skip
    split at hl
    ·simp only [Option.some.injEq] at hl; subst hl; simp [zCH] at hp
    ·cases hl
   case interface ms =>
    cases hq : isEq op <;> cases hx : lx n x <;> simp only [hq, hx] at hl <;> first | (cases hl; done) | skip
    rename_i neg lxx
    split at hl
    ·rename_i hnc
     simp only [Option.some.injEq] at hl
     subst hl
     have hy : y = .const .nilIface := by
      cases y with
      | const v => cases v <;> first | rfl | (simp [isNilI] at hnc; done)
      | _ => simp [isNilI] at hnc
     exact snd_nili ho hu hq hy h (zAc he hx)
    ·cases hl
 case unOp op t x =>
  cases op <;> simp only at hl <;> first | (cases hl; done) | skip
  case not =>
   obtain ⟨y, h1, rfl⟩ := zAr hl
   exact zAA (snd_not h (zAc he h1)) (by unfold execOp; rw [ho])
  case neg =>
   obtain ⟨y, h1, rfl⟩ := zAr hl
   exact zAA (snd_neg h (zAc he h1)) (by unfold execOp; rw [ho])
 case convert src dst x => exact lowConv_ok ho hl h he
 case makeFunc f first caps =>
  cases hf : lxs n first.toList <;> cases hc : lxs n caps.toList <;> simp only [hf, hc] at hl <;> first | (cases hl; done) | skip
  simp only [Option.some.injEq] at hl
  subst hl
  obtain ⟨h1, h2⟩ := zCd he _ _ hf
  obtain ⟨h3, h4⟩ := zCd he _ _ hc
  intro _
  refine ⟨.func f (first.map a.eval) (caps.map a.eval), w, ρ, .inl (by unfold execOp; rw [ho]; rfl), h, ?_, Fut.refl _ _ _⟩
  refine .fn _ _ _ _ _ _ (by simpa using h1) (by simpa using h3) (fun i x u hx hu => h2 i x u hx (by simpa using hu)) (fun i x u hx hu => h4 i x u hx (by simpa using hu))
 case makeSlice t l c =>
  cases hu : P.underlying t with
  | none => simp [hu] at hl
  | some d =>
   cases d <;> simp only [hu] at hl <;> first | (cases hl; done) | skip
   rename_i el
   cases hx : lx n l <;> cases hy : lx n c <;> simp only [hx, hy] at hl <;> first | (cases hl; done) | skip
   cases hi : P.info? el with
   | none => simp [hi] at hl
   | some i =>
    simp only [hi] at hl
    cases hz : i.zero with
    | none => simp [hz] at hl
    | some z =>
     simp only [hz] at hl
     split at hl
     ·rename_i hc
      simp only [Option.some.injEq] at hl
      subst hl
      exact zAA (snd_msl hu hi hz hc.1 hc.2.1 hc.2.2 h (zAc he hx) (zAc he hy)) (by unfold execOp; rw [ho])
     ·cases hl
 case slice t x l hi mx =>
  cases mx with
  | some m => cases hl
  | none =>
   cases hu : P.underlying t with
   | none => simp [hu] at hl
   | some d =>
    cases d <;> simp only [hu] at hl <;> first | (cases hl; done) | skip
    case string =>
     cases hx : lx n x <;> cases h1 : lxo n l <;> cases h2 : lxo n hi <;> simp only [hx, h1, h2] at hl <;> first | (cases hl; done) | skip
     simp only [Option.some.injEq] at hl
     subst hl
     exact zAA (s := Instr.sliceAt t (a.eval x) (l.map a.eval) (hi.map a.eval) none) (snd_slice (.inl ⟨rfl, hu⟩) h (zAc he hx) (lxo_rep he h1) (lxo_rep he h2)) (by unfold execOp; rw [ho]; rfl)
    case slice el =>
     cases hx : lx n x <;> cases h1 : lxo n l <;> cases h2 : lxo n hi <;> simp only [hx, h1, h2] at hl <;> first | (cases hl; done) | skip
     obtain ⟨sz, hs, rfl⟩ := zAr hl
     cases imm with
     | false => exact zAA (s := Instr.sliceAt t (a.eval x) (l.map a.eval) (hi.map a.eval) none) (snd_slice (.inr ⟨rfl, el, hu, hs⟩) h (zAc he hx) (lxo_rep he h1) (lxo_rep he h2)) (by unfold execOp; rw [ho]; rfl)
     | true =>
      refine zAA (s := Instr.sliceAt t (a.eval x) (l.map a.eval) (hi.map a.eval) none) (r := zC4 _ _ _ _ _ H) (fun hok => ?_) (by unfold execOp; rw [ho]; rfl)
      have hr := zAc he hx
      have g1 := lxo_rep he h1
      have g2 := lxo_rep he h2
      generalize ev e _ = x0 at hok hr ⊢
      cases x0 <;> first | exact hok.elim | exact snd_slice (.inr ⟨rfl, el, hu, hs⟩) h hr g1 g2 hok
 case fieldAddr s p f =>
  cases hu : P.underlying s with
  | none => simp [hu] at hl
  | some d =>
   cases d <;> simp only [hu] at hl <;> first | (cases hl; done) | skip
   rename_i fs
   cases hx : lx n p with
   | none => simp [hx] at hl
   | some y =>
    simp only [hx] at hl
    cases hf : fs[f]? with
    | none => simp [hf] at hl
    | some fd =>
     simp only [hf] at hl
     cases hn : zCv P fd.type with
     | none => simp [hn] at hl
     | some k =>
      cases k with
      | zero => simp [hn] at hl
      | succ k =>
       simp only [hn, Option.some.injEq] at hl
       subst hl
       cases imm with
       | false => exact zAA (snd_faddr hu hf hn (by omega) h (zAc he hx)) (by unfold execOp; rw [ho])
       | true =>
        refine zAA (r := zBB _ _ H) (fun hok => ?_) (by unfold execOp; rw [ho])
        have hr := zAc he hx
        generalize ev e _ = x at hok hr ⊢
        cases x <;> first | exact hok.elim | exact snd_faddr hu hf hn (by omega) h hr hok
 case field s x f =>
  cases hu : P.underlying s with
  | none => simp [hu] at hl
  | some d =>
   cases d <;> simp only [hu] at hl <;> first | (cases hl; done) | skip
   rename_i fs
   cases hx : lx n x with
   | none => simp [hx] at hl
   | some y =>
    simp only [hx] at hl
    cases hf : fs[f]? with
    | none => simp [hf] at hl
    | some fd =>
     simp only [hf] at hl
     cases hag : tyAg P fd.type <;> cases hn : zCv P fd.type <;> simp only [hag, hn] at hl <;> first | (cases hl; done) | skip
     simp only [Option.some.injEq] at hl
     subst hl
     exact zAA (snd_fld hu hf hag hn h (zAc he hx)) (by unfold execOp; rw [ho])
 case indexAddr t x i =>
  cases hu : P.underlying t with
  | none => simp [hu] at hl
  | some d =>
   cases d <;> simp only [hu] at hl <;> first | (cases hl; done) | skip
   cases hx : lx n x <;> cases hi : lx n i <;> simp only [hx, hi] at hl <;> first | (cases hl; done) | skip
   obtain ⟨sz, hs, rfl⟩ := zAr hl
   cases imm with
   | false => exact zAA (snd_iaddr hu hs h (zAc he hx) (zAc he hi)) (by unfold execOp; rw [ho])
   | true =>
    refine zAA (r := zC5 _ _ _ H) (fun hok => ?_) (by unfold execOp; rw [ho])
    have hr := zAc he hx
    have hr2 := zAc he hi
    generalize ev e _ = x at hok hr ⊢
    cases x <;> first | exact hok.elim | exact snd_iaddr hu hs h hr hr2 hok
 case index t x i =>
  cases hu : P.underlying t with
  | none => simp [hu] at hl
  | some d =>
   cases d <;> simp only [hu] at hl <;> first | (cases hl; done) | skip
   cases hx : lx n x <;> cases hi : lx n i <;> simp only [hx, hi] at hl <;> first | (cases hl; done) | skip
   simp only [Option.some.injEq] at hl
   subst hl
   exact zAA (snd_idx hu h (zAc he hx) (zAc he hi)) (by unfold execOp; rw [ho])
 case lookup t m k ok =>
  cases hu : P.underlying t with
  | none => simp [hu] at hl
  | some d =>
   cases d <;> simp only [hu] at hl <;> first | (cases hl; done) | skip
   cases hx : lx n m <;> cases hi : lx n k <;> simp only [hx, hi] at hl <;> first | (cases hl; done) | skip
   rename_i kt el _ _
   cases hk : keyKD P kt <;> cases hz : zA7 P el <;> simp only [hk, hz] at hl <;> first | (cases hl; done) | skip
   simp only [Option.some.injEq] at hl
   subst hl
   exact zAA (snd_look hu hk hz h (zAc he hx) (keyV_rep (zAc he hi))) (by unfold execOp; rw [ho])
 case extract x i =>
  obtain ⟨y, h1, rfl⟩ := zAr hl
  exact zAA (snd_ext h (zAc he h1)) (by unfold execOp; rw [ho])
 case typeAssert x xt t ok =>
  cases ok with
  | false => cases hl
  | true =>
   simp only at hl
   cases hu : P.underlying t with
   | none => simp [hu] at hl
   | some d =>
    have hni : ∀ ms, d ≠ .interface ms := by
     rintro ms rfl
     simp [hu] at hl
    cases hx : lx n x <;> cases hz : zA7 P t <;> cases d <;> simp only [hu, hx, hz] at hl <;> first | (cases hl; done) | skip
    all_goals
     simp only [Option.some.injEq] at hl
     subst hl
     exact zAA (snd_asrt hu hni hz h (zAc he hx)) (by unfold execOp; rw [ho])
 case makeInterface t x =>
  cases hx : lx n x <;> cases hu : P.underlying t <;> simp only [hx, hu] at hl <;> first | (cases hl; done) | skip
  rename_i y d
  split at hl
  ·rename_i hni
   simp only [Option.some.injEq] at hl
   subst hl
   refine zAA (s := Instr.makeInterface t (a.eval x)) ?_ (by unfold execOp; rw [ho])
   have hr := zAc he hx
   simp only [zAZ, rMkif]
   cases hv : valA (ev e y) with
   | none => exact zE
   | some v =>
    refine zW h fun _ => ⟨.iface t v, ?_, .v _ _⟩
    rw [valA_rep hv hr]
    cases d <;> simp [notIface] at hni <;> simp [Instr.makeInterface, run_underlying hu]
  ·cases hl
 case range t x =>
  cases hu : P.underlying t with
  | none => simp [hu] at hl
  | some d =>
   cases d <;> simp only [hu] at hl <;> first | (cases hl; done) | skip
   obtain ⟨y, h1, rfl⟩ := zAr hl
   exact zAA (snd_rangem hu h (zAc he h1)) (by unfold execOp; rw [ho])
 case next x s =>
  cases s with
  | true => cases hl
  | false =>
   obtain ⟨y, h1, rfl⟩ := zAr hl
   simp [zCH] at hp
 case panic x =>
  obtain ⟨y, h1, rfl⟩ := zAr hl
  exact opOK_no
 case entry x =>
  obtain ⟨y, h1, rfl⟩ := zAr hl
  exact zAA (snd_entrym h (zAc he h1)) (by unfold execOp; rw [ho])
 case call c =>
  split at hl
  ·exact lowCallB_ok ho hl hp h he
  ·exact lowCall_ok ho hl hp h he
end
set_option linter.unusedSimpArgs false
set_option linter.unusedVariables false
section
variable {P : Program} {w : World} {X : Nat → Prop} {ρ : Nat → Loc} {H : zC} {e : Env} {a : Act} {n : Nat}
abbrev Cont (X : Nat → Prop) (w : World) (ρ : Nat → Loc) (H : zC) (a : Act) (d : Option Nat) (K : AV → zC → Prop) (next : Act → World → Prop) : Prop :=
 ∀ u x H' ρ' w', K x H' → HRel w' X ρ' H' → Rep w' (Mut X ρ' H'.length) ρ' H'.length x u → Fut w ρ H.length w' ρ' H'.length → next (a.put d u) w'
theorem aop_plain {lo : LOp} (hp : zCH lo = true) {K : AV → zC → Prop} (h : aop P lo e H K) : (zAZ lo e H).ok ∧ K (zAZ lo e H).x (zAZ lo e H).H := by
 cases lo <;> first | exact h | (simp [zCH] at hp)
theorem sl_nilcase {x : AV} {u : Value} (h : HRel w X ρ H) (hx : Rp w X ρ H x u) (hs : slcK H x) : ∃ b l c, u = .slice b l c ∧ nilOk x b.isNone := by
 cases x with
 | v x =>
  have := zAP hx; subst this
  cases u with
  | slice b l c => cases b <;> cases l <;> cases c <;> simp [slcK] at hs; exact ⟨_, _, _, rfl, rfl⟩
  | _ => simp [slcK] at hs
 | sl sz xs =>
  cases hx with
  | slE _ _ b c => exact ⟨b, 0, c, rfl, fun _ => rfl⟩
  | slN => exact ⟨_, _, _, rfl, fun hh => by simp at hh⟩
 | os r ver off len =>
  obtain ⟨hb, hv⟩ := hs
  obtain ⟨v, sz, xs, ho⟩ := zBn hb
  rw [ho] at hv
  obtain ⟨_, _, _, _, _, _, ⟨b, c, rfl, hlc, hcap⟩, _⟩ := os_arr h hx ho hv
  refine ⟨_, _, _, rfl, fun hh => ?_⟩
  rcases hcap with h0 | ⟨_, _, _, rfl, _⟩
  ·omega
  ·simp at hh
 | nc => cases hx; exact ⟨_, _, _, rfl, trivial⟩
 | _ => simp [slcK] at hs
theorem eqIn_nilS0 {d : Nat} {t el : TypeId} {b : Option Addr} {l c : Nat} (ht : P.underlying t = some (.slice el)) : (Op.equalIn (d + 1) t (.slice b l c) (.slice none 0 0)).run P w = .ok b.isNone w := by
 cases b <;> simp [Op.equalIn, run_underlying ht]
theorem eqIn_nilS {t el : TypeId} {b : Option Addr} {l c : Nat} (ht : P.underlying t = some (.slice el)) : (Op.equal t (.slice b l c) (.slice none 0 0)).run P w = .ok b.isNone w :=
 eqIn_nilS0 (d := 9999) ht
abbrev WR (r : Option Nat) : Fence := { Fence.wide with round := r }
theorem wr_depth {r : Option Nat} {k : Nat} : (WR r).depth.isSome = true → 1 ≤ k := fun h => by cases h
theorem callsIn_wr {r : Option Nat} {m : Nat} {f : FuncId} {args : Array Value} {R : Ending → World → Prop} (h : Calls P f args w R) : CallsIn (WR r) m P f args w R := (callsIn_wide (n := m)).2 h
theorem roundIn_wr {r : Option Nat} {m m' : Nat} {l : Nat} {f : FuncId} {tmps : Array Value} {asg bdy : Code} {R : Ending → World → Prop} (h : RoundIn Fence.wide m P l f tmps asg bdy w R) : RoundIn (WR r) m' P l f tmps asg bdy w R :=
 ⟨trivial, fun c cs _ => h.2 c cs (room_wide _)⟩
theorem zBw {r : Option Nat} {m : Nat} {o : Oper} {next : Act → World → Prop} {Q : Exit → Act → World → Prop} (hd : ∀ c, o.op ≠ .defer c) (h : o.uponIn (WR r) m P a next Q ((execOp a.eval o).run P w)) : o.wpIn (WR r) m P a w next Q :=
 ⟨fun _ _ => trivial, by rw [Oper.semAt_eq _ _ _ hd]; exact h⟩
theorem low_nodefer {imm : Bool} {o : Oper} {lo : LOp} (hl : lowOp0 P n imm o = some lo) (c : Call) : o.op ≠ .defer c := fun hc => by
 unfold lowOp0 at hl; rw [hc] at hl; cases hl
theorem acall_v {x : Value} {args : List AV} {K : AV → zC → Prop} (h : acall P (.v x) args H K) : ∃ l, x = .func (.yield l) #[] #[] ∧ AYield P l args H K := by
 unfold acall at h
 split at h
 ·rename_i he; cases he
 ·rename_i l he; cases he; exact ⟨l, rfl, h⟩
 ·exact h.elim
def plainO : Option LOp → Bool
 | some lo => zCH lo
 | none => true
theorem aop_sound {r : Option Nat} {m0 : Nat} {imm : Bool} {o : Oper} {K : AV → zC → Prop} (hop : aop P (lowOp P n imm o) e H K) (h : HRel w X ρ H) (he : ER w X ρ H n e a) {next : Act → World → Prop} {Q : Exit → Act → World → Prop}
  (hn : Cont X w ρ H a o.dst K next) : o.wpIn (WR r) m0 P a w next Q := by
 unfold lowOp at hop
 cases hl : lowOp0 P n imm o with
 | none => rw [hl] at hop; exact hop.1.elim
 | some lo =>
  rw [hl] at hop
  simp only [Option.getD_some] at hop
  have hnd := low_nodefer hl
  by_cases hp : zCH lo = true
  ·obtain ⟨h1, h2⟩ := aop_plain hp hop
   obtain ⟨u, w', ρ', hr, g1, g2, g3⟩ := lowOp0_ok hl hp h he h1
   refine zBw hnd ?_
   rcases hr with hr | ⟨hr, rfl⟩
   ·rw [hr]; exact hn _ _ _ _ _ h2 g1 g2 g3
   ·rw [hr]; exact hn _ _ _ _ _ h2 g1 g2 g3
  ·unfold lowOp0 at hl
   cases ho : o.op <;> rw [ho] at hl <;> simp only at hl <;> first | (cases hl; done) | skip
   case pick c x y =>
    cases hc : lx n c <;> cases hx : lx n x <;> cases hy : lx n y <;> simp [hc, hx, hy] at hl
    subst hl
    have rc := zAc he hc
    have rx := zAc he hx
    have ry := zAc he hy
    simp only [aop] at hop
    refine zBw hnd ?_
    unfold execOp
    rw [ho]
    split at hop
    ·rename_i t htb
     rw [htb] at rc
     have hcv := zAP rc
     split at hop
     ·rename_i hb
      subst hb
      simp only [hcv, asBool, Sem.run_bind, Sem.run_pure, Result.andThen_ok, if_true]
      exact hn _ _ _ _ _ hop h rx (Fut.refl _ _ _)
     ·rename_i hb
      have hb' : t = false := by simpa using hb
      subst hb'
      simp only [hcv, asBool, Sem.run_bind, Sem.run_pure, Result.andThen_ok, Bool.false_eq_true, if_false]
      exact hn _ _ _ _ _ hop h ry (Fut.refl _ _ _)
    ·exact hop.elim
   case binOp op t x y yt =>
    unfold lowBin at hl
    have bad : (match tyKD P t, lx n x, lx n y with | some kd, some x, some y => some (LOp.bin kd op x y) | _, _, _ => none) = some lo → False := by
     intro hl
     cases hk : tyKD P t <;> cases hx : lx n x <;> cases hy : lx n y <;> simp only [hk, hx, hy] at hl <;> first | (cases hl; done) | skip
     simp only [Option.some.injEq] at hl
     subst hl
     simp [zCH] at hp
    cases hu : P.underlying t with
    | none => rw [hu] at hl; exact (bad hl).elim
    | some d =>
     rw [hu] at hl
     cases d <;> first | exact (bad hl).elim | skip
     case interface ms =>
      cases hq : isEq op <;> cases hx : lx n x <;> simp only [hq, hx] at hl <;> first | (cases hl; done) | skip
      split at hl
      ·simp only [Option.some.injEq] at hl; subst hl; simp [zCH] at hp
      ·cases hl
     rename_i el
     cases hq : isEq op <;> cases hx : lx n x <;> simp only [hq, hx] at hl <;> first | (cases hl; done) | skip
     rename_i neg lxx
     split at hl
     ·rename_i hnc
      simp only [Option.some.injEq] at hl
      subst hl
      obtain ⟨hs, hK⟩ := hop
      obtain ⟨b, l, c, hae, hnil⟩ := sl_nilcase h (zAc he hx) hs
      have hy : a.eval y = .slice none 0 0 := by
       cases y with
       | const v => cases v with
        | slice b l c => cases b <;> cases l <;> cases c <;> simp [isNilC] at hnc; rfl
        | _ => simp [isNilC] at hnc
       | _ => simp [isNilC] at hnc
      have hex : (execOp a.eval o).run P w = .ok (.value (.bool (b.isNone ^^ neg))) w := by
       unfold execOp
       rw [ho]
       cases op <;> simp [isEq] at hq <;> subst hq
       ·simp [hae, hy, eqGuard_at_slice, binOp, eqIn_nilS hu]
       ·simp [hae, hy, eqGuard_at_slice, binOp, eqIn_nilS hu]
      refine zBw hnd ?_
      rw [hex]
      exact hn _ _ _ _ _ (hK _ hnil) h (.v _ _) (Fut.refl _ _ _)
     ·cases hl
   case next x s =>
    cases s with
    | true => cases hl
    | false =>
     obtain ⟨y, h1, rfl⟩ := zAr hl
     obtain ⟨u', x', H', w', ρ', q1, q2, q3, q4, q5⟩ := snd_nextm (P := P) (ty := o.type) h (zAc he h1) hop
     have hex : (execOp a.eval o).run P w = .ok (.value u') w' := by
      unfold execOp
      rw [ho]
      simp [q1]
     refine zBw hnd ?_
     rw [hex]
     exact hn _ _ _ _ _ q2 q3 q4 q5
   case call c =>
    obtain ⟨lo, hl, hop, hp⟩ : ∃ lo, zC7 P n c = some lo ∧ aop P lo e H K ∧ ¬ zCH lo = true := by
     split at hl
     ·rcases lowCallB_plain hl with hq | ⟨f, g, m, h1, h2, h3, rfl⟩
      ·exact absurd hq hp
      ·exact ⟨.call g m, by unfold zC7; simp only [h1, h2, h3], hop, by simp [zCH]⟩
     ·exact ⟨lo, hl, hop, hp⟩
    obtain ⟨callee, args, tys⟩ := c
    unfold zC7 at hl
    cases callee with
    | value f =>
     simp only at hl
     cases hf : lx n f with
     | none => simp [hf] at hl
     | some g =>
      cases hm : lxs n args.toList with
      | none => simp [hf, hm] at hl
      | some m =>
       simp [hf, hm] at hl
       subst hl
       have rf := zAc he hf
       obtain ⟨hlen, hrep⟩ := zCd he _ _ hm
       simp only [aop] at hop
       cases hfv : ev e g with
       | fn fk first caps =>
        rw [hfv] at hop rf
        cases fk <;> simp only [acall] at hop <;> first | exact hop.elim | skip
        rename_i k
        obtain ⟨⟨fn, hfn, hbody, hname⟩, hcall⟩ := hop
        generalize hfe : a.eval f = fv at rf
        cases rf with
        | fn _ _ _ _ fs us h1 h2 h3 h4 =>
         have hex : (execOp a.eval o).run P w = .ok (.enter k (fs ++ args.map a.eval ++ us)) w := by
          unfold execOp
          rw [ho]
          simp only [resolve, hfe, Deferred.ofValue, Sem.run_bind, Sem.run_pure, Result.andThen_ok, invoke, callFunc, run_program, hfn, hname, Bool.false_eq_true, if_false, hbody]
         refine zBw hnd ?_
         rw [hex]
         refine ⟨wr_depth, callsIn_wr ((hcall X ρ w _ h ⟨?_, ?_⟩).mono ?_)⟩
         ·simp [h1, h2, hlen]
         ·intro i x u hx hu
          rw [List.append_assoc, List.getElem?_append] at hx
          rw [Array.append_assoc, Array.getElem?_append] at hu
          by_cases hi : i < first.length
          ·rw [if_pos hi] at hx
           rw [if_pos (by omega)] at hu
           exact h3 i x u hx hu
          ·rw [if_neg hi, List.getElem?_append] at hx
           rw [if_neg (by omega), Array.getElem?_append] at hu
           simp only [List.length_map, Array.size_map] at hx hu
           have hl2 : m.length = args.size := by simpa using hlen
           by_cases hj : i - first.length < m.length
           ·rw [if_pos hj] at hx
            rw [if_pos (by omega)] at hu
            exact hrep (i - first.length) x u hx (by rw [← h1] at hu; simpa using hu)
           ·rw [if_neg hj] at hx
            rw [if_neg (by omega)] at hu
            exact h4 (i - first.length - m.length) x u hx (by rw [← h1, ← hl2] at hu; exact hu)
         ·rintro en w' ⟨v, x, H', ρ', rfl, hK, g1, g2, g3⟩
          exact hn _ _ _ _ _ hK g1 g2 g3
       | v x =>
        rw [hfv] at hop rf
        have hfe := zAP rf
        obtain ⟨l, rfl, hy⟩ := acall_v hop
        obtain ⟨fn', tmps, asg, bdy, hyr, hround⟩ := hy X ρ w (args.map a.eval) h ⟨by simp [hlen], fun i x u hx hu => hrep i x u hx (by simpa using hu)⟩
        have hex : (execOp a.eval o).run P w = .ok (.round l fn' tmps asg bdy) w := by
         unfold execOp
         rw [ho]
         simp only [resolve, hfe, Deferred.ofValue, Sem.run_bind, Sem.run_pure, Result.andThen_ok, invoke, callFunc, run_program]
         simpa using hyr
        refine zBw hnd ?_
        rw [hex]
        refine ⟨wr_depth, roundIn_wr (hround.mono ?_)⟩
        rintro en w' ⟨v, x, H', ρ', rfl, hK, g1, g2, g3⟩
        exact hn _ _ _ _ _ hK g1 g2 g3
       | _ => rw [hfv] at hop; exact hop.elim
    | invoke r m => simp at hl
    | builtin b =>
     refine absurd (show plainO (some lo) = true from ?_) hp
     rw [← hl]
     cases b <;> simp only <;> (repeat' split) <;> first | rfl | (cases zCv P _ <;> simp only [Option.bind_none, Option.bind_some] <;> (try split) <;> rfl)
   case unOp op t x => cases op <;> simp only at hl <;> first | (cases hl; done) | (obtain ⟨_, _, rfl⟩ := zAr hl; exact absurd rfl hp)
   case typeAssert x xt t ok =>
    cases ok with
    | false => cases hl
    | true =>
     simp only at hl
     cases hu : P.underlying t with
     | none => simp [hu] at hl
     | some d => cases hx : lx n x <;> cases hz : zA7 P t <;> cases d <;> simp only [hu, hx, hz] at hl <;> first | (cases hl; done) | (cases hl; exact absurd rfl hp)
   case makeInterface t x =>
    refine absurd (show plainO (some lo) = true from ?_) hp
    cases hx : lx n x <;> cases hu : P.underlying t <;> simp only [hx, hu] at hl <;> first | (cases hl; done) | skip
    rw [← hl]
    split <;> rfl
   case makeMap t r => cases r <;> simp only at hl <;> first | (cases hl; done) | (cases hl; exact absurd rfl hp)
   case slice t x lo hi mx => cases mx <;> simp only at hl <;> first | (cases hl; done) | (refine absurd (show plainO (some _) = true from ?_) hp; rw [← hl]; (repeat' split) <;> first | rfl | (cases zCv P _ <;> first | rfl | (cases imm <;> rfl)))
   all_goals
    refine absurd (show plainO (some lo) = true from ?_) hp
    rw [← hl]
    (try unfold lowBuild); (try unfold lowBsl); (try unfold lowConv)
    (repeat' split) <;> first | rfl | (cases lx n _ <;> rfl) | (cases lowPs n _ _ <;> rfl) | (cases tyKD P _ <;> rfl) | (cases keyKD P _ <;> rfl) | (cases zCv P _ <;> rfl)
end
structure DB where
 ds : List Deferred
 ok : Prop
section
variable {B : DB} {P : Program} {w w0 : World} {X : Nat → Prop} {ρ ρ0 : Nat → Loc} {H : zC} {e : Env} {a : Act} {n n0 : Nat}
def mark (D : Nat) : Deferred := { target := .collected D, args := #[] }
def Mk (B : DB) (w0 w : World) (ρ : Nat → Loc) (n : Nat) (df : List Deferred) : Prop :=
 ∃ ds : List Nat, df = ds.map mark ++ B.ds ∧ (B.ok ∨ ds = []) ∧ ds.Nodup ∧ ∀ D ∈ ds, w0.heap.size ≤ D ∧ D < w.heap.size ∧ ¬ Own ρ n D ∧ w.heap[D]? = some (.deferred (some []))
theorem Mk.fut {w' : World} {ρ' : Nat → Loc} {n' : Nat} {df : List Deferred} (h : Mk B w0 w ρ n df) (hf : Fut w ρ n w' ρ' n') : Mk B w0 w' ρ' n' df := by
 obtain ⟨ds, h1, h0, h2, h3⟩ := h
 refine ⟨ds, h1, h0, h2, fun D hD => ?_⟩
 obtain ⟨g1, g2, g3, g4⟩ := h3 D hD
 exact ⟨g1, Nat.lt_of_lt_of_le g2 hf.size, fun ho => (hf.own D ho).elim g3 fun h => by omega, by rw [hf.keep D g2 g3]; exact g4⟩
theorem Mk.nil {w0 w : World} {ρ : Nat → Loc} {n : Nat} : Mk B w0 w ρ n B.ds := ⟨[], rfl, .inr rfl, .nil, by simp⟩
def St (B : DB) (X : Nat → Prop) (w0 : World) (ρ0 : Nat → Loc) (n0 n : Nat) (e : Env) (H : zC) (a : Act) (w : World) : Prop :=
 a.tmps.size = n ∧ ∃ ρ, HRel w X ρ H ∧ ER w X ρ H n e a ∧ Fut w0 ρ0 n0 w ρ H.length ∧ Mk B w0 w ρ H.length a.defers
theorem put_get (a : Act) (d t : Nat) (u : Value) : (a.put (some d) u).tmps.getD t undef = if t = d ∧ d < a.tmps.size then u else a.tmps.getD t undef := by
 simp only [Act.put, Array.getD_eq_getD_getElem?]
 by_cases h : t = d
 ·subst h
  by_cases h2 : t < a.tmps.size
  ·simp [h2]
  ·simp [h2]
 ·rw [Array.getElem?_setIfInBounds_ne (fun e => h e.symm), if_neg (fun hh => h hh.1)]
theorem er_put {w' : World} {ρ' : Nat → Loc} {H' : zC} {d : Option Nat} {u : Value} {x : AV} (he : ER w X ρ H n e a) (hf : Fut w ρ H.length w' ρ' H'.length) (hx : Rep w' (Mut X ρ' H'.length) ρ' H'.length x u) (hn : a.tmps.size = n) :
  ER w' X ρ' H' n (ups e d x) (a.put d u) := by
 intro t ht
 cases d with
 | none => exact (he t ht).nextN hf
 | some d =>
  rw [put_get]
  simp only [ups, up]
  by_cases h : t = d
  ·subst h
   rw [if_pos rfl, if_pos ⟨rfl, by omega⟩]
   exact hx
  ·rw [if_neg h, if_neg (fun hh => h hh.1)]
   exact (he t ht).nextN hf
theorem put_size (a : Act) (d : Option Nat) (u : Value) : (a.put d u).tmps.size = a.tmps.size := by
 cases d <;> simp [Act.put]
theorem put_def (a : Act) (d : Option Nat) (u : Value) : (a.put d u).defers = a.defers := by
 cases d <;> rfl
theorem St.put {w' : World} {H' : zC} {ρ' : Nat → Loc} {d : Option Nat} {u : Value} {x : AV} (hm : Mk B w0 w ρ H.length a.defers) (hs : a.tmps.size = n) (he : ER w X ρ H n e a) (h0 : Fut w0 ρ0 n0 w ρ H.length) (g1 : HRel w' X ρ' H')
  (g2 : Rep w' (Mut X ρ' H'.length) ρ' H'.length x u) (g3 : Fut w ρ H.length w' ρ' H'.length) : St B X w0 ρ0 n0 n (ups e d x) H' (a.put d u) w' :=
 ⟨by rw [put_size]; exact hs, ρ', g1, er_put he g3 g2 hs, h0.trans g3, by rw [put_def]; exact hm.fut g3⟩
theorem up_eq {t : Nat} {x : AV} (h : e t = x) : up e t x = e := by
 funext u
 simp only [up]
 split
 ·rename_i hu; rw [hu, h]
 ·rfl
theorem ghost_inv {d : Option Nat} {op : LOp} (h : ghost d op = true) : ∃ t, d = some t ∧ (op = .frz (.t t) ∨ (∃ sz off, op = .frzf sz off (.t t)) ∨ ∃ sz, op = .own sz (.t t)) := by
 cases op <;> simp [ghost] at h
 case frz x => cases x <;> simp at h; exact ⟨_, h, .inl rfl⟩
 case own sz x => cases x <;> simp at h; exact ⟨_, h, .inr (.inr ⟨sz, rfl⟩)⟩
 case frzf sz off x => cases x <;> simp at h; exact ⟨_, h, .inr (.inl ⟨sz, off, rfl⟩)⟩
theorem zAn : ∀ (gs : List LO) {los : List LO} {e : Env} {H : zC} {K : Env → zC → Prop}, zCT n gs = true → zAu P (gs ++ los) e H K → St B X w0 ρ0 n0 n e H a w → ∃ e' H', zAu P los e' H' K ∧ St B X w0 ρ0 n0 n e' H' a w
 | [], _, e, H, _, _, h, hst => ⟨e, H, h, hst⟩
 | g :: gs, los, e, H, K, hg, h, ⟨hn, ρ, hrel, he, hf, hm⟩ => by
  simp only [zCT, List.all_cons, Bool.and_eq_true] at hg
  obtain ⟨⟨⟨g1, g2⟩, g3⟩, g4⟩ := hg
  obtain ⟨d, gg, op⟩ := g
  cases gg with
  | some _ => simp at g1
  | none =>
   obtain ⟨t, rfl, hop⟩ := ghost_inv g2
   have ht : t < n := by simpa using g3
   have hput : ∀ (w' : World) (ρ' : Nat → Loc) (H' : zC) (x : AV), Fut w ρ H.length w ρ' H'.length → HRel w X ρ' H' → Rep w (Mut X ρ' H'.length) ρ' H'.length x (a.tmps.getD t undef) → St B X w0 ρ0 n0 n (up e t x) H' a w := by
    intro w' ρ' H' x f1 f2 f3
    refine ⟨hn, ρ', f2, fun u hu => ?_, hf.trans f1, hm.fut f1⟩
    simp only [up]
    split
    ·rename_i hut; rw [hut]; exact f3
    ·exact (he u hu).nextN f1
   rcases hop with rfl | ⟨sz, off, rfl⟩ | ⟨sz, rfl⟩
   ·obtain ⟨h1, h2⟩ := h
    obtain ⟨ρ', f1, f2, f3⟩ := snd_frz hrel (he t ht) h1
    exact zAn gs g4 h2 (hput w ρ' _ _ f3 f1 f2)
   ·obtain ⟨h1, h2⟩ := h
    obtain ⟨ρ', f1, f2, f3⟩ := snd_frzf hrel (he t ht) h1
    exact zAn gs g4 h2 (hput w ρ' _ _ f3 f1 f2)
   ·obtain ⟨h1, h2⟩ := h
    obtain ⟨ρ', f1, f2, f3⟩ := snd_own hrel (he t ht) h1
    exact zAn gs g4 h2 (hput w ρ' _ _ f3 f1 f2)
def zBf (g : Option (Nat × Bool)) (e : Env) : Option Bool :=
 match g with
 | none => some true
 | some (t, want) => match e t with
  | .v (.bool b) => some (b == want)
  | .v (.tuple _) => some false
  | _ => none
theorem want_ok {ops : Array Oper} {o : Oper} {g : Option (Nat × Bool)} {b : Bool} (hg : lowG ops n o.guard = some g) (he : ER w X ρ H n e a) (hn : a.tmps.size = n) (hw : zBf g e = some b) : Region.wanted o (yielded ops a.tmps) = b := by
 unfold lowG at hg
 cases hog : o.guard with
 | none =>
  rw [hog] at hg
  simp at hg
  subst hg
  simp [zBf] at hw
  subst hw
  simp [Region.wanted, hog]
 | some jw =>
  obtain ⟨j, want⟩ := jw
  rw [hog] at hg
  simp only at hg
  cases hd : (ops[j]?).bind (·.dst) with
  | none => simp [hd] at hg
  | some t =>
   simp only [hd] at hg
   by_cases ht : t < n
   ·rw [if_pos ht] at hg
    simp only [Option.some.injEq] at hg
    subst hg
    simp only [zBf] at hw
    have hr := he t ht
    have hget : a.tmps[t]? = some (a.tmps.getD t undef) := by
     have : t < a.tmps.size := by rw [hn]; exact ht
     simp [this]
    simp only [Region.wanted, hog, yielded, hd, Option.bind_some, hget]
    cases het : e t with
    | v x =>
     rw [het] at hr hw
     have := zAP hr
     rw [this]
     cases x <;> simp at hw
     case bool c => subst hw; cases c <;> cases want <;> rfl
     case tuple us => subst hw; rfl
    | _ => rw [het] at hw; simp at hw
   ·rw [if_neg ht] at hg; cases hg
theorem zCb {o : LO} {l : List LO} {K : Env → zC → Prop} (h : zAu P (o :: l) e H K) :
  (zBf o.g e = some true ∧ aop P o.op e H fun x H' => zAu P l (ups e o.d x) H' K) ∨ (zBf o.g e = some false ∧ zAu P l (ups e o.d zAs) H K) := by
 simp only [zAu] at h
 cases hg : o.g with
 | none => rw [hg] at h; exact .inl ⟨rfl, h⟩
 | some tw =>
  obtain ⟨t, want⟩ := tw
  rw [hg] at h
  simp only at h
  cases het : e t with
  | v x =>
   rw [het] at h
   cases x <;> simp only at h <;> first | exact h.elim | skip
   case bool b =>
    have hu : up e t (bool b) = e := up_eq het
    cases b <;> cases want <;> simp only [hu, if_true, Bool.false_eq_true, if_false, zBf, het] at h ⊢ <;> first | exact .inl ⟨rfl, h⟩ | exact .inr ⟨rfl, h⟩
   case tuple us => exact .inr ⟨by simp [zBf, het], h⟩
  | _ => rw [het] at h; exact h.elim
theorem lowOne_inv {imm : Bool} {ops : Array Oper} {o : Oper} {lo : LO} (h : zAE P n imm ops o = some lo) : lo.d = o.dst ∧ lowG ops n o.guard = some lo.g ∧ lo.op = lowOp P n imm o := by
 unfold zAE at h
 cases hg : lowG ops n o.guard with
 | none => simp [hg] at h
 | some g =>
  simp only [hg] at h
  split at h
  ·simp only [Option.some.injEq] at h
   subst h
   exact ⟨rfl, rfl, rfl⟩
  ·cases h
theorem zA9 {r : Option Nat} {m0 : Nat} {imm : Bool} {ops : Array Oper} {o : Oper} {lo : LO} {l : List LO} {K : Env → zC → Prop} (hl : zAE P n imm ops o = some lo) (h : zAu P (lo :: l) e H K) (hst : St B X w0 ρ0 n0 n e H a w) {next : Act → World → Prop} {Q : Exit → Act → World → Prop}
  (hn : ∀ e' H' a' w', zAu P l e' H' K → St B X w0 ρ0 n0 n e' H' a' w' → next a' w') :
  if Region.wanted o (yielded ops a.tmps) then o.wpIn (WR r) m0 P a w next Q else (∀ f, o.about P w a.eval = some f → (WR r).fn f) ∧ next (a.put o.dst undef) w := by
 obtain ⟨hd, hg, hop⟩ := lowOne_inv hl
 obtain ⟨h2, ρ, hrel, he, hf, hm⟩ := hst
 rcases zCb h with ⟨hw, h⟩ | ⟨hw, h⟩
 ·rw [want_ok hg he h2 hw, if_pos rfl]
  rw [hop] at h
  refine aop_sound h hrel he fun u x H' ρ' w' hK g1 g2 g3 => hn _ _ _ _ hK ?_
  rw [hd]
  exact St.put hm h2 he hf g1 g2 g3
 ·rw [want_ok hg he h2 hw, if_neg (by simp)]
  refine ⟨fun _ _ => trivial, hn _ _ _ _ h ?_⟩
  rw [hd]
  exact St.put hm h2 he hf hrel (.v _ _) (Fut.refl _ _ _)
theorem ops_sound {r : Option Nat} {m0 : Nat} {hs : List Hn} {reg : Nat} {ops : Array Oper} {K : Env → zC → Prop} {Q : Exit → Act → World → Prop} (hQ : ∀ e' H' a' w', K e' H' → St B X w0 ρ0 n0 n e' H' a' w' → Q .normal a' w') :
  ∀ (l : List Oper) (i : Nat) (los : List LO) (e : Env) (H : zC) (a : Act) (w : World), zBk P n hs reg ops i l = some los → zAu P los e H K → St B X w0 ρ0 n0 n e H a w → wpListIn (WR r) m0 P ops Q l a w
 | [], i, los, e, H, a, w, hl, h, hst => by
  unfold zBk at hl
  split at hl
  ·rename_i hg
   simp only [Option.some.injEq] at hl
   subst hl
   obtain ⟨e', H', h', hst'⟩ := zAn (zAi hs reg i) (los := []) hg (by simpa using h) hst
   exact hQ _ _ _ _ h' hst'
  ·cases hl
 | o :: l, i, los, e, H, a, w, hl, h, hst => by
  unfold zBk at hl
  cases h1 : zAE P n (zA3 hs reg i) ops o with
  | none => simp [h1] at hl
  | some lo =>
   cases h2 : zBk P n hs reg ops (i + 1) l with
   | none => simp [h1, h2] at hl
   | some m =>
    simp only [h1, h2] at hl
    split at hl
    ·rename_i hg
     simp only [Option.some.injEq] at hl
     subst hl
     obtain ⟨e', H', h', hst'⟩ := zAn (zAi hs reg i) hg h hst
     have := zA9 (r := r) (m0 := m0) h1 h' hst' (next := wpListIn (WR r) m0 P ops Q l) (Q := Q) fun e'' H'' a'' w'' hK hs'' => ops_sound hQ l (i + 1) m e'' H'' a'' w'' h2 hK hs''
     unfold wpListIn
     exact this
    ·cases hl
theorem zBO {ops : Array Oper} {o : Oper} (h : o.guard = none) (tmps : Array Value) : Region.wanted o (yielded ops tmps) = true := by simp [Region.wanted, h]
theorem callx_step {r : Option Nat} {m0 : Nat} {o : Oper} {f : Operand} {args : Array Operand} {tys : Array TypeId} {g : LX} {m : List LX} {K : AV → zC → Prop} {Z : Value → zC → Prop} (ho : o.op = .call ⟨.value f, args, tys⟩) (hf : lx n f = some g) (hm : lxs n args.toList = some m)
  (h : acallx P (ev e g) (m.map (ev e)) H K Z) (hst : St B X w0 ρ0 n0 n e H a w) {next : Act → World → Prop} {Q : Exit → Act → World → Prop}
  (hn : ∀ x H' a' w', K x H' → St B X w0 ρ0 n0 n (ups e o.dst x) H' a' w' → next a' w') (hp : ∀ v H' a' w', Z v H' → St B X w0 ρ0 n0 n e H' a' w' → Q (.panic [{ v, recovered := false }]) a' w') :
  o.wpIn (WR r) m0 P a w next Q := by
 obtain ⟨h2, ρ, hrel, he, hfu, hmk⟩ := hst
 have rf := zAc he hf
 obtain ⟨hlen, hrep⟩ := zCd he _ _ hm
 simp only [acallx] at h
 cases hfv : ev e g with
 | fn fk first caps =>
  rw [hfv] at h rf
  cases fk <;> simp only at h <;> first | exact h.elim | skip
  rename_i k
  obtain ⟨⟨fn, hfn, hbody, hname⟩, hcall⟩ := h
  generalize hfe : a.eval f = fv at rf
  cases rf with
  | fn _ _ _ _ fs us h1 h2' h3 h4 =>
   have hex : (execOp a.eval o).run P w = .ok (.enter k (fs ++ args.map a.eval ++ us)) w := by
    unfold execOp
    rw [ho]
    simp only [resolve, hfe, Deferred.ofValue, Sem.run_bind, Sem.run_pure, Result.andThen_ok, invoke, callFunc, run_program, hfn, hname, Bool.false_eq_true, if_false, hbody]
   refine zBw (by rw [ho]; intro c' hc; cases hc) ?_
   rw [hex]
   refine ⟨wr_depth, callsIn_wr ((hcall X ρ w _ hrel ⟨?_, ?_⟩).mono ?_)⟩
   ·simp [h1, h2', hlen]
   ·intro i x u hx hu
    rw [List.append_assoc, List.getElem?_append] at hx
    rw [Array.append_assoc, Array.getElem?_append] at hu
    by_cases hi : i < first.length
    ·rw [if_pos hi] at hx
     rw [if_pos (by omega)] at hu
     exact h3 i x u hx hu
    ·rw [if_neg hi, List.getElem?_append] at hx
     rw [if_neg (by omega), Array.getElem?_append] at hu
     simp only [List.length_map, Array.size_map] at hx hu
     have hl2 : m.length = args.size := by simpa using hlen
     by_cases hj : i - first.length < m.length
     ·rw [if_pos hj] at hx
      rw [if_pos (by omega)] at hu
      exact hrep (i - first.length) x u hx (by rw [← h1] at hu; simpa using hu)
     ·rw [if_neg hj] at hx
      rw [if_neg (by omega)] at hu
      exact h4 (i - first.length - m.length) x u hx (by rw [← h1, ← hl2] at hu; exact hu)
   ·rintro en w' (⟨v, x, H', ρ', rfl, hK, g1, g2, g3⟩ | ⟨z, H', ρ', rfl, hK, g1, g3⟩)
    ·exact hn _ _ _ _ hK (St.put hmk h2 he hfu g1 g2 g3)
    ·exact hp _ _ _ _ hK ⟨h2, ρ', g1, fun t ht => (he t ht).nextN g3, hfu.trans g3, hmk.fut g3⟩
 | _ => rw [hfv] at h; exact h.elim
theorem cut_step {r : Option Nat} {m0 : Nat} {ops : Array Oper} {o : Oper} {c : LCode} {K : Out → Env → zC → Prop} (hl : lowCut n o = some c) (h : awp P c e H K) (hst : St B X w0 ρ0 n0 n e H a w) {next : Act → World → Prop} {Q : Exit → Act → World → Prop}
  (hn : ∀ e' H' a' w', K .normal e' H' → St B X w0 ρ0 n0 n e' H' a' w' → next a' w') (hp : ∀ v e' H' a' w', K (.pan v) e' H' → St B X w0 ρ0 n0 n e' H' a' w' → Q (.panic [{ v, recovered := false }]) a' w') :
  Region.wanted o (yielded ops a.tmps) = true ∧ o.wpIn (WR r) m0 P a w next Q := by
 unfold lowCut at hl
 split at hl
 ·rename_i f args tys ho hg
  refine ⟨zBO hg _, ?_⟩
  cases hf : lx n f with
  | none => simp [hf] at hl
  | some g =>
   cases hm : lxs n args.toList with
   | none => simp [hf, hm] at hl
   | some m =>
    simp only [hf, hm] at hl
    split at hl
    ·simp only [Option.some.injEq] at hl
     subst hl
     exact callx_step ho hf hm h hst (fun x H' a' w' hK hs' => hn _ _ _ _ hK hs') fun v H' a' w' hK hs' => hp _ _ _ _ _ hK hs'
    ·cases hl
 ·cases hl
theorem pan_step {r : Option Nat} {m0 : Nat} {ops : Array Oper} {o q : Oper} {l : List Oper} {c : LCode} {K : Out → Env → zC → Prop} (hl : lowPan P n o q = some c) (h : awp P c e H K) (hst : St B X w0 ρ0 n0 n e H a w) {Q : Exit → Act → World → Prop}
  (hp : ∀ v e' H' a' w', K (.pan v) e' H' → St B X w0 ρ0 n0 n e' H' a' w' → Q (.panic [{ v, recovered := false }]) a' w') : wpListIn (WR r) m0 P ops Q (o :: q :: l) a w := by
 unfold lowPan at hl
 split at hl
 ·rename_i t x d d' ho hg hd hq hqg
  split at hl
  ·rename_i x' u hx hu
   split at hl
   ·rename_i hc
    obtain ⟨rfl, hdn, hni⟩ := hc
    simp only [Option.some.injEq] at hl
    subst hl
    simp only [awp] at h
    obtain ⟨v, hv, hK⟩ := h
    obtain ⟨h2, ρ, hrel, he, hfu, hmk⟩ := hst
    have hxv := valA_rep hv (zAc he hx)
    unfold wpListIn
    rw [if_pos (zBO hg _)]
    refine zBw (by rw [ho]; intro c' hc; cases hc) ?_
    have hex : (execOp a.eval o).run P w = .ok (.value (.iface t v)) w := by
     unfold execOp
     rw [ho]
     cases u <;> simp [notIface] at hni <;> simp [Instr.makeInterface, run_underlying hu, hxv]
    rw [hex]
    show wpListIn (WR r) m0 P ops Q (q :: l) (a.put o.dst (.iface t v)) w
    unfold wpListIn
    rw [if_pos (zBO hqg _)]
    refine zBw (by rw [hq]; intro c' hc; cases hc) ?_
    have hget : (a.put o.dst (.iface t v)).eval (.tmp d) = .iface t v := by
     rw [hd]
     show (a.put (some d) _).tmps.getD d undef = _
     rw [put_get, if_pos ⟨rfl, by rw [h2]; exact hdn⟩]
    have hex2 : (execOp (a.put o.dst (.iface t v)).eval q).run P w = .halt (.panic (.iface t v)) w := by
     unfold execOp
     rw [hq]
     simp only [hget]
     simp [Instr.panic, goPanic]
    rw [hex2]
    have hst' := St.put (B := B) (d := some d) (u := .iface t v) (x := .v (.iface t v)) hmk h2 he hfu hrel (.v _ _) (Fut.refl _ _ _)
    rw [← hd] at hst'
    refine hp _ _ H _ _ hK ?_
    rw [hd] at hst' ⊢
    exact hst'
   ·cases hl
  ·cases hl
 ·cases hl
def callish : LOp → Bool
 | .call _ _ => true
 | .panicv _ => true
 | _ => false
def zDc : Option LOp → Bool
 | some lo => callish lo
 | none => false
theorem low_callish {imm : Bool} {o : Oper} {lo : LOp} (hl : lowOp0 P n imm o = some lo) (hc : callish lo = true) : (∃ c, o.op = .call c ∧ (if imm = true then zCC P n c else zC7 P n c) = some lo) ∨ ∃ x, o.op = .panic x ∧ (lx n x).map LOp.panicv = some lo := by
 have hp : ¬ zDc (some lo) = false := by simp [zDc, hc]
 unfold lowOp0 at hl
 cases ho : o.op <;> rw [ho] at hl <;> simp only at hl <;> first | (cases hl; done) | skip
 case call c => exact .inl ⟨c, rfl, by cases imm <;> exact hl⟩
 case panic x => exact .inr ⟨x, rfl, hl⟩
 case unOp op t x => cases op <;> simp only at hl <;> first | (cases hl; done) | (obtain ⟨_, _, rfl⟩ := zAr hl; exact absurd rfl hp)
 case makeMap t r => cases r <;> simp only at hl <;> first | (cases hl; done) | (cases hl; exact absurd rfl hp)
 case next x s => cases s <;> simp only at hl <;> first | (cases hl; done) | (obtain ⟨_, _, rfl⟩ := zAr hl; exact absurd rfl hp)
 case typeAssert x xt t ok =>
  cases ok with
  | false => cases hl
  | true =>
   simp only at hl
   cases hu : P.underlying t with
   | none => simp [hu] at hl
   | some d => cases hx : lx n x <;> cases hz : zA7 P t <;> cases d <;> simp only [hu, hx, hz] at hl <;> first | (cases hl; done) | (cases hl; exact absurd rfl hp)
 case makeInterface t x =>
  refine absurd ?_ hp
  cases hx : lx n x <;> cases hu : P.underlying t <;> simp only [hx, hu] at hl <;> first | (cases hl; done) | skip
  rw [← hl]
  split <;> rfl
 case slice t x lo hi mx => cases mx <;> simp only at hl <;> first | (cases hl; done) | (refine absurd ?_ hp; rw [← hl]; (repeat' split) <;> first | rfl | (cases zCv P _ <;> first | rfl | (cases imm <;> rfl)))
 case binOp op t x y yt =>
  refine absurd ?_ hp
  rw [← hl]
  unfold lowBin
  (repeat' split) <;> rfl
 all_goals
  refine absurd ?_ hp
  rw [← hl]
  (try unfold lowBuild); (try unfold lowBsl); (try unfold lowConv)
  (repeat' split) <;> first | rfl | (cases lx n _ <;> rfl) | (cases lowPs n _ _ <;> rfl) | (cases tyKD P _ <;> rfl) | (cases keyKD P _ <;> rfl) | (cases zCv P _ <;> rfl)
theorem lowOp_some {imm : Bool} {o : Oper} {lo : LOp} (h : lowOp P n imm o = lo) (hb : lo ≠ .bad) : lowOp0 P n imm o = some lo := by
 unfold lowOp at h
 cases hl : lowOp0 P n imm o with
 | none => rw [hl] at h; exact absurd h.symm hb
 | some l => rw [hl] at h; exact congrArg some h
theorem lowCallB_no {c : Call} {lo : LOp} (h : zCC P n c = some lo) : zDc (some lo) = false := by
 rw [← h]
 unfold zCC
 (repeat' split) <;> rfl
theorem lowOp_call {imm : Bool} {o : Oper} {f : LX} {args : List LX} (h : lowOp P n imm o = .call f args) : ∃ f' args' tys, o.op = .call ⟨.value f', args', tys⟩ ∧ lx n f' = some f ∧ lxs n args'.toList = some args := by
 rcases low_callish (lowOp_some h (by simp)) rfl with ⟨c, ho, hc⟩ | ⟨x, _, hx⟩
 ·cases imm with
  | true => exact absurd (lowCallB_no (by simpa using hc)) (by simp [zDc, callish])
  | false =>
   simp only [Bool.false_eq_true, if_false] at hc
   obtain ⟨callee, as, tys⟩ := c
   unfold zC7 at hc
   cases callee with
   | value f' =>
    simp only at hc
    cases hf : lx n f' <;> cases hm : lxs n as.toList <;> simp only [hf, hm] at hc <;> first | (cases hc; done) | skip
    simp only [Option.some.injEq, LOp.call.injEq] at hc
    exact ⟨f', as, tys, ho, by rw [hf, hc.1], by rw [hm, hc.2]⟩
   | invoke r m => simp at hc
   | builtin b =>
    exfalso
    have : zDc (some (LOp.call f args)) = false := by
     rw [← hc]
     cases b
     all_goals (try simp only)
     all_goals (repeat' split)
     all_goals first | rfl | (cases zCv P _ <;> (try simp only [Option.bind_none, Option.bind_some]) <;> (try split) <;> rfl)
    cases this
 ·obtain ⟨_, _, h2⟩ := zAr hx
  cases h2
theorem lowOp_panic {imm : Bool} {o : Oper} {x : LX} (h : lowOp P n imm o = .panicv x) : ∃ ao, o.op = .panic ao ∧ lx n ao = some x := by
 rcases low_callish (lowOp_some h (by simp)) rfl with ⟨c, ho, hc⟩ | ⟨y, ho, hx⟩
 ·exfalso
  cases imm with
  | true => exact absurd (lowCallB_no (by simpa using hc)) (by simp [zDc, callish])
  | false =>
   simp only [Bool.false_eq_true, if_false] at hc
   obtain ⟨callee, as, tys⟩ := c
   unfold zC7 at hc
   cases callee with
   | value f' =>
    simp only at hc
    cases hf : lx n f' <;> cases hm : lxs n as.toList <;> simp only [hf, hm] at hc <;> cases hc
   | invoke r m => simp at hc
   | builtin b =>
    have : zDc (some (LOp.panicv x)) = false := by
     rw [← hc]
     cases b
     all_goals (try simp only)
     all_goals (repeat' split)
     all_goals first | rfl | (cases zCv P _ <;> (try simp only [Option.bind_none, Option.bind_some]) <;> (try split) <;> rfl)
    cases this
 ·obtain ⟨a, h1, h2⟩ := zAr hx
  simp only [LOp.panicv.injEq] at h2
  exact ⟨y, ho, by rw [h1, h2]⟩
theorem wantG_cases {g : Option (Nat × Bool)} {A B' : Prop} (h : wantG g e A B') : (zBf g e = some true ∧ A) ∨ (zBf g e = some false ∧ B') := by
 unfold wantG at h
 cases g with
 | none => exact .inl ⟨rfl, h⟩
 | some p =>
  obtain ⟨t, want⟩ := p
  simp only at h
  cases het : e t with
  | v x =>
   rw [het] at h
   cases x <;> simp only at h <;> first | exact h.elim | skip
   case bool b =>
    cases b <;> cases want <;> simp [zBf, het] at h ⊢ <;> exact h
   case tuple us => exact .inr ⟨by simp [zBf, het], h⟩
  | _ => rw [het] at h; exact h.elim
theorem ti_step {r : Option Nat} {m0 : Nat} {imm c : Bool} {ops : Array Oper} {o : Oper} {lo : LO} {K : Env → zC → Prop} {Z : Value → zC → Prop} (hl : zAE P n imm ops o = some lo) (h : aTI P c lo e H K Z) (hst : St B X w0 ρ0 n0 n e H a w) {next : Act → World → Prop} {Q : Exit → Act → World → Prop}
  (hn : ∀ e' H' a' w', K e' H' → St B X w0 ρ0 n0 n e' H' a' w' → next a' w') (hp : ∀ v H' a' w', Z v H' → St B X w0 ρ0 n0 n e H' a' w' → Q (.panic [{ v, recovered := false }]) a' w') :
  if Region.wanted o (yielded ops a.tmps) then o.wpIn (WR r) m0 P a w next Q else (∀ f, o.about P w a.eval = some f → (WR r).fn f) ∧ next (a.put o.dst undef) w := by
 obtain ⟨hd, hg, hop⟩ := lowOne_inv hl
 unfold aTI at h
 split at h
 ·rename_i f args hf
  rw [hop] at hf
  obtain ⟨f', args', tys, ho, h1, h2⟩ := lowOp_call hf
  have hst' := hst
  obtain ⟨h3, ρ, hrel, he, hfu, hm⟩ := hst'
  rcases wantG_cases h with ⟨hw, h⟩ | ⟨hw, h⟩
  ·rw [want_ok hg he h3 hw, if_pos rfl]
   refine callx_step ho h1 h2 h hst (fun x H' a' w' hK hs' => hn _ _ _ _ hK ?_) hp
   rw [hd]
   exact hs'
  ·rw [want_ok hg he h3 hw, if_neg (by simp)]
   refine ⟨fun _ _ => trivial, hn _ _ _ _ h ?_⟩
   rw [hd]
   exact St.put hm h3 he hfu hrel (.v _ _) (Fut.refl _ _ _)
 ·rename_i x hf
  rw [hop] at hf
  obtain ⟨ao, ho, h2⟩ := lowOp_panic hf
  have hst' := hst
  obtain ⟨h3, ρ, hrel, he, hfu, hm⟩ := hst'
  rcases wantG_cases h with ⟨hw, t, z, hz, h⟩ | ⟨hw, h⟩
  ·rw [want_ok hg he h3 hw, if_pos rfl]
   refine zBw (by rw [ho]; intro c' hc; cases hc) ?_
   have hr := zAc he h2
   rw [hz] at hr
   have hv := zAP hr
   have hex2 : (execOp a.eval o).run P w = .halt (.panic (.iface t z)) w := by
    unfold execOp
    rw [ho]
    simp [Instr.panic, hv, goPanic]
   rw [hex2]
   exact hp _ _ _ _ h hst
  ·rw [want_ok hg he h3 hw, if_neg (by simp)]
   refine ⟨fun _ _ => trivial, hn _ _ _ _ h ?_⟩
   rw [hd]
   exact St.put hm h3 he hfu hrel (.v _ _) (Fut.refl _ _ _)
 ·exact zA9 hl h hst fun e' H' a' w' hK hs' => hn e' H' a' w' (by simpa only [zAu] using hK) hs'
theorem opsP_sound {r : Option Nat} {m0 : Nat} {hs : List Hn} {reg : Nat} {ops : Array Oper} {K : Out → Env → zC → Prop} {Q : Exit → Act → World → Prop} (hQ : ∀ e' H' a' w', K .normal e' H' → St B X w0 ρ0 n0 n e' H' a' w' → Q .normal a' w')
  (hp : ∀ v e' H' a' w', K (.pan v) e' H' → St B X w0 ρ0 n0 n e' H' a' w' → Q (.panic [{ v, recovered := false }]) a' w') :
  ∀ (l : List Oper) (i : Nat) (lc : LCode) (e : Env) (H : zC) (a : Act) (w : World), lowOpsP P n hs reg ops i l = some lc → awp P lc e H K → St B X w0 ρ0 n0 n e H a w → wpListIn (WR r) m0 P ops Q l a w
 | [], i, lc, e, H, a, w, hl, h, hst => by
  unfold lowOpsP at hl
  split at hl
  ·rename_i hg
   simp only [Option.some.injEq] at hl
   subst hl
   simp only [awp] at h
   obtain ⟨e', H', h', hst'⟩ := zAn (zAi hs reg i) (los := []) hg (by simpa using h) hst
   exact hQ _ _ _ _ h' hst'
  ·cases hl
 | o :: l, i, lc, e, H, a, w, hl, h, hst => by
  unfold lowOpsP at hl
  split at hl
  ·rename_i hg
   split at hl
   ·split at hl
    ·rename_i c m hc hm
     simp only [Option.some.injEq] at hl
     subst hl
     simp only [awp] at h
     obtain ⟨e', H', h', hst'⟩ := zAn (zAi hs reg i) (los := []) hg (by simpa using h) hst
     simp only [zAu] at h'
     obtain ⟨hw, hx⟩ := cut_step (r := r) (m0 := m0) (ops := ops) (next := wpListIn (WR r) m0 P ops Q l) (Q := Q) hc h' hst' (fun e2 H2 a2 w2 hk hs2 => opsP_sound hQ hp l (i + 1) m e2 H2 a2 w2 hm hk hs2) (fun v e2 H2 a2 w2 hk hs2 => hp v e2 H2 a2 w2 hk hs2)
     unfold wpListIn
     rw [if_pos hw]
     exact hx
    ·split at hl
     ·rename_i c hc
      simp only [Option.some.injEq] at hl
      subst hl
      cases l with
      | nil => cases hc
      | cons q l' =>
       simp only [awp] at h
       obtain ⟨e', H', h', hst'⟩ := zAn (zAi hs reg i) (los := []) hg (by simpa using h) hst
       simp only [zAu] at h'
       exact pan_step hc h' hst' hp
     ·split at hl
      ·rename_i lo m h1 h2
       split at hl
       ·simp only [Option.some.injEq] at hl
        subst hl
        simp only [awp] at h
        obtain ⟨e', H', h', hst'⟩ := zAn (zAi hs reg i) (los := []) hg (by simpa using h) hst
        simp only [zAu] at h'
        have := ti_step (r := r) (m0 := m0) h1 h' hst' (next := wpListIn (WR r) m0 P ops Q l) (Q := Q) (fun e'' H'' a'' w'' hK hs'' => opsP_sound hQ hp l (i + 1) m e'' H'' a'' w'' h2 hK hs'') fun v H' a' w' hK hs' => hp v _ _ _ _ hK hs'
        unfold wpListIn
        exact this
       ·cases hl
      ·cases hl
   ·split at hl
    ·rename_i lo m h1 h2
     simp only [Option.some.injEq] at hl
     subst hl
     simp only [awp] at h
     obtain ⟨e', H', h', hst'⟩ := zAn (zAi hs reg i) hg h hst
     have := zA9 (r := r) (m0 := m0) h1 h' hst' (next := wpListIn (WR r) m0 P ops Q l) (Q := Q) fun e'' H'' a'' w'' hK hs'' => opsP_sound hQ hp l (i + 1) m e'' H'' a'' w'' h2 (by simpa only [zAu] using hK) hs''
     unfold wpListIn
     exact this
    ·cases hl
  ·cases hl
end
section edges
variable {ops : Array Oper}
def stp (acc : Array Nat) (o : Oper) : Nat := o.after.foldl (fun s e => if Region.binds .any e then s ||| 2 ^ e.on ||| acc.getD e.on 0 else s) 0
theorem stp_bits (acc : Array Nat) (i : Nat) : ∀ (l : List Edge) (s : Nat), (l.foldl (fun s e => if Region.binds .any e then s ||| 2 ^ e.on ||| acc.getD e.on 0 else s) s).testBit i = true →
  s.testBit i = true ∨ ∃ e ∈ l, Region.binds .any e = true ∧ (e.on = i ∨ (acc.getD e.on 0).testBit i = true)
 | [], s, h => .inl h
 | e :: l, s, h => by
  simp only [List.foldl_cons] at h
  rcases stp_bits acc i l _ h with h1 | ⟨e', h1, h2⟩
  ·split at h1
   ·rename_i hb
    rw [Nat.testBit_or, Nat.testBit_or, Nat.testBit_two_pow] at h1
    simp only [Bool.or_eq_true, decide_eq_true_eq] at h1
    rcases h1 with (h1 | h1) | h1
    ·exact .inl h1
    ·exact .inr ⟨e, by simp, hb, .inl h1⟩
    ·exact .inr ⟨e, by simp, hb, .inr h1⟩
   ·exact .inl h1
  ·exact .inr ⟨e', by simp [h1], h2⟩
theorem fold_spec : ∀ (l : List Oper) (acc : Array Nat),
  (l.foldl (fun acc o => acc.push (stp acc o)) acc).size = acc.size + l.length ∧ (∀ k, k < acc.size → (l.foldl (fun acc o => acc.push (stp acc o)) acc).getD k 0 = acc.getD k 0) ∧
  ∀ k o, l[k]? = some o → ∃ acc' : Array Nat, acc'.size = acc.size + k ∧ (∀ m, m < acc.size + k → acc'.getD m 0 = (l.foldl (fun acc o => acc.push (stp acc o)) acc).getD m 0) ∧ (l.foldl (fun acc o => acc.push (stp acc o)) acc).getD (acc.size + k) 0 = stp acc' o
 | [], acc => ⟨rfl, fun _ _ => rfl, fun k o h => by simp at h⟩
 | x :: l, acc => by
  obtain ⟨h1, h2, h3⟩ := fold_spec l (acc.push (stp acc x))
  simp only [List.foldl_cons, Array.size_push] at h1 h2 h3 ⊢
  have hp : ∀ k, k < acc.size → (acc.push (stp acc x)).getD k 0 = acc.getD k 0 := by
   intro k hk
   simp only [Array.getD_eq_getD_getElem?, Array.getElem?_push]
   rw [if_neg (by omega)]
  refine ⟨by rw [h1]; simp; omega, fun k hk => by rw [h2 k (by omega), hp k hk], fun k o ho => ?_⟩
  cases k with
  | zero =>
   simp at ho
   subst ho
   refine ⟨acc, rfl, fun m hm => by rw [h2 m (by omega), hp m (by omega)], ?_⟩
   rw [Nat.add_zero, h2 _ (by omega)]
   simp [Array.getD_eq_getD_getElem?]
  | succ k =>
   obtain ⟨acc', g1, g2, g3⟩ := h3 k o (by simpa using ho)
   exact ⟨acc', by omega, fun m hm => g2 m (by omega), by rw [show acc.size + (k + 1) = acc.size + 1 + k by omega]; exact g3⟩
theorem before_spec {j : Nat} {oj : Oper} (hj : ops[j]? = some oj) {i : Nat} (h : ((Region.before ops).getD j 0).testBit i = true) :
  ∃ e ∈ oj.after, Region.binds .any e = true ∧ (e.on = i ∨ (e.on < j ∧ ((Region.before ops).getD e.on 0).testBit i = true)) := by
 have hb : Region.before ops = ops.toList.foldl (fun acc o => acc.push (stp acc o)) #[] := by
  unfold Region.before
  rw [← Array.foldl_toList]
  rfl
 obtain ⟨_, _, h3⟩ := fold_spec ops.toList #[]
 obtain ⟨acc', g1, g2, g3⟩ := h3 j oj (by simpa using hj)
 simp only [List.size_toArray, List.length_nil, Nat.zero_add] at g1 g2 g3
 rw [hb] at h ⊢
 rw [g3] at h
 unfold stp at h
 rw [← Array.foldl_toList] at h
 rcases stp_bits acc' i _ _ h with h1 | ⟨e, he, hbd, h1⟩
 ·simp at h1
 ·refine ⟨e, by simpa using he, hbd, ?_⟩
  rcases h1 with h1 | h1
  ·exact .inl h1
  ·have hlt : e.on < j := by
    rcases Nat.lt_or_ge e.on acc'.size with h2 | h2
    ·omega
    ·simp [Array.getD_eq_getD_getElem?, Array.getElem?_eq_none h2] at h1
   rw [g2 _ hlt] at h1
   exact .inr ⟨hlt, h1⟩
def Closed (ops : Array Oper) (listed : Array Bool) : Prop := ∀ j oj, ops[j]? = some oj → listed.getD j false = true → ∀ e ∈ oj.after, Region.binds .any e = true → listed.getD e.on false = true
theorem zK {listed : Array Bool} (hc : Closed ops listed) : ∀ (j : Nat) (oj : Oper) (i : Nat), ops[j]? = some oj → ((Region.before ops).getD j 0).testBit i = true → (∀ e ∈ oj.after, Region.binds .any e = true → listed.getD e.on false = true) → listed.getD i false = true := by
 intro j
 induction j using Nat.strongRecOn with
 | _ j ih =>
  intro oj i hj hb hall
  obtain ⟨e, he, hbd, h1⟩ := before_spec hj hb
  rcases h1 with h1 | ⟨hlt, h1⟩
  ·rw [← h1]; exact hall e he hbd
  ·have hjlt := (Array.getElem?_eq_some_iff.1 hj).1
   have ho : ops[e.on]? = some ops[e.on] := by simp [show e.on < ops.size by omega]
   exact ih e.on hlt _ i ho h1 (hc _ _ ho (hall e he hbd))
theorem zS (listed : Array Bool) (i k : Nat) (b : Bool) : (listed.setIfInBounds i true).getD k b = if k = i ∧ i < listed.size then true else listed.getD k b := by
 simp only [Array.getD_eq_getD_getElem?]
 by_cases h : k = i
 ·subst h
  by_cases h2 : k < listed.size
  ·simp [h2]
  ·simp [h2]
 ·rw [Array.getElem?_setIfInBounds_ne (fun e => h e.symm), if_neg (fun hh => h hh.1)]
theorem Closed.set {listed : Array Bool} (hc : Closed ops listed) {i : Nat} (hi : i ∈ Region.ready .any ops listed) : Closed ops (listed.setIfInBounds i true) := by
 obtain ⟨_, oi, hoi, hall⟩ := mem_ready.1 hi
 intro j oj hj hl e he hb
 rw [zS] at hl ⊢
 split
 ·rfl
 ·split at hl
  ·rename_i h1
   obtain ⟨rfl, _⟩ := h1
   have : oj = oi := Option.some.inj (hj.symm.trans hoi)
   subst this
   exact hall e he hb
  ·exact hc j oj hj hl e he hb
def left (listed : Array Bool) : Nat → Nat
 | 0 => 0
 | k + 1 => left listed k + if listed.getD k true = true then 0 else 1
theorem zCD {listed : Array Bool} {i : Nat} (hi : listed.getD i true = false) : ∀ k, left (listed.setIfInBounds i true) k + (if i < k then 1 else 0) = left listed k
 | 0 => by simp [left]
 | k + 1 => by
  have ih := zCD hi k
  have hil : i < listed.size := by
   rcases Nat.lt_or_ge i listed.size with h | h
   ·exact h
   ·simp [Array.getElem?_eq_none h] at hi
  simp only [left]
  rw [zS]
  by_cases hk : k = i
  ·subst hk
   rw [if_neg (by omega)] at ih
   have h2 : k < k + 1 := by omega
   have h3 : (if k = k ∧ k < listed.size then true else listed.getD k true) = true := if_pos ⟨rfl, hil⟩
   rw [if_pos h2, if_pos h3, hi, if_neg (by simp)]
   omega
  ·have h3 : (if k = i ∧ i < listed.size then true else listed.getD k true) = listed.getD k true := if_neg fun hh => hk hh.1
   rw [h3]
   generalize (if listed.getD k true = true then 0 else 1) = z
   by_cases h2 : i < k
   ·rw [if_pos h2] at ih; rw [if_pos (show i < k + 1 by omega)]; omega
   ·rw [if_neg h2] at ih; rw [if_neg (show ¬ i < k + 1 by omega)]; omega
theorem zCE {listed : Array Bool} {i : Nat} (hi : listed.getD i true = false) : ∀ k, i < k → 0 < left listed k
 | 0, h => by omega
 | k + 1, h => by
  simp only [left]
  by_cases hk : i = k
  ·subst hk; rw [hi]; simp
  ·have := zCE hi k (by omega); omega
theorem zBZ {listed : Array Bool} (he : zAp ops = true) {i : Nat} (hi : i < ops.size) (hun : listed.getD i true = false) (hall : ∀ j, j < i → listed.getD j false = true) : i ∈ Region.ready .any ops listed := by
 refine mem_ready.2 ⟨hun, ops[i], by simp [hi], fun e hee hb => ?_⟩
 unfold zAp at he
 have h1 := List.all_eq_true.1 he i (List.mem_range.2 hi)
 simp only [Array.getElem?_eq_getElem hi, Option.map_some, Option.getD_some] at h1
 have h2 := Array.all_eq_true'.1 h1 e hee
 simp only [hb, Bool.not_true, Bool.false_or, decide_eq_true_eq] at h2
 exact hall _ h2
theorem zCh {listed : Array Bool} {n : Nat} (h : ∃ i, i < n ∧ listed.getD i true = false) : ∃ i, i < n ∧ listed.getD i true = false ∧ ∀ j, j < i → listed.getD j true = true := by
 obtain ⟨i, hi, hun⟩ := h
 induction i using Nat.strongRecOn with
 | _ i ih =>
  by_cases hx : ∃ j, j < i ∧ listed.getD j true = false
  ·obtain ⟨j, hj, hj2⟩ := hx
   exact ih j hj (by omega) hj2
  ·refine ⟨i, hi, hun, fun j hj => ?_⟩
   cases hb : listed.getD j true with
   | true => rfl
   | false => exact absurd ⟨j, hj, hb⟩ hx
end edges
theorem zT {l : Array Bool} {i : Nat} (hi : i < l.size) : l.getD i false = l.getD i true := by
 simp [hi]
theorem zBt {listed : Array Bool} {h : Nat} : ∀ k, (∀ j, j < k → listed.getD j true = decide (j < h)) → left listed k = k - h
 | 0, _ => by simp [left]
 | k + 1, hh => by
  simp only [left]
  rw [zBt k fun j hj => hh j (by omega), hh k (by omega)]
  by_cases hk : k < h
  ·simp [hk]; omega
  ·simp [hk]; omega
section
variable {B : DB} {P : Program} {w w0 : World} {X : Nat → Prop} {ρ ρ0 : Nat → Loc} {H : zC} {e : Env} {a : Act} {n n0 : Nat}
theorem St.still {w' : World} (hst : St B X w0 ρ0 n0 n e H a w) (hs : Same w w') (hh : w'.heap = w.heap) : St B X w0 ρ0 n0 n e H a w' := by
 obtain ⟨h2, ρ, h3, h4, h5, h6⟩ := hst
 obtain ⟨g1, g2⟩ := h3.more hs fun b _ => by rw [hh]
 exact ⟨h2, ρ, g1, fun t ht => (h4 t ht).nextN g2, h5.trans g2, h6.fut g2⟩
theorem APure.frame {k : FuncId} {args : List AV} {x : AV} (h : APure P k args x) (hc : clL args = true) (H : zC) : ACall P k args H fun y H' => y = x ∧ H' = H := by
 refine ⟨h.1, fun X ρ w vs hrel hargs => ?_⟩
 have hno : ∀ (ρ : Nat → Loc) b, ¬ Own ρ 0 b := fun ρ b ⟨r, o, hr, _⟩ => by omega
 have hm : ∀ (ρ' : Nat → Loc) b, Mut (Mut X ρ H.length) ρ' 0 b ↔ Mut X ρ H.length b := fun ρ' b => ⟨fun hb => hb.elim id fun ho => absurd ho (hno _ _), .inl⟩
 refine (h.2 (Mut X ρ H.length) (fun _ => {}) w vs ⟨?_, ?_, ?_, ?_, fun g hg => ⟨fun ⟨r, o, hr, _⟩ => by simp at hr, (hrel.gl g hg).2⟩⟩ ⟨hargs.1, ?_⟩).mono ?_
 ·intro r o hr; simp at hr
 ·intro r r' b o b' o' hr; simp at hr
 ·intro r b o hr; simp at hr
 ·intro b hb
  rcases hb with hb | hb
  ·exact hrel.xlt b hb
  ·exact hb.lt hrel
 ·intro i x u hx hu
  have h1 := ((hargs.2 i x u hx hu).of_cl (zDa hc hx)).closed rfl (fun _ => {}) 0
  exact h1.fut (n0 := 0) (Fut.refl _ _ _) (fun b _ hb hb' => hb ((hm _ b).1 hb')) (fun b _ => hno _ b) (Nat.le_refl _)
 ·rintro en w' ⟨v, y, H', ρ', rfl, ⟨rfl, rfl⟩, g1, g2, g3⟩
  have hkeep : ∀ b, b < w.heap.size → w'.heap[b]? = w.heap[b]? := fun b hb => g3.keep b hb (hno _ b)
  obtain ⟨f1, f2⟩ := hrel.more ⟨g3.os, g3.tape, g3.output, g3.size⟩ hkeep
  refine ⟨v, y, H, ρ, rfl, ⟨rfl, rfl⟩, f1, ?_, f2⟩
  have h1 : Rep w' (Mut X ρ H.length) ρ' 0 y v := g2.fut (n0 := 0) (Fut.refl _ _ _) (fun b _ hb hb' => hb ((hm _ b).2 hb')) (fun b _ => hno _ b) (Nat.le_refl _)
  exact h1.closed rfl ρ H.length
theorem nextA_mono {x : AV} {K K' : AV → zC → Prop} (h : nextA x H K) (hK : ∀ x H', K x H' → K' x H') : nextA x H K' := by
 unfold nextA at h ⊢
 split at h
 ·unfold nextO at h ⊢
  split at h
  ·exact ⟨fun h0 => hK _ _ (h.1 h0), fun i hi => hK _ _ (h.2 i hi)⟩
  ·exact h.elim
 ·exact h.elim
theorem zBq {op : LOp} {K K' : AV → zC → Prop} (h : aop P op e H K) (hK : ∀ x H', K x H' → K' x H') : aop P op e H K' := by
 cases op <;> simp only [aop] at h ⊢ <;> first | exact ⟨h.1, hK _ _ h.2⟩ | exact ⟨h.1, fun b hb => hK _ _ (h.2 b hb)⟩ | exact nextA_mono h hK | skip
 case call f args =>
  unfold acall at h ⊢
  split at h
  ·exact ACall.mono h hK
  ·exact AYield.mono h hK
  ·exact h.elim
 case callh f args =>
  unfold acall at h ⊢
  split at h
  ·exact ACall.mono h hK
  ·exact AYield.mono h hK
  ·exact h.elim
 case pick c a b =>
  split at h
  ·split at h
   ·rename_i hb; rw [if_pos hb]; exact hK _ _ h
   ·rename_i hb; rw [if_neg hb]; exact hK _ _ h
  ·exact h.elim
theorem zBX {op : LOp} {x : AV} (h : zC0 P op e H fun y => y = x) : aop P op e H fun y H' => y = x ∧ H' = H := by
 cases op <;> simp only [zC0, aop] at h ⊢ <;> first | exact ⟨h.1, h.2.2, h.2.1⟩ | exact h.elim | skip
 case call f args =>
  split at h
  ·rename_i k first caps hf
   obtain ⟨y, h1, h2, rfl⟩ := h
   rw [hf]
   exact h1.frame h2 H
  ·exact h.elim
 case callh f args =>
  split at h
  ·rename_i k first caps hf
   obtain ⟨y, h1, rfl⟩ := h
   rw [hf]
   exact h1
  ·exact h.elim
 case pick c a b =>
  split at h
  ·split at h
   ·rename_i hb; rw [if_pos hb]; exact ⟨h, trivial⟩
   ·rename_i hb; rw [if_neg hb]; exact ⟨h, trivial⟩
  ·exact h.elim
theorem aopq_ex {op : LOp} {K : AV → Prop} (h : zC0 P op e H K) : ∃ x, K x ∧ zC0 P op e H fun y => y = x := by
 cases op <;> simp only [zC0] at h ⊢ <;> first | exact ⟨_, h.2.2, h.1, h.2.1, rfl⟩ | exact h.elim | skip
 case call f args =>
  split at h
  ·obtain ⟨y, h1, h2, h3⟩ := h
   exact ⟨y, h3, y, h1, h2, rfl⟩
  ·exact h.elim
 case callh f args =>
  split at h
  ·obtain ⟨y, h1, h3⟩ := h
   exact ⟨y, h3, y, h1, rfl⟩
  ·exact h.elim
 case pick c a b =>
  split at h
  ·split at h
   ·rename_i hb; exact ⟨_, h, by rw [if_pos hb]⟩
   ·rename_i hb; exact ⟨_, h, by rw [if_neg hb]⟩
  ·exact h.elim
theorem zAd {e e' : Env} {x : LX} (h : ∀ t ∈ x.rd, e t = e' t) : ev e x = ev e' x := by
 cases x with
 | t n => exact h n (by simp [LX.rd])
 | c _ => rfl
theorem zCs {e e' : Env} {l : List LX} (h : ∀ t ∈ rdL l, e t = e' t) : l.map (ev e) = l.map (ev e') :=
 List.map_congr_left fun x hx => zAd fun t ht => h t (List.mem_flatMap.2 ⟨x, hx, ht⟩)
theorem evO_congr {e e' : Env} {l : Option LX} (h : ∀ t ∈ rdO l, e t = e' t) : l.map (ev e) = l.map (ev e') := by
 cases l with
 | none => rfl
 | some x => exact congrArg some (zAd h)
theorem ares_congr {op : LOp} {e e' : Env} (h : ∀ t ∈ op.rd, e t = e' t) : zAZ op e H = zAZ op e' H := by
 cases op <;> simp only [LOp.rd, List.mem_append] at h <;> simp only [zAZ] <;> first | rfl | (rw [zAd h]; done) | (rw [zAd fun t ht => h t (.inl ht), zAd fun t ht => h t (.inr ht)]; done) | skip
 case build zs ps =>
  congr 1
  exact List.map_congr_left fun p hp => by rw [zAd fun t ht => h t (List.mem_flatMap.2 ⟨p, hp, ht⟩)]
 case bsl imm sz len zs ps =>
  congr 1
  exact List.map_congr_left fun p hp => by rw [zAd fun t ht => h t (List.mem_flatMap.2 ⟨p, hp, ht⟩)]
 case ins kd m k x => rw [zAd fun t ht => h t (.inl (.inl ht)), zAd fun t ht => h t (.inl (.inr ht)), zAd fun t ht => h t (.inr ht)]
 case mkfn f a b => rw [zCs fun t ht => h t (.inl ht), zCs fun t ht => h t (.inr ht)]
 case max3 x y z => rw [zAd fun t ht => h t (.inl (.inl ht)), zAd fun t ht => h t (.inl (.inr ht)), zAd fun t ht => h t (.inr ht)]
 case slicev lk k x lo hi => rw [zAd fun t ht => h t (.inl (.inl ht)), evO_congr fun t ht => h t (.inl (.inr ht)), evO_congr fun t ht => h t (.inr ht)]
 case slice lk k x lo hi => rw [zAd fun t ht => h t (.inl (.inl ht)), evO_congr fun t ht => h t (.inl (.inr ht)), evO_congr fun t ht => h t (.inr ht)]
theorem aopq_congr {op : LOp} {e e' : Env} {K : AV → Prop} (h : ∀ t ∈ op.rd, e t = e' t) (hk : zC0 P op e H K) : zC0 P op e' H K := by
 have ha := ares_congr (H := H) h
 cases op <;> simp only [zC0] at hk ⊢ <;> first | (rw [← ha]; exact hk) | exact hk | skip
 case call f args =>
  simp only [LOp.rd, List.mem_append] at h
  rw [← zAd fun t ht => h t (.inl ht), ← zCs fun t ht => h t (.inr ht)]
  exact hk
 case callh f args =>
  simp only [LOp.rd, List.mem_append] at h
  rw [← zAd fun t ht => h t (.inl ht), ← zCs fun t ht => h t (.inr ht)]
  exact hk
 case pick c a b =>
  simp only [LOp.rd, List.mem_append] at h
  rw [← zAd fun t ht => h t (.inl (.inl ht)), ← zAd fun t ht => h t (.inl (.inr ht)), ← zAd fun t ht => h t (.inr ht)]
  exact hk
def zCF (P : Program) (o : LO) (e : Env) (H : zC) (x : AV) : Prop :=
 (zBf o.g e = some true ∧ zC0 P o.op e H fun y => y = x) ∨ (zBf o.g e = some false ∧ x = zAs)
theorem zBP {g : Option (Nat × Bool)} {e e' : Env} (h : ∀ t want, g = some (t, want) → e t = e' t) : zBf g e = zBf g e' := by
 cases g with
 | none => rfl
 | some p =>
  obtain ⟨t, want⟩ := p
  simp only [zBf]
  rw [h t want rfl]
theorem zA8 {o : LO} {e e' : Env} {x : AV} (h : ∀ t ∈ o.rd, e t = e' t) (hk : zCF P o e H x) : zCF P o e' H x := by
 have hg : zBf o.g e = zBf o.g e' := zBP fun t want hg => h t (by simp [LO.rd, hg])
 rcases hk with ⟨h1, h2⟩ | ⟨h1, h2⟩
 ·exact .inl ⟨by rw [← hg]; exact h1, aopq_congr (fun t ht => h t (by simp [LO.rd, ht])) h2⟩
 ·exact .inr ⟨by rw [← hg]; exact h1, h2⟩
theorem zBW {o : LO} {l : List LO} {K : Env → zC → Prop} (h : (zBf o.g e = some true ∧ aop P o.op e H fun x H' => zAu P l (ups e o.d x) H' K) ∨ (zBf o.g e = some false ∧ zAu P l (ups e o.d zAs) H K)) : zAu P (o :: l) e H K := by
 simp only [zAu]
 cases hg : o.g with
 | none =>
  rw [hg] at h
  rcases h with h | h
  ·exact h.2
  ·simp [zBf] at h
 | some tw =>
  obtain ⟨t, want⟩ := tw
  rw [hg] at h
  simp only [zBf] at h
  cases het : e t with
  | v x =>
   rw [het] at h
   cases x <;> simp only [Option.some.injEq, reduceCtorEq, false_and, or_self, Bool.false_eq_true, false_or, true_and] at h ⊢ <;> first | exact h | skip
   case bool b =>
    have hu : up e t (bool b) = e := up_eq het
    cases b <;> cases want <;> simp [hu, het] at h ⊢ <;> exact h
   case tuple us => rw [het]; exact h
  | _ => rw [het] at h; simp at h
theorem zCY {o : LO} {l : List LO} {K : Env → Prop} (h : zAJ P (o :: l) e H K) : ∃ x, zCF P o e H x ∧ zAJ P l (ups e o.d x) H K := by
 have fin : (zBf o.g e = some true ∧ zC0 P o.op e H fun x => zAJ P l (ups e o.d x) H K) ∨ (zBf o.g e = some false ∧ zAJ P l (ups e o.d zAs) H K) := by
  simp only [zAJ] at h
  cases hg : o.g with
  | none => rw [hg] at h; exact .inl ⟨rfl, h⟩
  | some tw =>
   obtain ⟨t, want⟩ := tw
   rw [hg] at h
   simp only at h
   cases het : e t with
   | v x =>
    rw [het] at h
    cases x <;> simp only at h <;> first | exact h.elim | skip
    case bool b =>
     have hu : up e t (bool b) = e := up_eq het
     cases b <;> cases want <;> simp only [hu, if_true, Bool.false_eq_true, if_false, zBf, het] at h ⊢ <;> first | exact .inl ⟨rfl, h⟩ | exact .inr ⟨rfl, h⟩
    case tuple us => exact .inr ⟨by simp [zBf, het], h⟩
   | _ => rw [het] at h; exact h.elim
 rcases fin with ⟨h1, h2⟩ | ⟨h1, h2⟩
 ·obtain ⟨x, h3, h4⟩ := aopq_ex h2
  exact ⟨x, .inl ⟨h1, h4⟩, h3⟩
 ·exact ⟨_, .inr ⟨h1, rfl⟩, h2⟩
def ED (hd : List LO) (xs : Nat → AV) (e : Env) (D : Nat → Bool) : Nat → Env
 | 0 => e
 | k + 1 => if D k = true then ups (ED hd xs e D k) (hd.getD k default).d (xs k) else ED hd xs e D k
theorem zBi {d : Option Nat} {x : AV} {t : Nat} (h : d ≠ some t) : ups e d x t = e t := by
 cases d with
 | none => rfl
 | some d => simp only [ups, up]; rw [if_neg fun hh => h (by rw [hh])]
theorem zAT {x : AV} {t : Nat} : ups e (some t) x t = x := by simp [ups, up]
variable {hd : List LO} {xs : Nat → AV}
theorem zAg {D D' : Nat → Bool} {t : Nat} : ∀ k, (∀ j, j < k → (hd.getD j default).d = some t → D j = D' j) → ED hd xs e D k t = ED hd xs e D' k t
 | 0, _ => rfl
 | k + 1, h => by
  have ih := zAg k fun j hj => h j (by omega)
  simp only [ED]
  by_cases hd' : (hd.getD k default).d = some t
  ·rw [h k (by omega) hd', hd']
   split
   ·rw [zAT, zAT]
   ·exact ih
  ·split <;> split <;> simp only [zBi hd', ih]
theorem zAS {D : Nat → Bool} {t i : Nat} : ∀ k, i ≤ k → (∀ j, i ≤ j → j < k → (hd.getD j default).d = some t → D j = false) → ED hd xs e D k t = ED hd xs e D i t
 | 0, hk, _ => by rw [show i = 0 by omega]
 | k + 1, hk, h => by
  by_cases hik : i = k + 1
  ·rw [hik]
  ·rw [← zAS k (by omega) fun j h1 h2 => h j h1 (by omega)]
   simp only [ED]
   by_cases hd' : (hd.getD k default).d = some t
   ·rw [h k (by omega) (by omega) hd']; simp
   ·split
    ·exact zBi hd'
    ·rfl
theorem ED_shift {o : LO} {l : List LO} {x : AV} {xs : Nat → AV} : ∀ i, ED (o :: l) (fun i => match i with | 0 => x | i + 1 => xs i) e (fun _ => true) (i + 1) = ED l xs (ups e o.d x) (fun _ => true) i
 | 0 => by simp [ED]
 | i + 1 => by
  have ih := ED_shift (o := o) (l := l) (x := x) (xs := xs) i
  rw [ED, ih]
  simp [ED]
theorem zBC : ∀ (hd : List LO) {e : Env} {K : Env → Prop}, zAJ P hd e H K → ∃ xs : Nat → AV, K (ED hd xs e (fun _ => true) hd.length) ∧ ∀ i, i < hd.length → zCF P (hd.getD i default) (ED hd xs e (fun _ => true) i) H (xs i)
 | [], e, K, h => ⟨fun _ => .any, h, fun i hi => by simp at hi⟩
 | o :: l, e, K, h => by
  obtain ⟨x, h1, h2⟩ := zCY h
  obtain ⟨xs, h3, h4⟩ := zBC l h2
  refine ⟨fun i => match i with | 0 => x | i + 1 => xs i, ?_, fun i hi => ?_⟩
  ·rw [List.length_cons, ED_shift]; exact h3
  ·cases i with
   | zero => exact h1
   | succ i =>
    rw [ED_shift]
    exact h4 i (by simpa using hi)
theorem memO_some {t : Nat} {l : List Nat} (h : memO (some t) l = false) : t ∉ l := by simpa [memO] using h
theorem lowHd_get {hs : List Hn} {reg : Nat} {ops : Array Oper} : ∀ (l : List Oper) (i : Nat) (hd : List LO), lowHd P n hs reg ops i l = some hd → hd.length = l.length ∧ ∀ k o, l[k]? = some o → ∃ imm, zAE P n imm ops o = some (hd.getD k default)
 | [], i, hd, h => by
  simp only [lowHd, Option.some.injEq] at h
  subst h
  exact ⟨rfl, fun k o h => by simp at h⟩
 | o :: l, i, hd, h => by
  unfold lowHd at h
  cases h1 : zAE P n (zA3 hs reg i) ops o with
  | none => simp [h1] at h
  | some lo =>
   cases h2 : lowHd P n hs reg ops (i + 1) l with
   | none => simp [h1, h2] at h
   | some m =>
    simp only [h1, h2, Option.some.injEq] at h
    subst h
    obtain ⟨g1, g2⟩ := lowHd_get l (i + 1) m h2
    refine ⟨by simp [g1], fun k o' hk => ?_⟩
    cases k with
    | zero => simp at hk; subst hk; exact ⟨_, h1⟩
    | succ k => simpa using g2 k o' (by simpa using hk)
variable {ops : Array Oper}
theorem drawOk_get {hdl : List LO} {h : Nat} (hd : drawOk ops hdl h = true) {i j : Nat} (hj : j < ops.size) (hi : i < j) :
  ((Region.before ops).getD j 0).testBit i = true ∨ (j < h ∧ zAe (hdl.getD i default) (hdl.getD j default) = false) := by
 unfold drawOk at hd
 have h1 := List.all_eq_true.1 hd j (List.mem_range.2 hj)
 have h2 := List.all_eq_true.1 h1 i (List.mem_range.2 hi)
 simp only [Bool.or_eq_true, Bool.and_eq_true, decide_eq_true_eq, Bool.not_eq_true'] at h2
 exact h2
theorem zCj {r : Option Nat} {m0 : Nat} {hs : List Hn} {reg h : Nat} {K : Env → zC → Prop} {Q : Exit → Act → World → Prop} (hE : zAp ops = true) (hT : ∀ i j, h ≤ i → i < j → j < ops.size → ((Region.before ops).getD j 0).testBit i = true)
  (hQ : ∀ e' H' a' w', K e' H' → St B X w0 ρ0 n0 n e' H' a' w' → Q .normal a' w') :
  ∀ (fuel k : Nat) (los : List LO) (e : Env) (H : zC) (a : Act) (w : World) (listed : Array Bool), h ≤ k → fuel + k = ops.size → listed.size = ops.size → (∀ j, j < ops.size → listed.getD j true = decide (j < k)) → Closed ops listed →
   zBk P n hs reg ops k (ops.toList.drop k) = some los → zAu P los e H K → St B X w0 ρ0 n0 n e H a w → wpAnyIn (WR r) m0 P .any ops Q fuel listed a w
 | 0, k, los, e, H, a, w, listed, hk, hf, hsz, hl, hc, hlo, h, hst => by
  rw [List.drop_eq_nil_of_le (by simp; omega)] at hlo
  unfold zBk at hlo
  split at hlo
  ·rename_i hg
   simp only [Option.some.injEq] at hlo
   subst hlo
   obtain ⟨e', H', h', hst'⟩ := zAn (zAi hs reg k) (los := []) hg (by simpa using h) hst
   refine ⟨List.eq_nil_iff_forall_not_mem.2 fun i hi => ?_, hQ _ _ _ _ h' hst'⟩
   obtain ⟨h1, o, h2, _⟩ := mem_ready.1 hi
   have h3 := (Array.getElem?_eq_some_iff.1 h2).1
   rw [hl i h3] at h1
   simp at h1
   omega
  ·cases hlo
 | fuel + 1, k, los, e, H, a, w, listed, hk, hf, hsz, hl, hc, hlo, h, hst => by
  have hks : k < ops.size := by omega
  rw [List.drop_eq_getElem_cons (by simpa using hks)] at hlo
  have hop : ops[k]? = some (ops.toList[k]'(by simpa using hks)) := by simp [hks]
  generalize ops.toList[k]'(by simpa using hks) = o at hlo hop
  unfold zBk at hlo
  cases h1 : zAE P n (zA3 hs reg k) ops o with
  | none => simp [h1] at hlo
  | some lo =>
   cases h2 : zBk P n hs reg ops (k + 1) (ops.toList.drop (k + 1)) with
   | none => simp [h1, h2] at hlo
   | some m =>
    simp only [h1, h2] at hlo
    split at hlo
    ·rename_i hg
     simp only [Option.some.injEq] at hlo
     subst hlo
     obtain ⟨e', H', h', hst'⟩ := zAn (zAi hs reg k) hg h hst
     have hkr : k ∈ Region.ready .any ops listed := zBZ hE hks (by rw [hl k hks]; simp) fun j hj => by rw [zT (by omega), hl j (by omega)]; simpa using hj
     refine ⟨fun h0 => by rw [h0] at hkr; simp at hkr, fun i hi => ?_⟩
     have hik : i = k := by
      obtain ⟨g1, oi, g2, g3⟩ := mem_ready.1 hi
      have g4 := (Array.getElem?_eq_some_iff.1 g2).1
      rw [hl i g4] at g1
      simp only [decide_eq_false_iff_not, Nat.not_lt] at g1
      rcases Nat.lt_or_ge k i with g5 | g5
      ·have := zK hc i oi k g2 (hT k i hk g5 g4) g3
       rw [zT (by omega), hl k hks] at this
       simp at this
      ·omega
     subst hik
     have hnx := zA9 (r := r) (m0 := m0) h1 h' hst' (next := wpAnyIn (WR r) m0 P .any ops Q fuel (listed.setIfInBounds i true)) (Q := Q) fun e'' H'' a'' w'' hK hs'' =>
      zCj hE hT hQ fuel (i + 1) m e'' H'' a'' w'' (listed.setIfInBounds i true) (by omega) (by omega) (by simpa using hsz) (fun j hj => by
       rw [zS]
       by_cases hji : j = i
       ·rw [if_pos ⟨hji, by omega⟩]; simp; omega
       ·rw [if_neg fun hh => hji hh.1, hl j hj]
        have : (j < i) = (j < i + 1) := by simp; omega
        simp only [this]) (hc.set hi) h2 hK hs''
     unfold wpOpIn
     rw [hop]
     simp only
     exact hnx
    ·cases hlo
theorem zAV {a b : LO} (h : zAe a b = false) : (∀ t, a.d = some t → t ∉ b.rd) ∧ (∀ t, b.d = some t → t ∉ a.rd) ∧ ∀ t, a.d = some t → b.d ≠ some t := by
 simp only [zAe, Bool.or_eq_false_iff] at h
 refine ⟨fun t ht => memO_some (by rw [← ht]; exact h.1.1), fun t ht => memO_some (by rw [← ht]; exact h.1.2), fun t ht ht' => ?_⟩
 have := h.2
 rw [ht, ht'] at this
 simp at this
theorem drawOk_tail {hdl : List LO} {h : Nat} (hd : drawOk ops hdl h = true) : ∀ i j, h ≤ i → i < j → j < ops.size → ((Region.before ops).getD j 0).testBit i = true := fun i j h1 h2 h3 => by
 rcases drawOk_get hd h3 h2 with g | g
 ·exact g
 ·omega
theorem head_sound {r : Option Nat} {m0 : Nat} {hs : List Hn} {reg h : Nat} {tl : List LO} {K : Env → zC → Prop} {Q : Exit → Act → World → Prop} (hE : zAp ops = true) (hD : drawOk ops hd h = true) (hh : h ≤ ops.size)
  (hlen : hd.length = h) (hget : ∀ k o, k < h → ops[k]? = some o → ∃ imm, zAE P n imm ops o = some (hd.getD k default)) (hx : ∀ i, i < h → zCF P (hd.getD i default) (ED hd xs e (fun _ => true) i) H (xs i))
  (htl : zBk P n hs reg ops h (ops.toList.drop h) = some tl) (hK : zAu P tl (ED hd xs e (fun _ => true) h) H K)
  (hQ : ∀ e' H' a' w', K e' H' → St B X w0 ρ0 n0 n e' H' a' w' → Q .normal a' w') :
  ∀ (fuel : Nat) (a : Act) (w : World) (listed : Array Bool), fuel = left listed ops.size → listed.size = ops.size → (∀ j, h ≤ j → j < ops.size → listed.getD j true = false) → Closed ops listed →
   St B X w0 ρ0 n0 n (ED hd xs e (fun j => listed.getD j false) h) H a w → wpAnyIn (WR r) m0 P .any ops Q fuel listed a w := by
 intro fuel
 induction fuel with
 | zero =>
  intro a w listed hf hsz ht hc hst
  have hall : ∀ j, j < ops.size → listed.getD j true = decide (j < h) := by
   intro j hj
   by_cases hjh : j < h
   ·cases hb : listed.getD j true with
    | true => simp [hjh]
    | false => have := zCE hb ops.size hj; omega
   ·rw [ht j (by omega) hj]; simp [hjh]
  have hE' : ED hd xs e (fun j => listed.getD j false) h = ED hd xs e (fun _ => true) h := by
   funext t
   exact zAg h fun j hj _ => by rw [zT (by omega), hall j (by omega)]; simpa using hj
  rw [hE'] at hst
  have h0 := zBt ops.size hall
  exact zCj hE (drawOk_tail hD) hQ 0 h tl _ H a w listed (Nat.le_refl _) (by omega) hsz hall hc htl hK hst
 | succ fuel ih =>
  intro a w listed hf hsz ht hc hst
  by_cases hfull : ∀ j, j < h → listed.getD j true = true
  ·have hall : ∀ j, j < ops.size → listed.getD j true = decide (j < h) := by
    intro j hj
    by_cases hjh : j < h
    ·rw [hfull j hjh]; simp [hjh]
    ·rw [ht j (by omega) hj]; simp [hjh]
   have hE' : ED hd xs e (fun j => listed.getD j false) h = ED hd xs e (fun _ => true) h := by
    funext t
    exact zAg h fun j hj _ => by rw [zT (by omega), hall j (by omega)]; simpa using hj
   rw [hE'] at hst
   have h0 := zBt ops.size hall
   exact zCj hE (drawOk_tail hD) hQ (fuel + 1) h tl _ H a w listed (Nat.le_refl _) (by omega) hsz hall hc htl hK hst
  ·have hun : ∃ i, i < h ∧ listed.getD i true = false := by
    refine Classical.byContradiction fun hno => hfull fun j hj => ?_
    cases hb : listed.getD j true with
    | true => rfl
    | false => exact absurd ⟨j, hj, hb⟩ hno
   obtain ⟨i0, hi0, hi0u, hi0l⟩ := zCh hun
   have hr0 : i0 ∈ Region.ready .any ops listed := zBZ hE (by omega) hi0u fun j hj => by rw [zT (by omega)]; exact hi0l j hj
   refine ⟨fun h0 => by rw [h0] at hr0; simp at hr0, fun i hi => ?_⟩
   obtain ⟨hiu, oi, hoi, hiall⟩ := mem_ready.1 hi
   have his : i < ops.size := (Array.getElem?_eq_some_iff.1 hoi).1
   have hih : i < h := by
    refine Classical.byContradiction fun hge => ?_
    rcases drawOk_get hD (i := i0) his (by omega) with g6 | g6
    ·have := zK hc i oi i0 hoi g6 hiall
     rw [zT (by omega), hi0u] at this
     cases this
    ·omega
   have hidf : listed.getD i false = false := by rw [zT (by omega)]; exact hiu
   have hbef : ∀ j, j < i → zAe (hd.getD j default) (hd.getD i default) = true → listed.getD j false = true := by
    intro j hj hcf
    rcases drawOk_get hD his hj with g6 | g6
    ·exact zK hc i oi j hoi g6 hiall
    ·rw [g6.2] at hcf; cases hcf
   have hbeh : ∀ j, i < j → j < h → zAe (hd.getD i default) (hd.getD j default) = true → listed.getD j false = false := by
    intro j hj hjh hcf
    rcases drawOk_get hD (show j < ops.size by omega) hj with g6 | g6
    ·cases hb : listed.getD j false with
     | false => rfl
     | true =>
      obtain ⟨oj, hoj⟩ : ∃ oj, ops[j]? = some oj := ⟨ops[j]'(by omega), by simp [show j < ops.size by omega]⟩
      have := zK hc j oj i hoj g6 (hc j oj hoj hb)
      rw [hidf] at this
      cases this
    ·rw [g6.2] at hcf; cases hcf
   have hcf1 : ∀ a b : LO, ∀ t, a.d = some t → t ∈ b.rd → zAe a b = true := by
    intro a b t h1 h2
    cases hb : zAe a b with
    | true => rfl
    | false => exact absurd h2 ((zAV hb).1 t h1)
   have hcf2 : ∀ a b : LO, ∀ t, b.d = some t → t ∈ a.rd → zAe a b = true := by
    intro a b t h1 h2
    cases hb : zAe a b with
    | true => rfl
    | false => exact absurd h2 ((zAV hb).2.1 t h1)
   have hcf3 : ∀ a b : LO, ∀ t, a.d = some t → b.d = some t → zAe a b = true := by
    intro a b t h1 h2
    cases hb : zAe a b with
    | true => rfl
    | false => exact absurd h2 ((zAV hb).2.2 t h1)
   have hA : ∀ t ∈ (hd.getD i default).rd, ED hd xs e (fun _ => true) i t = ED hd xs e (fun j => listed.getD j false) h t := by
    intro t htr
    rw [zAS (i := i) h (by omega) fun j h1 h2 h3 => by
     by_cases hji : j = i
     ·rw [hji]; exact hidf
     ·exact hbeh j (by omega) h2 (hcf2 _ _ t h3 htr)]
    exact zAg i fun j h1 h2 => (hbef j h1 (hcf1 _ _ t h2 htr)).symm
   have hB : ups (ED hd xs e (fun j => listed.getD j false) h) (hd.getD i default).d (xs i) = ED hd xs e (fun j => (listed.setIfInBounds i true).getD j false) h := by
    funext t
    by_cases hdt : (hd.getD i default).d = some t
    ·rw [zAS (i := i + 1) h (by omega) fun j h1 h2 h3 => by
      rw [zS, if_neg (by omega)]
      exact hbeh j (by omega) h2 (hcf3 _ _ t hdt h3)]
     rw [hdt, zAT]
     have hset : (listed.setIfInBounds i true).getD i false = true := by rw [zS, if_pos ⟨rfl, by omega⟩]
     simp only [ED]
     rw [if_pos hset, hdt, zAT]
    ·rw [zBi hdt]
     exact zAg h fun j h1 h2 => by
      rw [zS, if_neg]
      rintro ⟨rfl, _⟩
      exact hdt h2
   have hstep := zA8 hA (hx i hih)
   obtain ⟨imm, hlow⟩ := hget i oi hih hoi
   have hone : zAu P [hd.getD i default] (ED hd xs e (fun j => listed.getD j false) h) H fun e' H' => e' = ED hd xs e (fun j => (listed.setIfInBounds i true).getD j false) h ∧ H' = H := by
    refine zBW ?_
    rcases hstep with ⟨g1, g2⟩ | ⟨g1, g2⟩
    ·refine .inl ⟨g1, ?_⟩
     have := zBX g2
     simp only [zAu]
     refine zBq this ?_
     rintro y H' ⟨rfl, rfl⟩
     exact ⟨hB, rfl⟩
    ·refine .inr ⟨g1, ?_⟩
     rw [← g2]
     exact ⟨hB, rfl⟩
   have hnx := zA9 (r := r) (m0 := m0) hlow hone hst (next := wpAnyIn (WR r) m0 P .any ops Q fuel (listed.setIfInBounds i true)) (Q := Q) fun e'' H'' a'' w'' hK'' hs'' => by
    obtain ⟨rfl, rfl⟩ := hK''
    refine ih a'' w'' _ ?_ (by simpa using hsz) (fun j h1 h2 => by rw [zS, if_neg (by omega)]; exact ht j h1 h2) (hc.set hi) hs''
    have := zCD hiu ops.size
    rw [if_pos his] at this
    omega
   unfold wpOpIn
   rw [hoi]
   simp only
   exact hnx
theorem draw_sound {r : Option Nat} {m0 : Nat} {hs : List Hn} {id h : Nat} {tl : List LO} {K : Env → zC → Prop} {Q : Exit → Act → World → Prop} (hhd : lowHd P n hs id ops 0 (ops.toList.take h) = some hd) (htl : zBk P n hs id ops h (ops.toList.drop h) = some tl)
  (hD : drawOk ops hd h = true) (hE : zAp ops = true) (hm : P.follows .mixedOrders = true) (hh : h ≤ ops.size) (hK : zAJ P hd e H fun e' => zAu P tl e' H K) (hst : St B X w0 ρ0 n0 n e H a w)
  (hQ : ∀ e' H' a' w', K e' H' → St B X w0 ρ0 n0 n e' H' a' w' → Q .normal a' w') : wpAnyIn (WR r) m0 P .any ops Q ops.size (Array.replicate ops.size false) a { w with drawn := w.drawn + 1 } := by
 obtain ⟨g1, g2⟩ := lowHd_get _ _ _ hhd
 have hlen : hd.length = h := by rw [g1]; simp; omega
 obtain ⟨xs, g3, g4⟩ := zBC hd hK
 rw [hlen] at g3 g4
 have h0 : ∀ j, (Array.replicate ops.size false).getD j false = false := fun j => getD_replicate_false _ _
 have h1 : ∀ j, j < ops.size → (Array.replicate ops.size false).getD j true = false := fun j hj => by rw [← zT (by simpa using hj)]; exact h0 j
 refine head_sound hE hD hh hlen (fun k o hk ho => g2 k o ?_) g4 htl g3 hQ ops.size a _ _ ?_ (by simp) (fun j _ hj => h1 j hj) ?_ ?_
 ·rw [List.getElem?_take, if_pos hk]; simpa using ho
 ·have := zBt (listed := Array.replicate ops.size false) (h := 0) ops.size fun j hj => by rw [h1 j hj]; simp
  omega
 ·intro j oj hj hl
  rw [h0 j] at hl
  cases hl
 ·have : ED hd xs e (fun j => (Array.replicate ops.size false).getD j false) h = e := by
   funext t
   rw [zAS (i := 0) h (Nat.zero_le _) fun j _ _ _ => h0 j]
   rfl
  rw [this]
  exact hst.still ⟨rfl, rfl, rfl, Nat.le_refl _⟩ rfl
end
section
variable {B : DB} {P : Program} {w w0 : World} {X : Nat → Prop} {ρ ρ0 : Nat → Loc} {H H' ext : zC} {e : Env} {a : Act} {n n0 : Nat}
def Res.at (r : Res) (H : zC) : Res := ⟨r.ok, r.x, H⟩
theorem iBin_at (op : BinOp) (k k' : IntKind) (a b : Int) : iBin op k k' a b H' = (iBin op k k' a b H).at H' := by cases op <;> rfl
theorem sBin_at (op : BinOp) (a b : List UInt8) : sBin op a b H' = (sBin op a b H).at H' := by cases op <;> rfl
theorem eqRes_at (op : BinOp) (p : Prop) (b : Bool) : eqRes op p b H' = (eqRes op p b H).at H' := by cases op <;> rfl
theorem rMkif_at (t : TypeId) (x : AV) : rMkif t x H' = (rMkif t x H).at H' := by unfold rMkif; split <;> rfl
theorem rBin_at (kd : KD) (op : BinOp) (x y : AV) : rBin kd op x y H' = (rBin kd op x y H).at H' := by
 unfold rBin
 split
 ·exact iBin_at _ _ _ _ _
 ·exact sBin_at _ _ _
 ·exact eqRes_at _ _ _
 ·cases kd <;> first | rfl | exact eqRes_at _ _ _
 ·exact eqRes_at _ _ _
 ·exact eqRes_at _ _ _
 ·rfl
theorem rNot_at (x : AV) : rNot x H' = (rNot x H).at H' := by unfold rNot; split <;> rfl
theorem rNeg_at (x : AV) : rNeg x H' = (rNeg x H).at H' := by unfold rNeg; split <;> rfl
theorem rFld_at (ag : Bool) (o k : Nat) (x : AV) : rFld ag o k x H' = (rFld ag o k x H).at H' := by unfold rFld; split <;> rfl
theorem rIdx_at (x i : AV) : rIdx x i H' = (rIdx x i H).at H' := by unfold rIdx; split <;> rfl
theorem rExt_at (x : AV) (i : Nat) : rExt x i H' = (rExt x i H).at H' := by unfold rExt; split <;> rfl
theorem rMin_at (x y : AV) : rMin x y H' = (rMin x y H).at H' := by unfold rMin; split <;> rfl
theorem rMax3_at (x y z : AV) : rMax3 x y z H' = (rMax3 x y z H).at H' := by unfold rMax3; split <;> rfl
theorem rMax_at (x y : AV) : rMax x y H' = (rMax x y H).at H' := by unfold rMax; split <;> rfl
theorem rSliceV_at (lk : LK) (n : Nat) (x : AV) (lo hi : Option AV) : zC4 lk n x lo hi H' = (zC4 lk n x lo hi H).at H' := by
 cases x with
 | sl a b =>
  show rSlice _ _ _ _ _ _ = (rSlice _ _ _ _ _ _).at _
  unfold rSlice
  generalize bnd 0 lo = l
  generalize bnd ((lenOf (AV.sl a b)).getD 0) hi = h
  cases l <;> cases h <;> rfl
 | v v =>
  show rSlice _ _ _ _ _ _ = (rSlice _ _ _ _ _ _).at _
  unfold rSlice
  generalize bnd 0 lo = l
  generalize bnd ((lenOf (AV.v v)).getD 0) hi = h
  cases v with
  | slice a b c => cases a <;> cases b <;> cases c <;> cases l <;> cases h <;> rfl
  | _ => cases l <;> cases h <;> rfl
 | _ => rfl
theorem rIaddrV_at (sz : Nat) (x i : AV) : zC5 sz x i H' = (zC5 sz x i H).at H' := by
 unfold zC5 rIaddr
 split
 ·split
  ·rfl
  ·rename_i h; cases h
  ·rfl
 ·rfl
theorem rBox_at (x : AV) : rBox true x H' = (rBox true x H).at H' := rfl
theorem rBsl_at (sz len : Nat) (zs : List AV) (ps : List (Nat × AV)) : rBsl true sz len zs ps H' = (rBsl true sz len zs ps H).at H' := rfl
theorem get_app {r : Nat} {o : HO} (h : H[r]? = some o) : (H ++ ext)[r]? = some o := by
 rw [List.getElem?_append_left (List.getElem?_eq_some_iff.1 h).1]; exact h
theorem zCq {ver r : Nat} (h : isVer ver H[r]?) : (H ++ ext)[r]? = H[r]? := by
 cases hh : H[r]? with
 | none => rw [hh] at h; exact h.elim
 | some o => exact get_app hh
theorem isArr_app {r : Nat} (h : isArr H[r]?) : (H ++ ext)[r]? = H[r]? := by
 cases hh : H[r]? with
 | none => rw [hh] at h; exact h.elim
 | some o => exact get_app hh
def More (r r' : Res) (H H' : zC) : Prop := r'.ok ∧ r'.x = r.x ∧ (r.H = H → r'.H = H')
theorem More.of_at {r r' : Res} (h : r' = r.at H') (hok : r.ok) : More r r' H H' := by subst h; exact ⟨hok, rfl, fun _ => rfl⟩
theorem rLoadO_at (ag : Bool) (k i off : Nat) (o : Option HO) : rLoadO ag k i off H' o = (rLoadO ag k i off H o).at H' := by unfold rLoadO; split <;> rfl
theorem rLoad_more {ag : Bool} {k : Nat} {p : AV} (h : (rLoad ag k p H).ok) : More (rLoad ag k p H) (rLoad ag k p (H ++ ext)) H (H ++ ext) := by
 cases p <;> simp only [rLoad] at h ⊢ <;> first | exact h.elim | skip
 case vp => exact ⟨h, rfl, fun _ => rfl⟩
 case ptr r ver off => rw [zCq h.1.2]; exact .of_at (by rw [rLoadO_at (H := H)]; rfl) h
 case pe r ver i off => rw [zCq h.1.2]; exact .of_at (by rw [rLoadO_at (H := H)]; rfl) h
theorem rLoadB_more {ag : Bool} {k : Nat} {p : AV} (h : (zCg ag k p H).ok) : More (zCg ag k p H) (zCg ag k p (H ++ ext)) H (H ++ ext) := by
 cases p <;> first | exact h.elim | exact rLoad_more h
theorem rNil_more {x : AV} (h : (rNil x H).ok) : More (rNil x H) (rNil x (H ++ ext)) H (H ++ ext) := by
 cases x <;> simp only [rNil] at h ⊢ <;> first | exact h.elim | exact ⟨h, rfl, fun _ => rfl⟩ | skip
 case fn f a b => cases f <;> simp only [rNil] at h ⊢ <;> first | exact h.elim | exact ⟨h, rfl, fun _ => rfl⟩
 case ptr r ver off => rw [zCq h]; exact ⟨h, rfl, fun _ => rfl⟩
 case pe r ver i off => rw [zCq h]; exact ⟨h, rfl, fun _ => rfl⟩
theorem szOk_app {sz : Nat} {x : AV} (h : szOk H sz x) : szOk (H ++ ext) sz x ∧ rowsOf (H ++ ext) x = rowsOf H x := by
 cases x
 case os r ver off len =>
  simp only [szOk] at h ⊢
  split at h
  ·rename_i v s xs hh
   rw [get_app hh]
   exact ⟨h, by simp only [rowsOf, osRows, hh, get_app (ext := ext) hh]⟩
  ·exact h.elim
 case v u =>
  cases u <;> first | exact ⟨h, rfl⟩ | skip
  case slice a l c => cases a <;> cases l <;> cases c <;> first | exact ⟨h, rfl⟩ | exact h.elim
 all_goals exact ⟨h, rfl⟩
theorem rConv_more {c : Cv} {x : AV} (h : (rConv c x H).ok) : More (rConv c x H) (rConv c x (H ++ ext)) H (H ++ ext) := by
 have hno : ∀ {r : Res}, r = .no H → r.ok → False := fun h1 h2 => by rw [h1] at h2; exact h2
 have hb : ∀ y : AV, szOk H 1 y ∧ ((rowsOf H y).bind zAN).isSome = true → szOk (H ++ ext) 1 y ∧ ((rowsOf (H ++ ext) y).bind zAN).isSome = true := fun y hy => by
  have := szOk_app (ext := ext) hy.1
  exact ⟨this.1, by rw [this.2]; exact hy.2⟩
 have hs : ∀ y : AV, szOk H 1 y → (rowsOf (H ++ ext) y) = rowsOf H y := fun y hy => (szOk_app hy).2
 cases c <;> cases x <;> simp only [rConv] at h ⊢ <;> first
  | exact h.elim
  | exact ⟨h, rfl, fun _ => rfl⟩
  | exact ⟨hb _ h, by rw [hs _ h.1], fun _ => rfl⟩
  | skip
 case sameB.os => rw [isArr_app h.2.1]; exact ⟨h, rfl, fun _ => rfl⟩
 all_goals
  rename_i u
  cases u <;> simp only [rConv] at h ⊢ <;> first
   | exact h.elim
   | exact ⟨h, rfl, fun _ => rfl⟩
   | exact ⟨hb _ h, by rw [hs _ h.1], fun _ => rfl⟩
theorem rSlice_more {lk : LK} {k : Nat} {x : AV} {lo hi : Option AV} (h : (rSlice lk k x lo hi H).ok) : More (rSlice lk k x lo hi H) (rSlice lk k x lo hi (H ++ ext)) H (H ++ ext) := by
 obtain ⟨⟨h1, h2⟩, h3⟩ := h
 have h2' := (szOk_app (ext := ext) h2).1
 have h4 : More (rSliceN x (bnd 0 lo) (bnd ((lenOf x).getD 0) hi) H) (rSliceN x (bnd 0 lo) (bnd ((lenOf x).getD 0) hi) (H ++ ext)) H (H ++ ext) := by
  unfold rSliceN at h3 ⊢
  split at h3
  ·exact ⟨h3, rfl, fun _ => rfl⟩
  ·exact ⟨h3, rfl, fun _ => rfl⟩
  ·rw [isArr_app h3.2.2.2.1]; exact ⟨h3, rfl, fun _ => rfl⟩
  ·exact ⟨h3, rfl, fun _ => rfl⟩
  ·exact h3.elim
 exact ⟨⟨⟨h1, h2'⟩, h4.1⟩, h4.2.1, h4.2.2⟩
theorem rFaddr_more {k : Nat} {p : AV} (h : (rFaddr k p H).ok) : More (rFaddr k p H) (rFaddr k p (H ++ ext)) H (H ++ ext) := by
 cases p <;> simp only [rFaddr] at h ⊢ <;> first | exact h.elim | exact ⟨h, rfl, fun _ => rfl⟩ | skip
 case ptr r ver off => rw [zCq h.2]; exact ⟨h, rfl, fun _ => rfl⟩
 case pe r ver i off => rw [zCq h.2]; exact ⟨h, rfl, fun _ => rfl⟩
theorem rFaddrB_more {k : Nat} {p : AV} (h : (zBB k p H).ok) : More (zBB k p H) (zBB k p (H ++ ext)) H (H ++ ext) := by
 cases p <;> first | exact h.elim | exact rFaddr_more h
theorem rIaddr_more {sz : Nat} {x i : AV} (h : (rIaddr sz x i H).ok) : More (rIaddr sz x i H) (rIaddr sz x i (H ++ ext)) H (H ++ ext) := by
 unfold rIaddr at h ⊢
 split at h
 ·exact ⟨h, rfl, fun _ => rfl⟩
 ·rw [zCq h.2.2.2]
  exact ⟨⟨h.1, h.2.1, (szOk_app h.2.2.1).1, h.2.2.2⟩, rfl, fun _ => rfl⟩
 ·exact h.elim
theorem rLook_more {kd : KD} {z : AV} {ok : Bool} {m k : AV} (h : (rLook kd z ok m k H).ok) : More (rLook kd z ok m k H) (rLook kd z ok m k (H ++ ext)) H (H ++ ext) := by
 unfold rLook at h ⊢
 split at h
 ·exact ⟨h, rfl, fun _ => rfl⟩
 ·split at h
  ·rename_i hh
   rw [get_app hh]
   exact ⟨h, rfl, fun _ => rfl⟩
  ·exact h.elim
 ·exact h.elim
theorem rLen_more {lk : LK} {x : AV} (h : (rLen lk x H).ok) : More (rLen lk x H) (rLen lk x (H ++ ext)) H (H ++ ext) := by
 obtain ⟨h1, h2⟩ := h
 refine ⟨⟨h1, ?_⟩, rfl, fun _ => rfl⟩
 cases x <;> first | exact h2 | skip
 case os r ver off len => simp only [verOk] at h2 ⊢; rw [isArr_app h2.1]; exact h2
theorem quiet_more {op : LOp} (hq : quietK op = true) (h : (zAZ op e H).ok) : More (zAZ op e H) (zAZ op e (H ++ ext)) H (H ++ ext) := by
 cases op <;> simp only [quietK] at hq <;> simp only [zAZ] at h ⊢ <;> first
  | exact (Bool.false_ne_true hq).elim
  | exact h.elim
  | exact ⟨h, rfl, fun _ => rfl⟩
  | exact .of_at (rBin_at ..) h
  | exact .of_at (rNot_at ..) h
  | exact .of_at (rMkif_at ..) h
  | exact .of_at (rNeg_at ..) h
  | exact .of_at (rFld_at ..) h
  | exact .of_at (rIdx_at ..) h
  | exact .of_at (rExt_at ..) h
  | exact .of_at (rMin_at ..) h
  | exact .of_at (rMax_at ..) h
  | exact .of_at (rMax3_at ..) h
  | exact rLoad_more h
  | exact rLoadB_more h
  | exact rNil_more h
  | exact rConv_more h
  | exact rSlice_more h
  | exact rFaddr_more h
  | exact rFaddrB_more h
  | exact rIaddr_more h
  | exact .of_at (rIaddrV_at ..) h
  | exact .of_at (rSliceV_at ..) h
  | exact rLook_more h
  | exact rLen_more h
  | skip
 case box imm x => rw [hq] at h ⊢; exact .of_at (rBox_at ..) h
 case bsl imm sz len zs ps => rw [hq] at h ⊢; exact .of_at (rBsl_at ..) h
theorem heapless_at {op : LOp} (hq : zBe op = true) (hc : ∀ f args, op ≠ .call f args) (hp : ∀ c x y, op ≠ .pick c x y) : zAZ op e H' = (zAZ op e H).at H' := by
 cases op <;> simp only [zBe] at hq <;> simp only [zAZ] <;> first
  | exact (Bool.false_ne_true hq).elim
  | rfl
  | exact rBin_at ..
  | exact rNot_at ..
  | exact rMkif_at ..
  | exact rNeg_at ..
  | exact rFld_at ..
  | exact rIdx_at ..
  | exact rExt_at ..
  | exact rMin_at ..
  | exact rMax_at ..
  | exact rMax3_at ..
  | exact absurd rfl (hc _ _)
  | exact absurd rfl (hp _ _ _)
  | exact rIaddrV_at ..
  | exact rSliceV_at ..
  | (subst hq; exact rBox_at ..)
  | (subst hq; exact rBsl_at ..)
theorem fresh_ext {op : LOp} (hq : fresh op = true) : ∃ ext, (zAZ op e H).H = H ++ ext := by
 cases op <;> simp only [fresh, Bool.not_eq_true'] at hq <;> simp only [zAZ] <;> first
  | exact (Bool.false_ne_true hq).elim
  | exact ⟨_, rfl⟩
  | skip
 case box imm x => rw [hq]; exact ⟨_, rfl⟩
 case bsl imm sz len zs ps => rw [hq]; exact ⟨_, rfl⟩
 case msl sz bytes zs len cap =>
  unfold rMsl
  split
  ·exact ⟨_, rfl⟩
  ·exact ⟨[], by simp [Res.no]⟩
theorem aopq_more {op : LOp} {x : AV} (hq : quietK op = true) (h : zC0 P op e H fun y => y = x) : zC0 P op e (H ++ ext) fun y => y = x := by
 have hh : ∀ (op : LOp), quietK op = true → ((zAZ op e H).ok ∧ (zAZ op e H).H = H ∧ (zAZ op e H).x = x) → ((zAZ op e (H ++ ext)).ok ∧ (zAZ op e (H ++ ext)).H = H ++ ext ∧ (zAZ op e (H ++ ext)).x = x) := fun op hq ⟨h1, h2, h3⟩ => by
  obtain ⟨g1, g2, g3⟩ := quiet_more (ext := ext) hq h1
  exact ⟨g1, g3 h2, g2.trans h3⟩
 cases op <;> simp only [zC0] at h ⊢ <;> first | exact h | (cases hq; done) | exact hh _ hq h
theorem aopq_at {op : LOp} {x : AV} (hq : zBe op = true) (h : zC0 P op e H fun y => y = x) : zC0 P op e H' fun y => y = x := by
 have hh : ∀ (op : LOp), zBe op = true → (∀ f args, op ≠ .call f args) → (∀ c x y, op ≠ .pick c x y) → ((zAZ op e H).ok ∧ (zAZ op e H).H = H ∧ (zAZ op e H).x = x) → ((zAZ op e H').ok ∧ (zAZ op e H').H = H' ∧ (zAZ op e H').x = x) := fun op hq hc hp ⟨h1, h2, h3⟩ => by
  rw [heapless_at (H := H) hq hc hp]
  exact ⟨h1, rfl, h3⟩
 cases op <;> simp only [zC0] at h ⊢ <;> first | exact h | (cases hq; done) | exact hh _ hq (by simp) (by simp) h
theorem stepQ_more {o : LO} {x : AV} (hq : quietK o.op = true) (h : zCF P o e H x) : zCF P o e (H ++ ext) x := by
 rcases h with ⟨h1, h2⟩ | h
 ·exact .inl ⟨h1, aopq_more hq h2⟩
 ·exact .inr h
theorem zCz {o : LO} {x : AV} (hq : zBe o.op = true) (h : zCF P o e H x) : zCF P o e H' x := by
 rcases h with ⟨h1, h2⟩ | h
 ·exact .inl ⟨h1, aopq_at hq h2⟩
 ·exact .inr h
def wr : List (Option Nat × AV) → Env → Env
 | [], e => e
 | (d, x) :: l, e => wr l (ups e d x)
theorem zCn : ∀ (l : List (Option Nat × AV)) (e : Env) (d : Option Nat) (x : AV), wr (l ++ [(d, x)]) e = ups (wr l e) d x
 | [], _, _, _ => rfl
 | (d', x') :: l, e, d, x => zCn l (ups e d' x') d x
theorem wr_ne {t : Nat} : ∀ (l : List (Option Nat × AV)) (e : Env), (∀ x, (some t, x) ∉ l) → wr l e t = e t
 | [], _, _ => rfl
 | (d, x) :: l, e, h => by
  rw [wr, wr_ne l _ fun y hy => h y (List.mem_cons_of_mem _ hy), zBi]
  intro hd; exact h x (by rw [hd]; exact List.mem_cons_self)
theorem ups_comm {d d' : Option Nat} {x x' : AV} (h : ∀ t, d = some t → d' ≠ some t) : ups (ups e d x) d' x' = ups (ups e d' x') d x := by
 funext t
 cases d with
 | none => rfl
 | some a =>
  cases d' with
  | none => rfl
  | some b =>
   have hab : a ≠ b := fun hh => h a rfl (by rw [hh])
   simp only [ups, up]
   by_cases h1 : t = b
   ·rw [if_pos h1, if_neg (by omega), if_pos h1]
   ·rw [if_neg h1, if_neg h1]
theorem wr_ups {d : Option Nat} {y : AV} : ∀ (l : List (Option Nat × AV)) (e : Env), (∀ t, d = some t → ∀ x, (some t, x) ∉ l) → ups (wr l e) d y = wr l (ups e d y)
 | [], _, _ => rfl
 | (d', x) :: l, e, h => by
  rw [wr, wr, wr_ups l _ fun t ht z hz => h t ht z (List.mem_cons_of_mem _ hz), ups_comm]
  intro t ht hd
  exact h t hd x (by rw [ht]; exact List.mem_cons_self)
theorem aop_congr {op : LOp} {e e' : Env} {K : AV → zC → Prop} (h : ∀ t ∈ op.rd, e t = e' t) (hk : aop P op e H K) : aop P op e' H K := by
 have ha := ares_congr (H := H) h
 cases op <;> simp only [aop] at hk ⊢ <;> first | (rw [← ha]; exact hk) | exact hk | skip
 case call f args =>
  simp only [LOp.rd, List.mem_append] at h
  rw [← zAd fun t ht => h t (.inl ht), ← zCs fun t ht => h t (.inr ht)]
  exact hk
 case callh f args =>
  simp only [LOp.rd, List.mem_append] at h
  rw [← zAd fun t ht => h t (.inl ht), ← zCs fun t ht => h t (.inr ht)]
  exact hk
 case pick c a b =>
  simp only [LOp.rd, List.mem_append] at h
  rw [← zAd fun t ht => h t (.inl (.inl ht)), ← zAd fun t ht => h t (.inl (.inr ht)), ← zAd fun t ht => h t (.inr ht)]
  exact hk
 case isnil neg x =>
  rw [← zAd h]
  exact hk
 case nextm x =>
  rw [← zAd h]
  exact hk
variable {ops : Array Oper} {hd : List LO} {xs : Nat → AV}
def Pr (P : Program) (n : Nat) (hs : List Hn) (reg : Nat) (ops : Array Oper) (hd : List LO) (h p1 p2 : Nat) : Prop := ∀ i j, j < ops.size → i < j →
 ((Region.before ops).getD j 0).testBit i = true ∨ (j < h ∧ zAe (hd.getD i default) (hd.getD j default) = false) ∨
  (i < h ∧ h ≤ j ∧ zAi hs reg j = [] ∧ quietK (hd.getD i default).op = true ∧ zAe (hd.getD i default) (zAx P n hs reg ops j) = false ∧ comm (hd.getD i default).op (zAx P n hs reg ops j).op = true) ∨ (p1 ≤ i ∧ j < p2)
theorem drawOk2_pr {hs : List Hn} {reg : Nat} {hdl : List LO} {h : Nat} (hd : drawOk2 P n hs reg ops hdl h = true) : Pr P n hs reg ops hdl h h h := by
 intro i j hj hi
 have h1 := List.all_eq_true.1 (List.all_eq_true.1 hd j (by simpa using hj)) i (by simpa using hi)
 simp only [Bool.or_eq_true, Bool.and_eq_true, decide_eq_true_eq, Bool.not_eq_true', List.isEmpty_iff] at h1
 rcases h1 with (h1 | h1) | h1
 ·exact .inl h1
 ·exact .inr (.inl h1)
 ·exact .inr (.inr (.inl ⟨h1.1.1.1.1.1, h1.1.1.1.1.2, h1.1.1.1.2, h1.1.1.2, h1.1.2, h1.2⟩))
theorem drawOk3_pr {hs : List Hn} {reg : Nat} {hdl : List LO} {h p1 p2 : Nat} (hd : drawOk3 P n hs reg ops hdl h p1 p2 = true) : Pr P n hs reg ops hdl h p1 p2 ∧
  ∀ j, h ≤ j → j < p2 → (zAx P n hs reg ops j).g = none ∧ (∀ o, ops[j]? = some o → zAE P n (zA3 hs reg j) ops o = some (zAx P n hs reg ops j)) ∧ (j < p1 → fresh (zAx P n hs reg ops j).op = true) ∧ (p1 ≤ j → isIns (zAx P n hs reg ops j).op = true ∧ (zAx P n hs reg ops j).d = none) := by
 unfold drawOk3 at hd
 simp only [Bool.and_eq_true] at hd
 obtain ⟨hd1, hd2⟩ := hd
 refine ⟨fun i j hj hi => ?_, fun j h1 h2 => ?_⟩
 ·have h1 := List.all_eq_true.1 (List.all_eq_true.1 hd1 j (by simpa using hj)) i (by simpa using hi)
  simp only [Bool.or_eq_true, Bool.and_eq_true, decide_eq_true_eq, Bool.not_eq_true', List.isEmpty_iff] at h1
  rcases h1 with ((h1 | h1) | h1) | h1
  ·exact .inl h1
  ·exact .inr (.inl h1)
  ·exact .inr (.inr (.inl ⟨h1.1.1.1.1.1, h1.1.1.1.1.2, h1.1.1.1.2, h1.1.1.2, h1.1.2, h1.2⟩))
  ·exact .inr (.inr (.inr h1))
 ·have h3 := List.all_eq_true.1 hd2 j (by simpa using h2)
  rw [Bool.or_eq_true] at h3
  rcases h3 with h3 | h3
  ·simp at h3; omega
  ·simp only [Bool.and_eq_true, Option.isNone_iff_eq_none] at h3
   obtain ⟨⟨⟨g1, g2⟩, g3⟩, g4⟩ := h3
   refine ⟨g1, fun o ho => ?_, fun hp => by rw [if_pos hp] at g4; exact g4, fun hp => by rw [if_neg (by omega)] at g4; simpa using g4⟩
   rw [ho] at g3
   unfold zAx
   rw [ho]
   cases hl : zAE P n (zA3 hs reg j) ops o with
   | none => simp [hl] at g3
   | some lo => simp [hl]
theorem rLoadB_set {ag : Bool} {k r : Nat} {p : AV} {ho : HO} (hr : ¬ isBox H[r]?) (h : (zCg ag k p H).ok) : (zCg ag k p (H.set r ho)).ok ∧ (zCg ag k p (H.set r ho)).x = (zCg ag k p H).x ∧ (zCg ag k p (H.set r ho)).H = H.set r ho := by
 cases p <;> first | exact h.elim | skip
 case ptr r' ver off =>
  simp only [zCg, rLoad] at h ⊢
  have hb : isBox H[r']? := h.1.1
  have hne : r ≠ r' := fun e => by subst e; exact hr hb
  have hg : (H.set r ho)[r']? = H[r']? := by rw [List.getElem?_set_ne hne]
  rw [hg]
  obtain ⟨cs, hc⟩ : ∃ cs, H[r']? = some (.box cs) := by
   revert hb
   cases H[r']? with
   | none => intro hb; exact hb.elim
   | some o => cases o <;> intro hb <;> first | exact hb.elim | exact ⟨_, rfl⟩
  rw [hc] at h ⊢
  exact ⟨h, rfl, rfl⟩
 case vp cs off => exact ⟨h, rfl, rfl⟩
theorem rFaddrB_set {k r : Nat} {p : AV} {ho : HO} (hr : ¬ isBox H[r]?) (h : (zBB k p H).ok) : (zBB k p (H.set r ho)).ok ∧ (zBB k p (H.set r ho)).x = (zBB k p H).x ∧ (zBB k p (H.set r ho)).H = H.set r ho := by
 cases p <;> first | exact h.elim | skip
 case ptr r' ver off =>
  have hne : r ≠ r' := fun e => by subst e; exact hr h.1
  refine ⟨?_, rfl, rfl⟩
  show isBox (H.set r ho)[r']? ∧ isVer ver (H.set r ho)[r']?
  rw [List.getElem?_set_ne hne]
  exact h
 case vp cs off => exact ⟨h, rfl, rfl⟩
def Kind (H H2 : zC) : Prop := (∃ ext, H2 = H ++ ext) ∨ ∃ r ho, ¬ isBox H[r]? ∧ H2 = H.set r ho
theorem ins_kind {kd : KD} {m k x : AV} (h : (rIns kd m k x H).ok) : Kind H (rIns kd m k x H).H := by
 unfold rIns at h ⊢
 split at h
 ·split at h
  ·rename_i hm
   exact .inr ⟨_, _, by rw [hm]; exact fun h => h, rfl⟩
  ·exact h.elim
 ·exact h.elim
theorem app_kind {sz bytes : Nat} {s x : AV} (h : (rAppend sz bytes s x H).ok) : Kind H (rAppend sz bytes s x H).H := by
 unfold rAppend at h ⊢
 split at h
 ·obtain ⟨_, h⟩ := h
  unfold rAppendO at h
  simp only [Res.also]
  unfold rAppendO
  split at h
  ·rename_i hm
   split at h
   ·exact .inr ⟨_, _, by rw [hm]; exact fun h => h, rfl⟩
   ·exact h.elim
  ·exact h.elim
 ·obtain ⟨_, h⟩ := h
  unfold rAppendN at h
  simp only [Res.also]
  unfold rAppendN
  split at h
  ·exact .inl ⟨_, rfl⟩
  ·exact h.elim
 ·obtain ⟨_, h⟩ := h
  unfold rAppendC at h
  simp only [Res.also]
  unfold rAppendC
  split at h
  ·exact .inl ⟨[], by simp⟩
  ·unfold rAppendN at h ⊢
   split at h
   ·exact .inl ⟨_, rfl⟩
   ·exact h.elim
 ·exact h.elim
theorem kind_of {op : LOp} (hq : (isIns op || isApp op) = true) (h : (zAZ op e H).ok) : Kind H (zAZ op e H).H := by
 cases op <;> simp [isIns, isApp] at hq
 ·exact ins_kind h
 ·exact app_kind h
theorem stepQ_kind {o : LO} {x : AV} {H2 : zC} (hq : isLoadB o.op = true) (hk : Kind H H2) (h : zCF P o e H x) : zCF P o e H2 x := by
 refine h.imp (fun ⟨h1, h2⟩ => ⟨h1, ?_⟩) id
 cases hop : o.op <;> rw [hop] at hq h2 <;> first | (cases hq; done) | skip
 ·rename_i ag k p
  rcases hk with ⟨ext, rfl⟩ | ⟨r, ho, hr, rfl⟩
  ·exact aopq_more (by rfl) h2
  ·obtain ⟨g1, g2, g3⟩ := h2
   obtain ⟨f1, f2, f3⟩ := rLoadB_set (ho := ho) hr g1
   exact ⟨f1, f3, f2.trans g3⟩
 ·rename_i k p
  rcases hk with ⟨ext, rfl⟩ | ⟨r, ho, hr, rfl⟩
  ·exact aopq_more (by rfl) h2
  ·obtain ⟨g1, g2, g3⟩ := h2
   obtain ⟨f1, f2, f3⟩ := rFaddrB_set (ho := ho) hr g1
   exact ⟨f1, f3, f2.trans g3⟩
def det (op : LOp) : Bool := fresh op || isIns op || isApp op || isMv op
theorem det_aop {op : LOp} (hq : det op = true) {K : AV → zC → Prop} : aop P op e H K = ((zAZ op e H).ok ∧ K (zAZ op e H).x (zAZ op e H).H) := by
 cases op <;> first | rfl | (simp [det, fresh, isIns, isApp, isMv] at hq)
theorem comm_keeps {a b : LO} {H2 : zC} (hq : quietK a.op = true) (hc : comm a.op b.op = true) (hb : (zAZ b.op e H).ok → H2 = (zAZ b.op e H).H) (hok : (zAZ b.op e H).ok) {e' : Env} {x : AV} (h : zCF P a e' H x) : zCF P a e' H2 x := by
 unfold comm at hc
 simp only [Bool.or_eq_true, Bool.and_eq_true] at hc
 obtain rfl := hb hok
 rcases hc with ((hc | hc) | hc) | hc
 ·exact zCz hc h
 ·obtain ⟨ext, hx⟩ := fresh_ext (e := e) (H := H) hc
  rw [hx]; exact stepQ_more hq h
 ·exact stepQ_kind hc.1 (kind_of (by simpa using hc.2) hok) h
 ·cases hop : b.op <;> rw [hop] at hc <;> first | (cases hc; done) | skip
  exact h
theorem mixed_sound {r : Option Nat} {m0 : Nat} {hs : List Hn} {reg h p1 p : Nat} {K : Env → zC → Prop} {Q : Exit → Act → World → Prop} (hE : zAp ops = true) (hD : Pr P n hs reg ops hd h p1 p) (hp : h ≤ p) (hp1 : h ≤ p1) (hh : h ≤ ops.size)
  (hlen : hd.length = h) (hget : ∀ k o, k < h → ops[k]? = some o → ∃ imm, zAE P n imm ops o = some (hd.getD k default))
  (hQ : ∀ e' H' a' w', K e' H' → St B X w0 ρ0 n0 n e' H' a' w' → Q .normal a' w') :
  ∀ (fuel k : Nat) (los : List LO) (ws : List (Option Nat × AV)) (H : zC) (a : Act) (w : World) (listed : Array Bool), p ≤ k → k ≤ ops.size → fuel = left listed ops.size → listed.size = ops.size →
   (∀ j, h ≤ j → j < ops.size → listed.getD j true = decide (j < k)) → Closed ops listed → zBk P n hs reg ops k (ops.toList.drop k) = some los → zAu P los (wr ws (ED hd xs e (fun _ => true) h)) H K →
   (∀ i, i < h → listed.getD i false = false → zCF P (hd.getD i default) (ED hd xs e (fun _ => true) i) H (xs i)) →
   (∀ i, i < h → listed.getD i false = false → ∀ t x, (some t, x) ∈ ws → t ∉ (hd.getD i default).rd ∧ (hd.getD i default).d ≠ some t) →
   St B X w0 ρ0 n0 n (wr ws (ED hd xs e (fun j => listed.getD j false) h)) H a w → wpAnyIn (WR r) m0 P .any ops Q fuel listed a w := by
 have hT : ∀ i j, p ≤ i → i < j → j < ops.size → ((Region.before ops).getD j 0).testBit i = true := fun i j h1 h2 h3 => by
  rcases hD i j h3 h2 with g | g | g | g
  ·exact g
  ·omega
  ·omega
  ·omega
 intro fuel
 induction fuel with
 | zero =>
  intro k los ws H a w listed hk hks hf hsz ht hc hlo hK hx hw hst
  have hall : ∀ j, j < ops.size → listed.getD j true = true := by
   intro j hj
   cases hb : listed.getD j true with
   | true => rfl
   | false => have := zCE hb ops.size hj; omega
  have hk2 : k = ops.size := by
   refine Classical.byContradiction fun hne => ?_
   have h1 := ht k (by omega) (by omega)
   rw [hall k (by omega)] at h1
   simp at h1
  have hE' : ED hd xs e (fun j => listed.getD j false) h = ED hd xs e (fun _ => true) h := by
   funext t
   exact zAg h fun j hj _ => by rw [zT (by omega), hall j (by omega)]
  rw [hE'] at hst
  exact zCj hE hT hQ 0 k los _ H a w listed hk (by omega) hsz (fun j hj => by rw [hall j hj]; simp; omega) hc hlo hK hst
 | succ fuel ih =>
  intro k los ws H a w listed hk hks hf hsz ht hc hlo hK hx hw hst
  by_cases hfull : ∀ j, j < h → listed.getD j true = true
  ·have hall : ∀ j, j < ops.size → listed.getD j true = decide (j < k) := by
    intro j hj
    by_cases hjh : j < h
    ·rw [hfull j hjh]; simp; omega
    ·exact ht j (by omega) hj
   have hE' : ED hd xs e (fun j => listed.getD j false) h = ED hd xs e (fun _ => true) h := by
    funext t
    exact zAg h fun j hj _ => by rw [zT (by omega), hall j (by omega)]; simp; omega
   rw [hE'] at hst
   have h0 := zBt ops.size hall
   exact zCj hE hT hQ (fuel + 1) k los _ H a w listed hk (by omega) hsz hall hc hlo hK hst
  ·have hun : ∃ i, i < h ∧ listed.getD i true = false := by
    refine Classical.byContradiction fun hno => hfull fun j hj => ?_
    cases hb : listed.getD j true with
    | true => rfl
    | false => exact absurd ⟨j, hj, hb⟩ hno
   obtain ⟨i0, hi0, hi0u, hi0l⟩ := zCh hun
   have hr0 : i0 ∈ Region.ready .any ops listed := zBZ hE (by omega) hi0u fun j hj => by rw [zT (by omega)]; exact hi0l j hj
   refine ⟨fun h0 => by rw [h0] at hr0; simp at hr0, fun i hi => ?_⟩
   obtain ⟨hiu, oi, hoi, hiall⟩ := mem_ready.1 hi
   have his : i < ops.size := (Array.getElem?_eq_some_iff.1 hoi).1
   have hidf : listed.getD i false = false := by rw [zT (by omega)]; exact hiu
   have hcf1 : ∀ a b : LO, ∀ t, a.d = some t → t ∈ b.rd → zAe a b = true := by
    intro a b t h1 h2
    cases hb : zAe a b with
    | true => rfl
    | false => exact absurd h2 ((zAV hb).1 t h1)
   have hcf2 : ∀ a b : LO, ∀ t, b.d = some t → t ∈ a.rd → zAe a b = true := by
    intro a b t h1 h2
    cases hb : zAe a b with
    | true => rfl
    | false => exact absurd h2 ((zAV hb).2.1 t h1)
   have hcf3 : ∀ a b : LO, ∀ t, a.d = some t → b.d = some t → zAe a b = true := by
    intro a b t h1 h2
    cases hb : zAe a b with
    | true => rfl
    | false => exact absurd h2 ((zAV hb).2.2 t h1)
   have hcount : fuel = left (listed.setIfInBounds i true) ops.size := by
    have := zCD hiu ops.size
    rw [if_pos his] at this
    omega
   by_cases hih : i < h
   ·
    have hbef : ∀ j, j < i → zAe (hd.getD j default) (hd.getD i default) = true → listed.getD j false = true := by
     intro j hj hcf
     rcases hD j i his hj with g6 | g6 | g6 | g6
     ·exact zK hc i oi j hoi g6 hiall
     ·rw [g6.2] at hcf; cases hcf
     ·omega
     ·omega
    have hbeh : ∀ j, i < j → j < h → zAe (hd.getD i default) (hd.getD j default) = true → listed.getD j false = false := by
     intro j hj hjh hcf
     rcases hD i j (show j < ops.size by omega) hj with g6 | g6 | g6 | g6
     ·cases hb : listed.getD j false with
      | false => rfl
      | true =>
       obtain ⟨oj, hoj⟩ : ∃ oj, ops[j]? = some oj := ⟨ops[j]'(by omega), by simp [show j < ops.size by omega]⟩
       have := zK hc j oj i hoj g6 (hc j oj hoj hb)
       rw [hidf] at this
       cases this
     ·rw [g6.2] at hcf; cases hcf
     ·omega
     ·omega
    have hwi := hw i hih hidf
    have hA : ∀ t ∈ (hd.getD i default).rd, ED hd xs e (fun _ => true) i t = wr ws (ED hd xs e (fun j => listed.getD j false) h) t := by
     intro t htr
     rw [wr_ne ws _ fun x hx => (hwi t x hx).1 htr, zAS (i := i) h (by omega) fun j h1 h2 h3 => by
      by_cases hji : j = i
      ·rw [hji]; exact hidf
      ·exact hbeh j (by omega) h2 (hcf2 _ _ t h3 htr)]
     exact zAg i fun j h1 h2 => (hbef j h1 (hcf1 _ _ t h2 htr)).symm
    have hB0 : ups (ED hd xs e (fun j => listed.getD j false) h) (hd.getD i default).d (xs i) = ED hd xs e (fun j => (listed.setIfInBounds i true).getD j false) h := by
     funext t
     by_cases hdt : (hd.getD i default).d = some t
     ·rw [zAS (i := i + 1) h (by omega) fun j h1 h2 h3 => by
       rw [zS, if_neg (by omega)]
       exact hbeh j (by omega) h2 (hcf3 _ _ t hdt h3)]
      rw [hdt, zAT]
      have hset : (listed.setIfInBounds i true).getD i false = true := by rw [zS, if_pos ⟨rfl, by omega⟩]
      simp only [ED]
      rw [if_pos hset, hdt, zAT]
     ·rw [zBi hdt]
      exact zAg h fun j h1 h2 => by
       rw [zS, if_neg]
       rintro ⟨rfl, _⟩
       exact hdt h2
    have hB : ups (wr ws (ED hd xs e (fun j => listed.getD j false) h)) (hd.getD i default).d (xs i) = wr ws (ED hd xs e (fun j => (listed.setIfInBounds i true).getD j false) h) := by
     rw [wr_ups ws _ fun t ht x hx => (hwi t x hx).2 ht, hB0]
    have hstep := zA8 hA (hx i hih hidf)
    obtain ⟨imm, hlow⟩ := hget i oi hih hoi
    have hone : zAu P [hd.getD i default] (wr ws (ED hd xs e (fun j => listed.getD j false) h)) H fun e' H' => e' = wr ws (ED hd xs e (fun j => (listed.setIfInBounds i true).getD j false) h) ∧ H' = H := by
     refine zBW ?_
     rcases hstep with ⟨g1, g2⟩ | ⟨g1, g2⟩
     ·refine .inl ⟨g1, ?_⟩
      have := zBX g2
      simp only [zAu]
      refine zBq this ?_
      rintro y H' ⟨rfl, rfl⟩
      exact ⟨hB, rfl⟩
     ·refine .inr ⟨g1, ?_⟩
      rw [← g2]
      exact ⟨hB, rfl⟩
    have hnx := zA9 (r := r) (m0 := m0) hlow hone hst (next := wpAnyIn (WR r) m0 P .any ops Q fuel (listed.setIfInBounds i true)) (Q := Q) fun e'' H'' a'' w'' hK'' hs'' => by
     obtain ⟨rfl, rfl⟩ := hK''
     have hsub : ∀ j, j < h → (listed.setIfInBounds i true).getD j false = false → listed.getD j false = false := fun j hj hl => by
      rw [zS] at hl
      split at hl
      ·cases hl
      ·exact hl
     exact ih k los ws _ a'' w'' _ hk hks hcount (by simpa using hsz) (fun j h1 h2 => by rw [zS, if_neg (by omega)]; exact ht j h1 h2) (hc.set hi) hlo hK (fun j hj hl => hx j hj (hsub j hj hl)) (fun j hj hl => hw j hj (hsub j hj hl)) hs''
    unfold wpOpIn
    rw [hoi]
    simp only
    exact hnx
   ·
    have hik : i = k := by
     have g1 := ht i (by omega) his
     rw [hiu] at g1
     have g2 : ¬ i < k := by simpa using g1.symm
     rcases Nat.lt_or_ge k i with g5 | g5
     ·have := zK hc i oi k hoi (hT k i hk g5 his) hiall
      rw [zT (by omega), ht k (by omega) (by omega)] at this
      simp at this
     ·omega
    subst hik
    have hfr : ∀ j, j < h → listed.getD j false = false → zAi hs reg i = [] ∧ quietK (hd.getD j default).op = true ∧ zAe (hd.getD j default) (zAx P n hs reg ops i) = false ∧ comm (hd.getD j default).op (zAx P n hs reg ops i).op = true := by
     intro j hj hl
     rcases hD j i his (show j < i by omega) with g | g | g | g
     ·have := zK hc i oi j hoi g hiall
      rw [hl] at this
      cases this
     ·omega
     ·exact g.2.2
     ·omega
    have hi0f : listed.getD i0 false = false := by rw [zT (by omega)]; exact hi0u
    rw [List.drop_eq_getElem_cons (by simpa using his)] at hlo
    have hop : ops[i]? = some (ops.toList[i]'(by simpa using his)) := by simp [his]
    generalize ops.toList[i]'(by simpa using his) = o at hlo hop
    obtain rfl : oi = o := Option.some.inj (hoi.symm.trans hop)
    unfold zBk at hlo
    cases h1 : zAE P n (zA3 hs reg i) ops oi with
    | none => simp [h1] at hlo
    | some lo =>
     cases h2 : zBk P n hs reg ops (i + 1) (ops.toList.drop (i + 1)) with
     | none => simp [h1, h2] at hlo
     | some m =>
      simp only [h1, h2, (hfr i0 hi0 hi0f).1, List.nil_append] at hlo
      split at hlo
      ·simp only [Option.some.injEq] at hlo
       subst hlo
       have htl : zAx P n hs reg ops i = lo := by simp [zAx, hoi, h1]
       rw [htl] at hfr
       have hR : ∀ t ∈ lo.rd, wr ws (ED hd xs e (fun _ => true) h) t = wr ws (ED hd xs e (fun j => listed.getD j false) h) t := by
        intro t htr
        have : ∀ (l : List (Option Nat × AV)) (e1 e2 : Env), e1 t = e2 t → wr l e1 t = wr l e2 t := by
         intro l
         induction l with
         | nil => intro e1 e2 h; exact h
         | cons p l ihl =>
          intro e1 e2 h
          obtain ⟨d, x⟩ := p
          refine ihl _ _ ?_
          by_cases hdt : d = some t
          ·rw [hdt, zAT, zAT]
          ·rw [zBi hdt, zBi hdt]; exact h
        refine this ws _ _ (zAg h fun j hj hdj => ?_)
        cases hb : listed.getD j false with
        | true => rfl
        | false =>
         have := (zAV (hfr j hj hb).2.2.1).1 t hdj
         exact absurd htr this
       have hwant : zBf lo.g (wr ws (ED hd xs e (fun _ => true) h)) = zBf lo.g (wr ws (ED hd xs e (fun j => listed.getD j false) h)) := zBP fun t want hg => hR t (by simp [LO.rd, hg])
       have hnext : ∀ (x : AV) (H2 : zC), zAu P m (ups (wr ws (ED hd xs e (fun _ => true) h)) lo.d x) H2 K → (∀ j, j < h → listed.getD j false = false → zCF P (hd.getD j default) (ED hd xs e (fun _ => true) j) H2 (xs j)) →
         ∀ a'' w'', St B X w0 ρ0 n0 n (ups (wr ws (ED hd xs e (fun j => listed.getD j false) h)) lo.d x) H2 a'' w'' → wpAnyIn (WR r) m0 P .any ops Q fuel (listed.setIfInBounds i true) a'' w'' := by
        intro x H2 hK2 hH a'' w'' hs''
        have hsame : ∀ j, j < h → (listed.setIfInBounds i true).getD j false = listed.getD j false := fun j hj => by rw [zS, if_neg (by omega)]
        have hED : ED hd xs e (fun j => (listed.setIfInBounds i true).getD j false) h = ED hd xs e (fun j => listed.getD j false) h := by
         funext t
         exact zAg h fun j hj _ => hsame j hj
        refine ih (i + 1) m (ws ++ [(lo.d, x)]) H2 a'' w'' _ (by omega) (by omega) hcount (by simpa using hsz) (fun j hj1 hj2 => ?_) (hc.set hi) h2 (by rw [zCn]; exact hK2) (fun j hj hl => ?_) (fun j hj hl t y hy => ?_) (by rw [zCn, hED]; exact hs'')
        ·rw [zS]
         by_cases hji : j = i
         ·rw [if_pos ⟨hji, by omega⟩]; simp; omega
         ·rw [if_neg fun hh => hji hh.1, ht j hj1 hj2]
          have : (j < i) = (j < i + 1) := by simp; omega
          simp only [this]
        ·rw [hsame j hj] at hl
         exact hH j hj hl
        ·rw [hsame j hj] at hl
         rcases List.mem_append.1 hy with hy | hy
         ·exact hw j hj hl t y hy
         ·simp only [List.mem_singleton, Prod.mk.injEq] at hy
          have hcf := zAV (hfr j hj hl).2.2.1
          exact ⟨hcf.2.1 t hy.1.symm, fun hdj => hcf.2.2 t hdj hy.1.symm⟩
       have hone : zAu P [lo] (wr ws (ED hd xs e (fun j => listed.getD j false) h)) H fun e' H2 => ∃ x, e' = ups (wr ws (ED hd xs e (fun j => listed.getD j false) h)) lo.d x ∧ zAu P m (ups (wr ws (ED hd xs e (fun _ => true) h)) lo.d x) H2 K ∧ (∀ j, j < h → listed.getD j false = false → zCF P (hd.getD j default) (ED hd xs e (fun _ => true) j) H2 (xs j)) := by
        refine zBW ?_
        rcases zCb hK with ⟨g1, g2⟩ | ⟨g1, g2⟩
        ·refine .inl ⟨by rw [← hwant]; exact g1, ?_⟩
         have g3 := aop_congr (fun t ht => hR t (by simp [LO.rd, ht])) g2
         by_cases hdet : det lo.op = true
         ·rw [det_aop hdet] at g3 ⊢
          refine ⟨g3.1, ?_⟩
          simp only [zAu]
          exact ⟨_, rfl, g3.2, fun j hj hl => comm_keeps (hfr j hj hl).2.1 (hfr j hj hl).2.2.2 (fun _ => rfl) g3.1 (hx j hj hl)⟩
         ·have hnf : ((fresh lo.op = false ∧ isIns lo.op = false) ∧ isApp lo.op = false) ∧ isMv lo.op = false := by
           have : det lo.op = false := by simpa using hdet
           simpa only [det, Bool.or_eq_false_iff] using this
          refine zBq g3 fun x H2 hx2 => ?_
          simp only [zAu]
          refine ⟨x, rfl, hx2, fun j hj hl => zCz ?_ (hx j hj hl)⟩
          have hc := (hfr j hj hl).2.2.2
          unfold comm at hc
          rw [hnf.1.1.1, hnf.1.1.2, hnf.1.2, hnf.2] at hc
          simpa using hc
        ·refine .inr ⟨by rw [← hwant]; exact g1, ?_⟩
         exact ⟨zAs, rfl, g2, hx⟩
       have hnx := zA9 (r := r) (m0 := m0) h1 hone hst (next := wpAnyIn (WR r) m0 P .any ops Q fuel (listed.setIfInBounds i true)) (Q := Q) fun e'' H'' a'' w'' hK'' hs'' => by
        obtain ⟨x, rfl, hK2, hH⟩ := hK''
        exact hnext x H'' hK2 hH a'' w'' hs''
       unfold wpOpIn
       rw [hoi]
       simp only
       exact hnx
      ·cases hlo
theorem draw_sound2 {r : Option Nat} {m0 : Nat} {hs : List Hn} {id h : Nat} {tl : List LO} {K : Env → zC → Prop} {Q : Exit → Act → World → Prop} (hhd : lowHd P n hs id ops 0 (ops.toList.take h) = some hd) (htl : zBk P n hs id ops h (ops.toList.drop h) = some tl)
  (hD : drawOk2 P n hs id ops hd h = true) (hE : zAp ops = true) (hm : P.follows .mixedOrders = true) (hh : h ≤ ops.size) (hK : zAJ P hd e H fun e' => zAu P tl e' H K) (hst : St B X w0 ρ0 n0 n e H a w)
  (hQ : ∀ e' H' a' w', K e' H' → St B X w0 ρ0 n0 n e' H' a' w' → Q .normal a' w') : wpAnyIn (WR r) m0 P .any ops Q ops.size (Array.replicate ops.size false) a { w with drawn := w.drawn + 1 } := by
 obtain ⟨g1, g2⟩ := lowHd_get _ _ _ hhd
 have hlen : hd.length = h := by rw [g1]; simp; omega
 obtain ⟨xs, g3, g4⟩ := zBC hd hK
 rw [hlen] at g3 g4
 have h0 : ∀ j, (Array.replicate ops.size false).getD j false = false := fun j => getD_replicate_false _ _
 have h1 : ∀ j, j < ops.size → (Array.replicate ops.size false).getD j true = false := fun j hj => by rw [← zT (by simpa using hj)]; exact h0 j
 refine mixed_sound hE (drawOk2_pr hD) (Nat.le_refl _) (Nat.le_refl _) hh hlen (fun k o hk ho => g2 k o ?_) hQ ops.size h tl [] H a _ _ (Nat.le_refl _) hh ?_ (by simp) (fun j h2 hj => ?_) ?_ htl g3 (fun i hi _ => g4 i hi) (fun i _ _ t x hx => by simp at hx) ?_
 ·rw [List.getElem?_take, if_pos hk]; simpa using ho
 ·have := zBt (listed := Array.replicate ops.size false) (h := 0) ops.size fun j hj => by rw [h1 j hj]; simp
  omega
 ·rw [h1 j hj]; simp; omega
 ·intro j oj hj hl
  rw [h0 j] at hl
  cases hl
 ·have : ED hd xs e (fun j => (Array.replicate ops.size false).getD j false) h = e := by
   funext t
   rw [zAS (i := 0) h (Nat.zero_le _) fun j _ _ _ => h0 j]
   rfl
  show St B X w0 ρ0 n0 n (ED hd xs e (fun j => (Array.replicate ops.size false).getD j false) h) H a _
  rw [this]
  exact hst.still ⟨rfl, rfl, rfl, Nat.le_refl _⟩ rfl
end
section
variable {P : Program} {π : List Nat} {ops : Array Oper} {n : Nat}
theorem zB4 (h : zCN π n = true) : π.length = n ∧ ∀ k, k < n → π.getD k 0 < n ∧ π.idxOf (π.getD k 0) = k ∧ π.idxOf k < n ∧ π.getD (π.idxOf k) 0 = k := by
 simp only [zCN, Bool.and_eq_true, decide_eq_true_eq, List.all_eq_true, List.mem_range] at h
 exact ⟨h.1, fun k hk => ⟨(h.2 k hk).1.1.1, (h.2 k hk).1.1.2, (h.2 k hk).1.2, (h.2 k hk).2⟩⟩
theorem idxOf_ge (h : zCN π n = true) {j : Nat} (hj : n ≤ j) : n ≤ π.idxOf j := by
 obtain ⟨hl, hp⟩ := zB4 h
 refine Classical.byContradiction fun hlt => ?_
 have hlt : π.idxOf j < n := by omega
 have hmem : j ∈ π := List.idxOf_lt_length_iff.1 (by omega)
 obtain ⟨k, hk, rfl⟩ := List.mem_iff_getElem.1 hmem
 have := (hp k (by omega)).1
 simp [List.getD_eq_getElem?_getD, hk] at this
 omega
theorem permOps_size (h : zCN π ops.size = true) : (zBR π ops).size = ops.size := by simp [zBR, (zB4 h).1]
theorem permOps_get (h : zCN π ops.size = true) {k : Nat} (hk : k < ops.size) : (zBR π ops)[k]? = (ops[π.getD k 0]?).map (renOp π) := by
 obtain ⟨hl, hp⟩ := zB4 h
 have h1 := (hp k hk).1
 have hkl : k < π.length := by omega
 have h2 : π[k]?.getD 0 < ops.size := by simpa [List.getD_eq_getElem?_getD] using h1
 simp [zBR, hkl] at h2 ⊢
 simp [Array.getD_eq_getD_getElem?, h2]
theorem permOps_at (h : zCN π ops.size = true) (j : Nat) : (zBR π ops)[π.idxOf j]? = (ops[j]?).map (renOp π) := by
 obtain ⟨hl, hp⟩ := zB4 h
 by_cases hj : j < ops.size
 ·rw [permOps_get h (hp j hj).2.2.1, (hp j hj).2.2.2]
 ·have h1 := idxOf_ge h (j := j) (by omega)
  rw [Array.getElem?_eq_none (by rw [permOps_size h]; exact h1), Array.getElem?_eq_none (by omega)]
  rfl
theorem yielded_perm (h : zCN π ops.size = true) (tmps : Array Value) (j : Nat) : yielded (zBR π ops) tmps (π.idxOf j) = yielded ops tmps j := by
 unfold yielded
 rw [permOps_at h j]
 cases ops[j]? <;> rfl
theorem wanted_perm (h : zCN π ops.size = true) (o : Oper) (tmps : Array Value) : Region.wanted (renOp π o) (yielded (zBR π ops) tmps) = Region.wanted o (yielded ops tmps) := by
 unfold Region.wanted renOp
 cases hg : o.guard with
 | none => rfl
 | some jb =>
  obtain ⟨j, b⟩ := jb
  simp only [Option.map_some]
  rw [yielded_perm h]
def Alike (π : List Nat) (n : Nat) (l l' : Array Bool) : Prop := l.size = n ∧ l'.size = n ∧ ∀ k, k < n → l'.getD k false = l.getD (π.getD k 0) false
theorem Alike.at_idx {l l' : Array Bool} (h : zCN π n = true) (ha : Alike π n l l') (j : Nat) : l'.getD (π.idxOf j) false = l.getD j false := by
 obtain ⟨hl, hp⟩ := zB4 h
 by_cases hj : j < n
 ·rw [ha.2.2 _ (hp j hj).2.2.1, (hp j hj).2.2.2]
 ·have h1 := idxOf_ge h (j := j) (by omega)
  have e1 : l'.getD (π.idxOf j) false = false := by simp [Array.getD_eq_getD_getElem?, Array.getElem?_eq_none (show l'.size ≤ π.idxOf j by rw [ha.2.1]; exact h1)]
  have e2 : l.getD j false = false := by simp [Array.getD_eq_getD_getElem?, Array.getElem?_eq_none (show l.size ≤ j by rw [ha.1]; omega)]
  rw [e1, e2]
theorem Alike.set {l l' : Array Bool} (h : zCN π n = true) (ha : Alike π n l l') {i : Nat} (hi : i < n) : Alike π n (l.setIfInBounds i true) (l'.setIfInBounds (π.idxOf i) true) := by
 obtain ⟨hl, hp⟩ := zB4 h
 refine ⟨by simpa using ha.1, by simpa using ha.2.1, fun k hk => ?_⟩
 rw [zS, zS, ha.2.2 k hk]
 by_cases hki : k = π.idxOf i
 ·subst hki
  rw [if_pos ⟨rfl, by rw [ha.2.1]; exact hk⟩, if_pos ⟨(hp i hi).2.2.2, by rw [ha.1]; exact hi⟩]
 ·rw [if_neg (fun hh => hki hh.1), if_neg]
  rintro ⟨e, _⟩
  have := (hp k hk).2.1
  rw [e] at this
  exact hki this.symm
theorem ready_perm {md : Region.Mode} {l l' : Array Bool} (h : zCN π ops.size = true) (ha : Alike π ops.size l l') {i : Nat} (hi : i < ops.size) : π.idxOf i ∈ Region.ready md (zBR π ops) l' ↔ i ∈ Region.ready md ops l := by
 obtain ⟨hl, hp⟩ := zB4 h
 rw [mem_ready, mem_ready, permOps_at h i]
 have e1 : l'.getD (π.idxOf i) true = l.getD i true := by
  rw [← zT (by rw [ha.2.1]; exact (hp i hi).2.2.1), ← zT (by rw [ha.1]; exact hi)]
  exact ha.at_idx h i
 rw [e1]
 refine and_congr Iff.rfl ⟨?_, ?_⟩
 ·rintro ⟨o', ho, hall⟩
  obtain ⟨o, hoo, rfl⟩ := Option.map_eq_some_iff.1 ho
  refine ⟨o, hoo, fun e he hb => ?_⟩
  have := hall { e with on := π.idxOf e.on } (by simp only [renOp]; exact Array.mem_map.2 ⟨e, he, rfl⟩) hb
  rw [← ha.at_idx h e.on]
  exact this
 ·rintro ⟨o, ho, hall⟩
  refine ⟨renOp π o, by rw [ho]; rfl, fun e' he' hb => ?_⟩
  simp only [renOp] at he'
  obtain ⟨e, he, rfl⟩ := Array.mem_map.1 he'
  show l'.getD (π.idxOf e.on) false = true
  rw [ha.at_idx h e.on]
  exact hall e he hb
theorem perm_any {F : Fence} {m : Nat} {md : Region.Mode} {Q : Exit → Act → World → Prop} (h : zCN π ops.size = true) : ∀ (fuel : Nat) (l l' : Array Bool) (a : Act) (w : World), Alike π ops.size l l' →
  wpAnyIn F m P md (zBR π ops) Q fuel l' a w → wpAnyIn F m P md ops Q fuel l a w := by
 obtain ⟨hl, hp⟩ := zB4 h
 have emp : ∀ l l', Alike π ops.size l l' → (Region.ready md (zBR π ops) l' = [] ↔ Region.ready md ops l = []) := by
  intro l l' ha
  rw [List.eq_nil_iff_forall_not_mem, List.eq_nil_iff_forall_not_mem]
  refine ⟨fun hh i hi => ?_, fun hh k hk => ?_⟩
  ·have his : i < ops.size := by obtain ⟨_, o, ho, _⟩ := mem_ready.1 hi; exact (Array.getElem?_eq_some_iff.1 ho).1
   exact hh _ ((ready_perm h ha his).2 hi)
  ·have hks : k < ops.size := by obtain ⟨_, o, ho, _⟩ := mem_ready.1 hk; have := (Array.getElem?_eq_some_iff.1 ho).1; rwa [permOps_size h] at this
   have := (ready_perm (md := md) h ha (hp k hks).1)
   rw [(hp k hks).2.1] at this
   exact hh _ (this.1 hk)
 intro fuel
 induction fuel with
 | zero => exact fun l l' a w ha hh => ⟨(emp l l' ha).1 hh.1, hh.2⟩
 | succ fuel ih =>
  intro l l' a w ha hh
  refine ⟨fun h0 => hh.1 ((emp l l' ha).2 h0), fun i hi => ?_⟩
  have his : i < ops.size := by obtain ⟨_, o, ho, _⟩ := mem_ready.1 hi; exact (Array.getElem?_eq_some_iff.1 ho).1
  have h1 := hh.2 _ ((ready_perm h ha his).2 hi)
  have hi2 : ops[i]? = some ops[i] := by simp [his]
  have hi1 : (zBR π ops)[π.idxOf i]? = some (renOp π ops[i]) := by rw [permOps_at h i, hi2]; rfl
  unfold wpOpIn at h1 ⊢
  rw [hi1] at h1
  rw [hi2]
  simp only [wanted_perm h] at h1 ⊢
  have hK : ∀ a w, wpAnyIn F m P md (zBR π ops) Q fuel (l'.setIfInBounds (π.idxOf i) true) a w → wpAnyIn F m P md ops Q fuel (l.setIfInBounds i true) a w := fun a w => ih _ _ a w (ha.set h his)
  split
  ·rename_i hw; rw [if_pos hw] at h1; exact Oper.wpIn_mono hK h1
  ·rename_i hw; rw [if_neg hw] at h1; exact ⟨h1.1, hK _ _ h1.2⟩
theorem zBj {F : Fence} {m : Nat} {Q : Exit → Act → World → Prop} {hs : List Hn} {id : Nat} {a : Act} {w : World} (hm : P.follows .mixedOrders = true)
  (h : wpAnyIn F m P .any (permAt hs id ops) Q (permAt hs id ops).size (Array.replicate (permAt hs id ops).size false) a { w with drawn := w.drawn + 1 }) : (Code.region id ops true).wpIn F m P Q a w := by
 refine wpIn_region_any hm ?_
 unfold permAt at h
 split at h
 ·rename_i π _
  split at h
  ·rename_i hk
   rw [permOps_size hk] at h
   exact perm_any hk _ _ _ _ _ ⟨by simp, by simp, fun k _ => by rw [getD_replicate_false, getD_replicate_false]⟩ h
  ·exact h
 ·exact h
end
section
variable {B : DB} {P : Program} {w w0 : World} {X : Nat → Prop} {ρ ρ0 : Nat → Loc} {H H' ext : zC} {e : Env} {a : Act} {n n0 : Nat}
variable {ops : Array Oper} {hd : List LO} {xs : Nat → AV}
theorem perm_filter_ne {i : Nat} : ∀ {l : List Nat}, i ∈ l → l.Nodup → (i :: l.filter (· != i)).Perm l
 | x :: l, hi, hn => by
  obtain ⟨n1, n2⟩ := List.nodup_cons.1 hn
  by_cases hx : x = i
  ·subst hx
   have : (x :: l).filter (· != x) = l := by
    rw [List.filter_cons_of_neg (by simp)]
    exact List.filter_eq_self.2 fun a ha => by simp; intro e; subst e; exact n1 ha
   rw [this]
  ·have hi' : i ∈ l := by rcases List.mem_cons.1 hi with h | h; exact absurd h.symm hx; exact h
   rw [List.filter_cons_of_pos (by simpa using hx)]
   exact (List.Perm.swap x i _).trans (List.Perm.cons x (perm_filter_ne hi' n2))
theorem many_sound {r : Option Nat} {m0 : Nat} {hs : List Hn} {reg h p1 p2 : Nat} {post : List LO} {K : Env → zC → Prop} {Q : Exit → Act → World → Prop} (hE : zAp ops = true) (hD : Pr P n hs reg ops hd h p1 p2)
  (hT : ∀ j, h ≤ j → j < p2 → (zAx P n hs reg ops j).g = none ∧ (∀ o, ops[j]? = some o → zAE P n (zA3 hs reg j) ops o = some (zAx P n hs reg ops j)) ∧ (j < p1 → fresh (zAx P n hs reg ops j).op = true) ∧ (p1 ≤ j → isIns (zAx P n hs reg ops j).op = true ∧ (zAx P n hs reg ops j).d = none))
  (h1 : h ≤ p1) (h2 : p1 ≤ p2) (h3 : p2 ≤ ops.size) (hlen : hd.length = h) (hget : ∀ k o, k < h → ops[k]? = some o → ∃ imm, zAE P n imm ops o = some (hd.getD k default)) (hpost : zBk P n hs reg ops p2 (ops.toList.drop p2) = some post)
  (hQ : ∀ e' H' a' w', K e' H' → St B X w0 ρ0 n0 n e' H' a' w' → Q .normal a' w') :
  ∀ (fuel k : Nat) (rm : List Nat) (ws : List (Option Nat × AV)) (H : zC) (a : Act) (w : World) (listed : Array Bool), h ≤ k → k ≤ p1 → fuel = left listed ops.size → listed.size = ops.size →
   (∀ j, h ≤ j → j < p1 → listed.getD j true = decide (j < k)) → (∀ j, p1 ≤ j → j < p2 → (listed.getD j true = false ↔ j ∈ rm)) → (∀ j, p2 ≤ j → j < ops.size → listed.getD j true = false) → (∀ j ∈ rm, p1 ≤ j ∧ j < p2) → rm.Nodup → Closed ops listed →
   (∀ σ : List Nat, σ.Perm rm → zAu P ((List.range' k (p1 - k)).map (zAx P n hs reg ops) ++ σ.map (zAx P n hs reg ops) ++ post) (wr ws (ED hd xs e (fun _ => true) h)) H K) →
   (∀ i, i < h → listed.getD i false = false → zCF P (hd.getD i default) (ED hd xs e (fun _ => true) i) H (xs i)) →
   (∀ i, i < h → listed.getD i false = false → ∀ t x, (some t, x) ∈ ws → t ∉ (hd.getD i default).rd ∧ (hd.getD i default).d ≠ some t) →
   St B X w0 ρ0 n0 n (wr ws (ED hd xs e (fun j => listed.getD j false) h)) H a w → wpAnyIn (WR r) m0 P .any ops Q fuel listed a w := by
 have hend : ∀ (fuel : Nat) (ws : List (Option Nat × AV)) (H : zC) (a : Act) (w : World) (listed : Array Bool), fuel = left listed ops.size → listed.size = ops.size →
   (∀ j, h ≤ j → j < p1 → listed.getD j true = decide (j < p1)) → (∀ j, p1 ≤ j → j < p2 → (listed.getD j true = false ↔ j ∈ ([] : List Nat))) → (∀ j, p2 ≤ j → j < ops.size → listed.getD j true = false) → Closed ops listed →
   (∀ σ : List Nat, σ.Perm [] → zAu P ((List.range' p1 (p1 - p1)).map (zAx P n hs reg ops) ++ σ.map (zAx P n hs reg ops) ++ post) (wr ws (ED hd xs e (fun _ => true) h)) H K) →
   (∀ i, i < h → listed.getD i false = false → zCF P (hd.getD i default) (ED hd xs e (fun _ => true) i) H (xs i)) →
   (∀ i, i < h → listed.getD i false = false → ∀ t x, (some t, x) ∈ ws → t ∉ (hd.getD i default).rd ∧ (hd.getD i default).d ≠ some t) →
   St B X w0 ρ0 n0 n (wr ws (ED hd xs e (fun j => listed.getD j false) h)) H a w → wpAnyIn (WR r) m0 P .any ops Q fuel listed a w := by
  intro fuel ws H a w listed hf hsz ht1 ht2 ht3 hc hK hx hw hst
  refine mixed_sound (p1 := p1) (p := p2) hE hD (by omega) h1 (by omega) hlen hget hQ fuel p2 post ws H a w listed (Nat.le_refl _) h3 hf hsz (fun j hj1 hj2 => ?_) hc hpost (by simpa using hK [] (List.Perm.refl _)) hx hw hst
  by_cases hj : j < p1
  ·rw [ht1 j hj1 hj]; simp; omega
  ·by_cases hj3 : j < p2
   ·cases hb : listed.getD j true with
    | true => simp [hj3]
    | false => have := (ht2 j (by omega) hj3).1 hb; simp at this
   ·rw [ht3 j (by omega) hj2]; simp; omega
 have hopen : ∀ (k : Nat) (rm : List Nat) (listed : Array Bool), h ≤ k → k ≤ p1 → (∀ j, h ≤ j → j < p1 → listed.getD j true = decide (j < k)) → (∀ j, p1 ≤ j → j < p2 → (listed.getD j true = false ↔ j ∈ rm)) → (∀ j ∈ rm, p1 ≤ j ∧ j < p2) → ¬ (k = p1 ∧ rm = []) →
   ∃ q, h ≤ q ∧ q < p2 ∧ listed.getD q true = false ∧ (q < p1 → q = k) := by
  intro k rm listed hk hk1 ht1 ht2 hrm hn
  by_cases hkp : k < p1
  ·exact ⟨k, hk, by omega, by rw [ht1 k hk hkp]; simp, fun _ => rfl⟩
  ·have : rm ≠ [] := fun h0 => hn ⟨by omega, h0⟩
   obtain ⟨q, l, rfl⟩ := List.exists_cons_of_ne_nil this
   have hq := hrm q (by simp)
   exact ⟨q, by omega, hq.2, (ht2 q hq.1 hq.2).2 (by simp), fun hh => by omega⟩
 intro fuel
 induction fuel with
 | zero =>
  intro k rm ws H a w listed hk hk1 hf hsz ht1 ht2 ht3 hrm hnd hc hK hx hw hst
  by_cases hdone : k = p1 ∧ rm = []
  ·obtain ⟨rfl, rfl⟩ := hdone
   exact hend 0 ws H a w listed hf hsz ht1 ht2 ht3 hc hK hx hw hst
  ·obtain ⟨q, g1, g2, g3, _⟩ := hopen k rm listed hk hk1 ht1 ht2 hrm hdone
   have := zCE g3 ops.size (by omega)
   omega
 | succ fuel ih =>
  intro k rm ws H a w listed hk hk1 hf hsz ht1 ht2 ht3 hrm hnd hc hK hx hw hst
  by_cases hdone : k = p1 ∧ rm = []
  ·obtain ⟨rfl, rfl⟩ := hdone
   exact hend (fuel + 1) ws H a w listed hf hsz ht1 ht2 ht3 hc hK hx hw hst
  ·obtain ⟨q, q1, q2, q3, q4⟩ := hopen k rm listed hk hk1 ht1 ht2 hrm hdone
   obtain ⟨i0, hi0, hi0u, hi0l⟩ := zCh ⟨q, (show q < ops.size by omega), q3⟩
   have hr0 : i0 ∈ Region.ready .any ops listed := zBZ hE (by omega) hi0u fun j hj => by rw [zT (by omega)]; exact hi0l j hj
   refine ⟨fun h0 => by rw [h0] at hr0; simp at hr0, fun i hi => ?_⟩
   obtain ⟨hiu, oi, hoi, hiall⟩ := mem_ready.1 hi
   have his : i < ops.size := (Array.getElem?_eq_some_iff.1 hoi).1
   have hidf : listed.getD i false = false := by rw [zT (by omega)]; exact hiu
   have hcf1 : ∀ a b : LO, ∀ t, a.d = some t → t ∈ b.rd → zAe a b = true := by
    intro a b t h1 h2
    cases hb : zAe a b with
    | true => rfl
    | false => exact absurd h2 ((zAV hb).1 t h1)
   have hcf2 : ∀ a b : LO, ∀ t, b.d = some t → t ∈ a.rd → zAe a b = true := by
    intro a b t h1 h2
    cases hb : zAe a b with
    | true => rfl
    | false => exact absurd h2 ((zAV hb).2.1 t h1)
   have hcf3 : ∀ a b : LO, ∀ t, a.d = some t → b.d = some t → zAe a b = true := by
    intro a b t h1 h2
    cases hb : zAe a b with
    | true => rfl
    | false => exact absurd h2 ((zAV hb).2.2 t h1)
   have hcount : fuel = left (listed.setIfInBounds i true) ops.size := by
    have := zCD hiu ops.size
    rw [if_pos his] at this
    omega
   by_cases hih : i < h
   ·
    have hbef : ∀ j, j < i → zAe (hd.getD j default) (hd.getD i default) = true → listed.getD j false = true := by
     intro j hj hcf
     rcases hD j i his hj with g6 | g6 | g6 | g6
     ·exact zK hc i oi j hoi g6 hiall
     ·rw [g6.2] at hcf; cases hcf
     ·omega
     ·omega
    have hbeh : ∀ j, i < j → j < h → zAe (hd.getD i default) (hd.getD j default) = true → listed.getD j false = false := by
     intro j hj hjh hcf
     rcases hD i j (show j < ops.size by omega) hj with g6 | g6 | g6 | g6
     ·cases hb : listed.getD j false with
      | false => rfl
      | true =>
       obtain ⟨oj, hoj⟩ : ∃ oj, ops[j]? = some oj := ⟨ops[j]'(by omega), by simp [show j < ops.size by omega]⟩
       have := zK hc j oj i hoj g6 (hc j oj hoj hb)
       rw [hidf] at this
       cases this
     ·rw [g6.2] at hcf; cases hcf
     ·omega
     ·omega
    have hwi := hw i hih hidf
    have hA : ∀ t ∈ (hd.getD i default).rd, ED hd xs e (fun _ => true) i t = wr ws (ED hd xs e (fun j => listed.getD j false) h) t := by
     intro t htr
     rw [wr_ne ws _ fun x hx => (hwi t x hx).1 htr, zAS (i := i) h (by omega) fun j h1 h2 h3 => by
      by_cases hji : j = i
      ·rw [hji]; exact hidf
      ·exact hbeh j (by omega) h2 (hcf2 _ _ t h3 htr)]
     exact zAg i fun j h1 h2 => (hbef j h1 (hcf1 _ _ t h2 htr)).symm
    have hB0 : ups (ED hd xs e (fun j => listed.getD j false) h) (hd.getD i default).d (xs i) = ED hd xs e (fun j => (listed.setIfInBounds i true).getD j false) h := by
     funext t
     by_cases hdt : (hd.getD i default).d = some t
     ·rw [zAS (i := i + 1) h (by omega) fun j h1 h2 h3 => by
       rw [zS, if_neg (by omega)]
       exact hbeh j (by omega) h2 (hcf3 _ _ t hdt h3)]
      rw [hdt, zAT]
      have hset : (listed.setIfInBounds i true).getD i false = true := by rw [zS, if_pos ⟨rfl, by omega⟩]
      simp only [ED]
      rw [if_pos hset, hdt, zAT]
     ·rw [zBi hdt]
      exact zAg h fun j h1 h2 => by
       rw [zS, if_neg]
       rintro ⟨rfl, _⟩
       exact hdt h2
    have hB : ups (wr ws (ED hd xs e (fun j => listed.getD j false) h)) (hd.getD i default).d (xs i) = wr ws (ED hd xs e (fun j => (listed.setIfInBounds i true).getD j false) h) := by
     rw [wr_ups ws _ fun t ht x hx => (hwi t x hx).2 ht, hB0]
    have hstep := zA8 hA (hx i hih hidf)
    obtain ⟨imm, hlow⟩ := hget i oi hih hoi
    have hone : zAu P [hd.getD i default] (wr ws (ED hd xs e (fun j => listed.getD j false) h)) H fun e' H' => e' = wr ws (ED hd xs e (fun j => (listed.setIfInBounds i true).getD j false) h) ∧ H' = H := by
     refine zBW ?_
     rcases hstep with ⟨g1, g2⟩ | ⟨g1, g2⟩
     ·refine .inl ⟨g1, ?_⟩
      have := zBX g2
      simp only [zAu]
      refine zBq this ?_
      rintro y H' ⟨rfl, rfl⟩
      exact ⟨hB, rfl⟩
     ·refine .inr ⟨g1, ?_⟩
      rw [← g2]
      exact ⟨hB, rfl⟩
    have hnx := zA9 (r := r) (m0 := m0) hlow hone hst (next := wpAnyIn (WR r) m0 P .any ops Q fuel (listed.setIfInBounds i true)) (Q := Q) fun e'' H'' a'' w'' hK'' hs'' => by
     obtain ⟨rfl, rfl⟩ := hK''
     have hsub : ∀ j, j < h → (listed.setIfInBounds i true).getD j false = false → listed.getD j false = false := fun j hj hl => by
      rw [zS] at hl
      split at hl
      ·cases hl
      ·exact hl
     exact ih k rm ws _ a'' w'' _ hk hk1 hcount (by simpa using hsz) (fun j g1 g2 => by rw [zS, if_neg (by omega)]; exact ht1 j g1 g2) (fun j g1 g2 => by rw [zS, if_neg (by omega)]; exact ht2 j g1 g2) (fun j g1 g2 => by rw [zS, if_neg (by omega)]; exact ht3 j g1 g2) hrm hnd (hc.set hi) hK (fun j hj hl => hx j hj (hsub j hj hl)) (fun j hj hl => hw j hj (hsub j hj hl)) hs''
    unfold wpOpIn
    rw [hoi]
    simp only
    exact hnx
   ·
    have hqf : listed.getD q false = false := by rw [zT (by omega)]; exact q3
    have hip : i < p2 := by
     refine Classical.byContradiction fun hge => ?_
     rcases hD q i his (by omega) with g | g | g | g
     ·have := zK hc i oi q hoi g hiall
      rw [hqf] at this; cases this
     ·omega
     ·omega
     ·omega
    have hkq : k < p1 → i = k := by
     intro hkp
     have hkf : listed.getD k false = false := by rw [zT (by omega), ht1 k hk hkp]; simp
     have hik : k ≤ i := by
      by_cases hi1 : i < p1
      ·have := ht1 i (by omega) hi1
       rw [hiu] at this
       have := this.symm
       simp at this
       exact this
      ·omega
     refine Classical.byContradiction fun hne => ?_
     rcases hD k i his (by omega) with g | g | g | g
     ·have := zK hc i oi k hoi g hiall
      rw [hkf] at this; cases this
     ·omega
     ·omega
     ·omega
    obtain ⟨tg, tlow, tf, ti⟩ := hT i (by omega) hip
    have hlow := tlow oi hoi
    generalize hlo : zAx P n hs reg ops i = lo at tg tf ti hlow
    have hfr : ∀ j, j < h → listed.getD j false = false → zAi hs reg i = [] ∧ quietK (hd.getD j default).op = true ∧ zAe (hd.getD j default) lo = false ∧ comm (hd.getD j default).op lo.op = true := by
     intro j hj hl
     rw [← hlo]
     rcases hD j i his (by omega) with g | g | g | g
     ·have := zK hc i oi j hoi g hiall
      rw [hl] at this
      cases this
     ·omega
     ·exact g.2.2
     ·omega
    have hdet : det lo.op = true := by
     by_cases hi1 : i < p1
     ·simp [det, tf hi1]
     ·simp [det, (ti (by omega)).1]
    have hR : ∀ t ∈ lo.rd, wr ws (ED hd xs e (fun _ => true) h) t = wr ws (ED hd xs e (fun j => listed.getD j false) h) t := by
     intro t htr
     have : ∀ (l : List (Option Nat × AV)) (e1 e2 : Env), e1 t = e2 t → wr l e1 t = wr l e2 t := by
      intro l
      induction l with
      | nil => intro e1 e2 h; exact h
      | cons p l ihl =>
       intro e1 e2 h
       obtain ⟨d, x⟩ := p
       refine ihl _ _ ?_
       by_cases hdt : d = some t
       ·rw [hdt, zAT, zAT]
       ·rw [zBi hdt, zBi hdt]; exact h
     refine this ws _ _ (zAg h fun j hj hdj => ?_)
     cases hb : listed.getD j false with
     | true => rfl
     | false =>
      have := (zAV (hfr j hj hb).2.2.1).1 t hdj
      exact absurd htr this
    have hares : zAZ lo.op (wr ws (ED hd xs e (fun _ => true) h)) H = zAZ lo.op (wr ws (ED hd xs e (fun j => listed.getD j false) h)) H := ares_congr fun t ht => hR t (by simp [LO.rd, ht])
    have go : ∀ (k' : Nat) (rm' : List Nat), rm'.Nodup → h ≤ k' → k' ≤ p1 → (∀ j, h ≤ j → j < p1 → (listed.setIfInBounds i true).getD j true = decide (j < k')) → (∀ j, p1 ≤ j → j < p2 → ((listed.setIfInBounds i true).getD j true = false ↔ j ∈ rm')) → (∀ j ∈ rm', p1 ≤ j ∧ j < p2) →
      (∀ σ : List Nat, σ.Perm rm' → zAu P (lo :: ((List.range' k' (p1 - k')).map (zAx P n hs reg ops) ++ σ.map (zAx P n hs reg ops) ++ post)) (wr ws (ED hd xs e (fun _ => true) h)) H K) →
      wpOpIn (WR r) m0 P ops Q i (wpAnyIn (WR r) m0 P .any ops Q fuel (listed.setIfInBounds i true)) a w := by
     intro k' rm' hnd' hk' hk1' ht1' ht2' hrm' hK'
     have hK2 : ∀ σ : List Nat, σ.Perm rm' → (zAZ lo.op (wr ws (ED hd xs e (fun _ => true) h)) H).ok ∧ zAu P ((List.range' k' (p1 - k')).map (zAx P n hs reg ops) ++ σ.map (zAx P n hs reg ops) ++ post) (ups (wr ws (ED hd xs e (fun _ => true) h)) lo.d (zAZ lo.op (wr ws (ED hd xs e (fun _ => true) h)) H).x) (zAZ lo.op (wr ws (ED hd xs e (fun _ => true) h)) H).H K := by
      intro σ hσ
      have := hK' σ hσ
      simp only [zAu, tg] at this
      rwa [det_aop hdet] at this
     have hok := (hK2 rm' (List.Perm.refl _)).1
     have hone : zAu P [lo] (wr ws (ED hd xs e (fun j => listed.getD j false) h)) H fun e' H' => e' = ups (wr ws (ED hd xs e (fun j => listed.getD j false) h)) lo.d (zAZ lo.op (wr ws (ED hd xs e (fun _ => true) h)) H).x ∧ H' = (zAZ lo.op (wr ws (ED hd xs e (fun _ => true) h)) H).H := by
      simp only [zAu, tg]
      rw [det_aop hdet, ← hares]
      exact ⟨hok, rfl, rfl⟩
     have hnx := zA9 (r := r) (m0 := m0) hlow hone hst (next := wpAnyIn (WR r) m0 P .any ops Q fuel (listed.setIfInBounds i true)) (Q := Q) fun e'' H'' a'' w'' hK'' hs'' => by
      obtain ⟨rfl, rfl⟩ := hK''
      have hsame : ∀ j, j < h → (listed.setIfInBounds i true).getD j false = listed.getD j false := fun j hj => by rw [zS, if_neg (by omega)]
      have hED : ED hd xs e (fun j => (listed.setIfInBounds i true).getD j false) h = ED hd xs e (fun j => listed.getD j false) h := by
       funext t
       exact zAg h fun j hj _ => hsame j hj
      refine ih k' rm' (ws ++ [(lo.d, (zAZ lo.op (wr ws (ED hd xs e (fun _ => true) h)) H).x)]) _ a'' w'' _ hk' hk1' hcount (by simpa using hsz) ht1' ht2' (fun j g1 g2 => by rw [zS, if_neg (by omega)]; exact ht3 j g1 g2) hrm' hnd' (hc.set hi) (fun σ hσ => by rw [zCn]; exact (hK2 σ hσ).2) (fun j hj hl => ?_) (fun j hj hl t y hy => ?_) (by rw [zCn, hED]; exact hs'')
      ·rw [hsame j hj] at hl
       exact comm_keeps (hfr j hj hl).2.1 (hfr j hj hl).2.2.2 (fun _ => rfl) hok (hx j hj hl)
      ·rw [hsame j hj] at hl
       rcases List.mem_append.1 hy with hy | hy
       ·exact hw j hj hl t y hy
       ·simp only [List.mem_singleton, Prod.mk.injEq] at hy
        have hcf := zAV (hfr j hj hl).2.2.1
        exact ⟨hcf.2.1 t hy.1.symm, fun hdj => hcf.2.2 t hdj hy.1.symm⟩
     unfold wpOpIn
     rw [hoi]
     simp only
     exact hnx
    by_cases hi1 : i < p1
    ·have hkp : k < p1 := by
      refine Classical.byContradiction fun hge => ?_
      have := ht1 i (by omega) hi1
      rw [hiu] at this
      have := this.symm
      simp at this
      omega
     obtain rfl := hkq hkp
     refine go (i + 1) rm hnd (by omega) (by omega) (fun j g1 g2 => ?_) (fun j g1 g2 => by rw [zS, if_neg (by omega)]; exact ht2 j g1 g2) hrm fun σ hσ => ?_
     ·rw [zS]
      by_cases hji : j = i
      ·rw [if_pos ⟨hji, by omega⟩]; simp; omega
      ·rw [if_neg fun hh => hji hh.1, ht1 j g1 g2]
       have : (j < i) = (j < i + 1) := by simp; omega
       simp only [this]
     ·have := hK σ hσ
      rw [show p1 - i = (p1 - (i + 1)) + 1 by omega, List.range'_succ, List.map_cons, hlo] at this
      simpa using this
    ·have hkp : k = p1 := by
      refine Classical.byContradiction fun hne => ?_
      have := hkq (by omega)
      omega
     subst hkp
     have him : i ∈ rm := (ht2 i (by omega) hip).1 hiu
     refine go k (rm.filter (· != i)) (hnd.filter _) hk (Nat.le_refl _) (fun j g1 g2 => by rw [zS, if_neg (by omega)]; exact ht1 j g1 g2) (fun j g1 g2 => ?_) (fun j hj => hrm j (List.mem_filter.1 hj).1) fun σ hσ => ?_
     ·rw [zS, List.mem_filter]
      by_cases hji : j = i
      ·rw [if_pos ⟨hji, by omega⟩]; simp [hji]
      ·rw [if_neg fun hh => hji hh.1, ht2 j g1 g2]; simp [hji]
     ·have hp : (i :: σ).Perm rm := by
       refine ((List.Perm.cons i hσ).trans ?_)
       exact perm_filter_ne him (hnd)
      have := hK (i :: σ) hp
      rw [List.map_cons, hlo] at this
      simpa using this
theorem draw_sound3 {r : Option Nat} {m0 : Nat} {hs : List Hn} {id h p1 p2 : Nat} {post : List LO} {K : Env → zC → Prop} {Q : Exit → Act → World → Prop} (hhd : lowHd P n hs id ops 0 (ops.toList.take h) = some hd) (hpost : zBk P n hs id ops p2 (ops.toList.drop p2) = some post)
  (hD : drawOk3 P n hs id ops hd h p1 p2 = true) (hE : zAp ops = true) (q1 : h ≤ p1) (q2 : p1 ≤ p2) (q3 : p2 ≤ ops.size)
  (hK : zAJ P hd e H fun e' => ∀ σ : List LO, σ.Perm ((List.range' p1 (p2 - p1)).map (zAx P n hs id ops)) → zAu P ((List.range' h (p1 - h)).map (zAx P n hs id ops) ++ σ ++ post) e' H K) (hst : St B X w0 ρ0 n0 n e H a w)
  (hQ : ∀ e' H' a' w', K e' H' → St B X w0 ρ0 n0 n e' H' a' w' → Q .normal a' w') : wpAnyIn (WR r) m0 P .any ops Q ops.size (Array.replicate ops.size false) a { w with drawn := w.drawn + 1 } := by
 obtain ⟨g1, g2⟩ := lowHd_get _ _ _ hhd
 have hlen : hd.length = h := by rw [g1]; simp; omega
 obtain ⟨xs, g3, g4⟩ := zBC hd hK
 rw [hlen] at g3 g4
 obtain ⟨d1, d2⟩ := drawOk3_pr hD
 have h0 : ∀ j, (Array.replicate ops.size false).getD j false = false := fun j => getD_replicate_false _ _
 have h1 : ∀ j, j < ops.size → (Array.replicate ops.size false).getD j true = false := fun j hj => by rw [← zT (by simpa using hj)]; exact h0 j
 refine many_sound hE d1 d2 q1 q2 q3 hlen (fun k o hk ho => g2 k o ?_) hpost hQ ops.size h (List.range' p1 (p2 - p1)) [] H a _ _ (Nat.le_refl _) q1 ?_ (by simp) (fun j h2 hj => ?_) (fun j h2 hj => ?_) (fun j h2 hj => h1 j hj) (fun j hj => ?_) List.nodup_range' ?_ (fun σ hσ => g3 _ (hσ.map _)) (fun i hi _ => g4 i hi) (fun i _ _ t x hx => by simp at hx) ?_
 ·rw [List.getElem?_take, if_pos hk]; simpa using ho
 ·have := zBt (listed := Array.replicate ops.size false) (h := 0) ops.size fun j hj => by rw [h1 j hj]; simp
  omega
 ·rw [h1 j (by omega)]; simp; omega
 ·rw [h1 j (by omega)]; simp [List.mem_range']; exact ⟨j - p1, by omega, by omega⟩
 ·obtain ⟨i, hi, rfl⟩ := List.mem_range'.1 hj; omega
 ·intro j oj hj hl
  rw [h0 j] at hl
  cases hl
 ·have : ED hd xs e (fun j => (Array.replicate ops.size false).getD j false) h = e := by
   funext t
   rw [zAS (i := 0) h (Nat.zero_le _) fun j _ _ _ => h0 j]
   rfl
  show St B X w0 ρ0 n0 n (ED hd xs e (fun j => (Array.replicate ops.size false).getD j false) h) H a _
  rw [this]
  exact hst.still ⟨rfl, rfl, rfl, Nat.le_refl _⟩ rfl
end
section
variable {B : DB} {P : Program} {w w0 : World} {X : Nat → Prop} {ρ ρ0 : Nat → Loc} {H H' ext : zC} {e e1 : Env} {a : Act} {n n0 : Nat}
variable {ops : Array Oper} {hd : List LO} {xs : Nat → AV} {T : List Nat} {hs : List Hn} {reg : Nat}
theorem hdA_get {i : Nat} (hi : i < ops.size) : (hdA P n hs reg ops T).getD i default = if T.contains i then noopA else zAx P n hs reg ops i := by
 simp [hdA, List.getD_eq_getElem?_getD, hi]
theorem tlA_skip {q i : Nat} (h : q ≤ i) (hn : ∀ j, q ≤ j → j < i → T.contains j = false) : tlA P n hs reg ops T q = tlA P n hs reg ops T i := by
 induction i with
 | zero => rw [show q = 0 by omega]
 | succ i ih =>
  by_cases hq : q = i + 1
  ·rw [hq]
  ·rw [ih (by omega) fun j a b => hn j a (by omega)]
   unfold tlA
   by_cases hi : i < ops.size
   ·rw [show ops.size - i = (ops.size - (i + 1)) + 1 by omega, List.range'_succ, List.filter_cons_of_neg (by rw [hn i (by omega) (by omega)]; simp)]
   ·rw [show ops.size - i = 0 by omega, show ops.size - (i + 1) = 0 by omega]
    simp
theorem tlA_cons {i : Nat} (hi : i < ops.size) (hT : T.contains i = true) : tlA P n hs reg ops T i = prA P n hs reg ops T i :: tlA P n hs reg ops T (i + 1) := by
 unfold tlA
 rw [show ops.size - i = (ops.size - (i + 1)) + 1 by omega, List.range'_succ, List.filter_cons_of_pos hT, List.map_cons]
theorem zCm {x : LO} : zAe noopA x = false ∧ zAe x noopA = false := by
 cases hx : x.d <;> simp [zAe, noopA, memO, LO.rd, LOp.rd, LX.rd, hx]
structure OkA (P : Program) (n : Nat) (hs : List Hn) (reg : Nat) (ops : Array Oper) (T : List Nat) (hd : List LO) : Prop where
 low : ∀ i o, ops[i]? = some o → ∃ imm, zAE P n imm ops o = some (zAx P n hs reg ops i)
 hh : ∀ i j, j < ops.size → i < j → T.contains i = false → T.contains j = false → ((Region.before ops).getD j 0).testBit i = true ∨ zAe (hd.getD i default) (hd.getD j default) = false
 tt : ∀ i j, j < ops.size → i < j → T.contains i = true → T.contains j = true → ((Region.before ops).getD j 0).testBit i = true
 ht : ∀ i j, j < ops.size → i < ops.size → T.contains i = false → T.contains j = true → ((Region.before ops).getD j 0).testBit i = true ∨ zAe (hd.getD i default) (zAx P n hs reg ops j) = false
 sa : ∀ j, j < ops.size → T.contains j = false → zBe (hd.getD j default).op = true ∨ ssaA hd j = true
theorem drawOkA_ok (h : zCJ P n hs reg ops T = true) : OkA P n hs reg ops T (hdA P n hs reg ops T) := by
 unfold zCJ at h
 simp only [Bool.and_eq_true] at h
 obtain ⟨⟨h1, h2⟩, h3⟩ := h
 have g : ∀ i j, j < ops.size → i < j → _ := fun i j hj hi => List.all_eq_true.1 (List.all_eq_true.1 h2 j (List.mem_range.2 hj)) i (List.mem_range.2 hi)
 refine ⟨fun i o ho => ?_, fun i j hj hi a b => ?_, fun i j hj hi a b => ?_, fun i j hj hi a b => ?_, fun j hj a => ?_⟩
 ·have hi := (Array.getElem?_eq_some_iff.1 ho).1
  have := List.all_eq_true.1 h1 i (List.mem_range.2 hi)
  rw [ho] at this
  simp only [Option.map_some, beq_iff_eq, Option.some.injEq, Bool.and_eq_true] at this
  refine ⟨zA3 hs reg i, ?_⟩
  unfold zAx
  rw [ho]
  simp only
  cases hl : zAE P n (zA3 hs reg i) ops o with
  | none => rw [hl] at this; simp at this
  | some lo => rfl
 ·have := g i j hj hi
  rw [a, b] at this
  simpa using this
 ·have := g i j hj hi
  rw [a, b] at this
  simpa using this
 ·rcases Nat.lt_trichotomy i j with hij | hij | hij
  ·have := g i j hj hij
   rw [a, b] at this
   simpa using this
  ·subst hij; rw [a] at b; cases b
  ·have := g j i hi hij
   rw [a, b] at this
   exact .inr (by simpa using this)
 ·have := List.all_eq_true.1 h3 j (List.mem_range.2 hj)
  rw [a] at this
  simpa using this
theorem ssa_rd {j : Nat} (h : ssaA hd j = true) (hj : j < hd.length) : (∀ t ∈ (hd.getD j default).rd, ED hd xs e (fun _ => true) hd.length t = ED hd xs e (fun _ => true) j t) ∧ ∃ t, (hd.getD j default).d = some t ∧ ED hd xs e (fun _ => true) hd.length t = xs j := by
 unfold ssaA at h
 simp only [Bool.and_eq_true, List.all_eq_true, List.mem_range, Bool.or_eq_true, decide_eq_true_eq, Bool.not_eq_true', Bool.and_eq_false_iff] at h
 obtain ⟨h1, h2⟩ := h
 obtain ⟨t, ht⟩ := Option.isSome_iff_exists.1 h1
 have nw : ∀ k, j ≤ k → k < hd.length → ∀ u ∈ (hd.getD j default).rd, (hd.getD k default).d ≠ some u := by
  intro k hk hkl u hu hd'
  rcases h2 k hkl with g | g
  ·omega
  ·have := memO_some (by rw [← hd']; exact g.1)
   exact this hu
 refine ⟨fun u hu => ?_, t, ht, ?_⟩
 ·exact zAS (i := j) hd.length (by omega) fun k a b c => absurd c (nw k a b u hu)
 ·rw [zAS (i := j + 1) hd.length (by omega) fun k a b c => ?_]
  ·simp only [ED, if_true]
   rw [ht, zAT]
  ·rcases h2 k b with g | g
   ·omega
   ·rcases g.2 with g2 | g2
    ·omega
    ·rw [c, ht] at g2
     simp at g2
theorem any_sound {r : Option Nat} {m0 : Nat} {K : Env → zC → Prop} {Q : Exit → Act → World → Prop} (hE : zAp ops = true) (hD : OkA P n hs reg ops T hd) (hlen : hd.length = ops.size) (hhd : hd = hdA P n hs reg ops T)
  (he1 : e1 = ED hd xs e (fun _ => true) ops.size)
  (hQ : ∀ e' H' a' w', K e' H' → St B X w0 ρ0 n0 n e' H' a' w' → Q .normal a' w') :
  ∀ (fuel q : Nat) (ws : List (Option Nat × AV)) (H : zC) (a : Act) (w : World) (listed : Array Bool), q ≤ ops.size → fuel = left listed ops.size → listed.size = ops.size →
   (∀ j, j < ops.size → T.contains j = true → listed.getD j true = decide (j < q)) → Closed ops listed → zCZ P hd e1 (tlA P n hs reg ops T q) (wr ws e1) H K →
   (∀ i, i < ops.size → T.contains i = false → listed.getD i false = false → zCF P (hd.getD i default) (ED hd xs e (fun _ => true) i) H (xs i)) →
   (∀ i, i < ops.size → T.contains i = false → listed.getD i false = false → ∀ t x, (some t, x) ∈ ws → t ∉ (hd.getD i default).rd ∧ (hd.getD i default).d ≠ some t) →
   St B X w0 ρ0 n0 n (wr ws (ED hd xs e (fun j => listed.getD j false) ops.size)) H a w → wpAnyIn (WR r) m0 P .any ops Q fuel listed a w := by
 have hcf1 : ∀ a b : LO, ∀ t, a.d = some t → t ∈ b.rd → zAe a b = true := by
  intro a b t h1 h2
  cases hb : zAe a b with
  | true => rfl
  | false => exact absurd h2 ((zAV hb).1 t h1)
 have hcf2 : ∀ a b : LO, ∀ t, b.d = some t → t ∈ a.rd → zAe a b = true := by
  intro a b t h1 h2
  cases hb : zAe a b with
  | true => rfl
  | false => exact absurd h2 ((zAV hb).2.1 t h1)
 have hcf3 : ∀ a b : LO, ∀ t, a.d = some t → b.d = some t → zAe a b = true := by
  intro a b t h1 h2
  cases hb : zAe a b with
  | true => rfl
  | false => exact absurd h2 ((zAV hb).2.2 t h1)
 have hnoop : ∀ j, j < ops.size → T.contains j = true → hd.getD j default = noopA := by
  intro j hj hT
  rw [hhd, hdA_get hj, if_pos hT]
 intro fuel
 induction fuel with
 | zero =>
  intro q ws H a w listed hq hf hsz ht hc hK hx hw hst
  have hall : ∀ j, j < ops.size → listed.getD j true = true := by
   intro j hj
   cases hb : listed.getD j true with
   | true => rfl
   | false => have := zCE hb ops.size hj; omega
  have hE' : ED hd xs e (fun j => listed.getD j false) ops.size = e1 := by
   rw [he1]
   funext t
   exact zAg ops.size fun j hj _ => by rw [zT (by omega), hall j (by omega)]
  rw [hE'] at hst
  have hnil : tlA P n hs reg ops T q = [] := by
   rw [tlA_skip hq fun j a b => ?_]
   ·unfold tlA
    rw [Nat.sub_self]; rfl
   ·cases hT : T.contains j with
    | false => rfl
    | true =>
     have := ht j b hT
     rw [hall j b] at this
     simp at this
     omega
  rw [hnil] at hK
  refine ⟨List.eq_nil_iff_forall_not_mem.2 fun i hi => ?_, hQ _ _ _ _ hK hst⟩
  obtain ⟨h1, o, h2, _⟩ := mem_ready.1 hi
  rw [hall i (Array.getElem?_eq_some_iff.1 h2).1] at h1
  cases h1
 | succ fuel ih =>
  intro q ws H a w listed hq hf hsz ht hc hK hx hw hst
  have hun : ∃ i, i < ops.size ∧ listed.getD i true = false := by
   refine Classical.byContradiction fun hno => ?_
   have := zBt (listed := listed) (h := ops.size) ops.size fun j hj => by
    cases hb : listed.getD j true with
    | true => simp [hj]
    | false => exact absurd ⟨j, hj, hb⟩ hno
   omega
  obtain ⟨i0, hi0, hi0u, hi0l⟩ := zCh hun
  have hr0 : i0 ∈ Region.ready .any ops listed := zBZ hE (by omega) hi0u fun j hj => by rw [zT (by omega)]; exact hi0l j hj
  refine ⟨fun h0 => by rw [h0] at hr0; simp at hr0, fun i hi => ?_⟩
  obtain ⟨hiu, oi, hoi, hiall⟩ := mem_ready.1 hi
  have his : i < ops.size := (Array.getElem?_eq_some_iff.1 hoi).1
  have hidf : listed.getD i false = false := by rw [zT (by omega)]; exact hiu
  have hcount : fuel = left (listed.setIfInBounds i true) ops.size := by
   have := zCD hiu ops.size
   rw [if_pos his] at this
   omega
  obtain ⟨imm, hlow⟩ := hD.low i oi hoi
  by_cases hih : T.contains i = false
  ·
   have hgi : hd.getD i default = zAx P n hs reg ops i := by rw [hhd, hdA_get his, if_neg (by rw [hih]; simp)]
   rw [← hgi] at hlow
   have hbef : ∀ j, j < i → zAe (hd.getD j default) (hd.getD i default) = true → listed.getD j false = true := by
    intro j hj hcf
    cases hT : T.contains j with
    | true => rw [hnoop j (by omega) hT, zCm.1] at hcf; cases hcf
    | false =>
     rcases hD.hh j i his hj hT hih with g6 | g6
     ·exact zK hc i oi j hoi g6 hiall
     ·rw [g6] at hcf; cases hcf
   have hbeh : ∀ j, i < j → j < ops.size → zAe (hd.getD i default) (hd.getD j default) = true → listed.getD j false = false := by
    intro j hj hjh hcf
    cases hT : T.contains j with
    | true => rw [hnoop j hjh hT, zCm.2] at hcf; cases hcf
    | false =>
     rcases hD.hh i j hjh hj hih hT with g6 | g6
     ·cases hb : listed.getD j false with
      | false => rfl
      | true =>
       obtain ⟨oj, hoj⟩ : ∃ oj, ops[j]? = some oj := ⟨ops[j]'(by omega), by simp [show j < ops.size by omega]⟩
       have := zK hc j oj i hoj g6 (hc j oj hoj hb)
       rw [hidf] at this
       cases this
     ·rw [g6] at hcf; cases hcf
   have hwi := hw i his hih hidf
   have hA : ∀ t ∈ (hd.getD i default).rd, ED hd xs e (fun _ => true) i t = wr ws (ED hd xs e (fun j => listed.getD j false) ops.size) t := by
    intro t htr
    rw [wr_ne ws _ fun x hx => (hwi t x hx).1 htr, zAS (i := i) ops.size (by omega) fun j h1 h2 h3 => by
     by_cases hji : j = i
     ·rw [hji]; exact hidf
     ·exact hbeh j (by omega) h2 (hcf2 _ _ t h3 htr)]
    exact zAg i fun j h1 h2 => (hbef j h1 (hcf1 _ _ t h2 htr)).symm
   have hB0 : ups (ED hd xs e (fun j => listed.getD j false) ops.size) (hd.getD i default).d (xs i) = ED hd xs e (fun j => (listed.setIfInBounds i true).getD j false) ops.size := by
    funext t
    by_cases hdt : (hd.getD i default).d = some t
    ·rw [zAS (i := i + 1) ops.size (by omega) fun j h1 h2 h3 => by
      rw [zS, if_neg (by omega)]
      exact hbeh j (by omega) h2 (hcf3 _ _ t hdt h3)]
     rw [hdt, zAT]
     have hset : (listed.setIfInBounds i true).getD i false = true := by rw [zS, if_pos ⟨rfl, by omega⟩]
     simp only [ED]
     rw [if_pos hset, hdt, zAT]
    ·rw [zBi hdt]
     exact zAg ops.size fun j h1 h2 => by
      rw [zS, if_neg]
      rintro ⟨rfl, _⟩
      exact hdt h2
   have hB : ups (wr ws (ED hd xs e (fun j => listed.getD j false) ops.size)) (hd.getD i default).d (xs i) = wr ws (ED hd xs e (fun j => (listed.setIfInBounds i true).getD j false) ops.size) := by
    rw [wr_ups ws _ fun t ht x hx => (hwi t x hx).2 ht, hB0]
   have hstep := zA8 hA (hx i his hih hidf)
   have hone : zAu P [hd.getD i default] (wr ws (ED hd xs e (fun j => listed.getD j false) ops.size)) H fun e' H' => e' = wr ws (ED hd xs e (fun j => (listed.setIfInBounds i true).getD j false) ops.size) ∧ H' = H := by
    refine zBW ?_
    rcases hstep with ⟨g1, g2⟩ | ⟨g1, g2⟩
    ·refine .inl ⟨g1, ?_⟩
     have := zBX g2
     simp only [zAu]
     refine zBq this ?_
     rintro y H' ⟨rfl, rfl⟩
     exact ⟨hB, rfl⟩
    ·refine .inr ⟨g1, ?_⟩
     rw [← g2]
     exact ⟨hB, rfl⟩
   have hnx := zA9 (r := r) (m0 := m0) hlow hone hst (next := wpAnyIn (WR r) m0 P .any ops Q fuel (listed.setIfInBounds i true)) (Q := Q) fun e'' H'' a'' w'' hK'' hs'' => by
    obtain ⟨rfl, rfl⟩ := hK''
    have hsub : ∀ j, (listed.setIfInBounds i true).getD j false = false → listed.getD j false = false := fun j hl => by
     rw [zS] at hl
     split at hl
     ·cases hl
     ·exact hl
    refine ih q ws _ a'' w'' _ hq hcount (by simpa using hsz) (fun j h1 h2 => ?_) (hc.set hi) hK (fun j hj hT hl => hx j hj hT (hsub j hl)) (fun j hj hT hl => hw j hj hT (hsub j hl)) hs''
    rw [zS, if_neg]
    ·exact ht j h1 h2
    ·rintro ⟨rfl, _⟩
     rw [hih] at h2; cases h2
   unfold wpOpIn
   rw [hoi]
   simp only
   exact hnx
  ·
   have hiT : T.contains i = true := by simpa using hih
   have hqi : q ≤ i := by
    have g1 := ht i his hiT
    rw [hiu] at g1
    simpa using g1.symm
   have hno : ∀ j, q ≤ j → j < i → T.contains j = false := by
    intro j h1 h2
    cases hT : T.contains j with
    | false => rfl
    | true =>
     have g1 := zK hc i oi j hoi (hD.tt j i his h2 hT hiT) hiall
     rw [zT (by omega), ht j (by omega) hT] at g1
     simp at g1
     omega
   rw [tlA_skip hqi hno, tlA_cons his hiT] at hK
   generalize hlo : zAx P n hs reg ops i = lo at hlow
   have hpr : prA P n hs reg ops T i = (lo, zB7 hd T ((Region.before ops).getD i 0)) := by unfold prA; rw [hlo, hhd]
   rw [hpr] at hK
   have hK : zAu P [lo] (wr ws e1) H fun e' H' => zCR P hd e1 H' (zB7 hd T ((Region.before ops).getD i 0)) ∧ zCZ P hd e1 (tlA P n hs reg ops T (i + 1)) e' H' K := hK
   have hfr : ∀ j, j < ops.size → T.contains j = false → listed.getD j false = false → ((Region.before ops).getD i 0).testBit j = false ∧ zAe (hd.getD j default) lo = false := by
    intro j hj hT hl
    have hnb : ((Region.before ops).getD i 0).testBit j = false := by
     cases hb : ((Region.before ops).getD i 0).testBit j with
     | false => rfl
     | true =>
      have := zK hc i oi j hoi hb hiall
      rw [hl] at this
      cases this
    refine ⟨hnb, ?_⟩
    rcases hD.ht j i his hj hT hiT with g | g
    ·rw [hnb] at g; cases g
    ·rw [← hlo]; exact g
   have hR : ∀ t ∈ lo.rd, wr ws e1 t = wr ws (ED hd xs e (fun j => listed.getD j false) ops.size) t := by
    intro t htr
    have : ∀ (l : List (Option Nat × AV)) (e1 e2 : Env), e1 t = e2 t → wr l e1 t = wr l e2 t := by
     intro l
     induction l with
     | nil => intro e1 e2 h; exact h
     | cons p l ihl =>
      intro e1 e2 h
      obtain ⟨d, x⟩ := p
      refine ihl _ _ ?_
      by_cases hdt : d = some t
      ·rw [hdt, zAT, zAT]
      ·rw [zBi hdt, zBi hdt]; exact h
    refine this ws _ _ ?_
    rw [he1]
    refine zAg ops.size fun j hj hdj => ?_
    cases hb : listed.getD j false with
    | true => rfl
    | false =>
     cases hT : T.contains j with
     | true =>
      rw [hnoop j hj hT] at hdj
      cases hdj
     | false =>
      have := (zAV (hfr j hj hT hb).2).1 t hdj
      exact absurd htr this
   have hwant : zBf lo.g (wr ws e1) = zBf lo.g (wr ws (ED hd xs e (fun j => listed.getD j false) ops.size)) := zBP fun t want hg => hR t (by simp [LO.rd, hg])
   have hone : zAu P [lo] (wr ws (ED hd xs e (fun j => listed.getD j false) ops.size)) H fun e' H2 => ∃ x, e' = ups (wr ws (ED hd xs e (fun j => listed.getD j false) ops.size)) lo.d x ∧ zCR P hd e1 H2 (zB7 hd T ((Region.before ops).getD i 0)) ∧ zCZ P hd e1 (tlA P n hs reg ops T (i + 1)) (ups (wr ws e1) lo.d x) H2 K := by
    refine zBW ?_
    rcases zCb hK with ⟨g1, g2⟩ | ⟨g1, g2⟩
    ·refine .inl ⟨by rw [← hwant]; exact g1, ?_⟩
     have g3 := aop_congr (fun t ht => hR t (by simp [LO.rd, ht])) g2
     refine zBq g3 fun x H2 hx2 => ?_
     simp only [zAu] at hx2 ⊢
     exact ⟨x, rfl, hx2.1, hx2.2⟩
    ·refine .inr ⟨by rw [← hwant]; exact g1, ?_⟩
     simp only [zAu] at g2 ⊢
     exact ⟨zAs, rfl, g2.1, g2.2⟩
   have hnx := zA9 (r := r) (m0 := m0) hlow hone hst (next := wpAnyIn (WR r) m0 P .any ops Q fuel (listed.setIfInBounds i true)) (Q := Q) fun e'' H'' a'' w'' hK'' hs'' => by
    obtain ⟨x, rfl, hkp, hK2⟩ := hK''
    have hsame : ∀ j, j ≠ i → (listed.setIfInBounds i true).getD j false = listed.getD j false := fun j hj => by rw [zS, if_neg (by omega)]
    have hED : ED hd xs e (fun j => (listed.setIfInBounds i true).getD j false) ops.size = ED hd xs e (fun j => listed.getD j false) ops.size := by
     funext t
     refine zAg ops.size fun j hj hdj => hsame j ?_
     rintro rfl
     rw [hnoop j hj hiT] at hdj
     cases hdj
    have hne : ∀ j, T.contains j = false → j ≠ i := by
     rintro j hT rfl
     rw [hiT] at hT; cases hT
    refine ih (i + 1) (ws ++ [(lo.d, x)]) H'' a'' w'' _ (by omega) hcount (by simpa using hsz) (fun j hj1 hj2 => ?_) (hc.set hi) (by rw [zCn]; exact hK2) (fun j hj hT hl => ?_) (fun j hj hT hl t y hy => ?_) (by rw [zCn, hED]; exact hs'')
    ·rw [zS]
     by_cases hji : j = i
     ·rw [if_pos ⟨hji, by omega⟩]; simp; omega
     ·rw [if_neg fun hh => hji hh.1, ht j hj1 hj2]
      by_cases hjq : j < q
      ·simp [hjq]; omega
      ·simp [hjq]
       have : ¬ j < i := fun hlt => by rw [hno j (by omega) hlt] at hj2; cases hj2
       omega
    ·rw [hsame j (hne j hT)] at hl
     have hold := hx j hj hT hl
     rcases hD.sa j hj hT with g | g
     ·exact zCz g hold
     ·by_cases hhl : zBe (hd.getD j default).op = true
      ·exact zCz hhl hold
      ·have hmem : j ∈ zB7 hd T ((Region.before ops).getD i 0) := by
        unfold zB7
        simp only [List.mem_filter, List.mem_range, Bool.and_eq_true, Bool.not_eq_true']
        exact ⟨by omega, ⟨hT, by simpa using hhl⟩, (hfr j hj hT hl).1⟩
       obtain ⟨y, hy1, hy2⟩ := zCY (hkp j hmem)
       obtain ⟨s1, t, s2, s3⟩ := ssa_rd (xs := xs) (e := e) g (by omega)
       rw [hlen, ← he1] at s1 s3
       have hy2 : ups e1 (hd.getD j default).d y = e1 := hy2
       have hyx : y = xs j := by
        have := congrFun hy2 t
        rw [s2, zAT] at this
        rw [this, s3]
       rw [hyx] at hy1
       exact zA8 s1 hy1
    ·rw [hsame j (hne j hT)] at hl
     rcases List.mem_append.1 hy with hy | hy
     ·exact hw j hj hT hl t y hy
     ·simp only [List.mem_singleton, Prod.mk.injEq] at hy
      have hcf := zAV (hfr j hj hT hl).2
      exact ⟨hcf.2.1 t hy.1.symm, fun hdj => hcf.2.2 t hdj hy.1.symm⟩
   unfold wpOpIn
   rw [hoi]
   simp only
   exact hnx
theorem draw_soundA {r : Option Nat} {m0 : Nat} {K : Env → zC → Prop} {Q : Exit → Act → World → Prop} (hD : zCJ P n hs reg ops T = true) (hE : zAp ops = true) (hg : zCT n (zAi hs reg ops.size) = true)
  (hK : zAJ P (hdA P n hs reg ops T) e H fun e1 => zCZ P (hdA P n hs reg ops T) e1 (tlA P n hs reg ops T 0) e1 H fun e' H' => zAu P (zAi hs reg ops.size) e' H' K) (hst : St B X w0 ρ0 n0 n e H a w)
  (hQ : ∀ e' H' a' w', K e' H' → St B X w0 ρ0 n0 n e' H' a' w' → Q .normal a' w') : wpAnyIn (WR r) m0 P .any ops Q ops.size (Array.replicate ops.size false) a { w with drawn := w.drawn + 1 } := by
 have hlen : (hdA P n hs reg ops T).length = ops.size := by simp [hdA]
 obtain ⟨xs, g3, g4⟩ := zBC _ hK
 rw [hlen] at g3 g4
 have h0 : ∀ j, (Array.replicate ops.size false).getD j false = false := fun j => getD_replicate_false _ _
 have h1 : ∀ j, j < ops.size → (Array.replicate ops.size false).getD j true = false := fun j hj => by rw [← zT (by simpa using hj)]; exact h0 j
 refine any_sound (B := B) (X := X) (w0 := w0) (ρ0 := ρ0) (n0 := n0) hE (drawOkA_ok hD) hlen rfl rfl (K := fun e' H' => zAu P (zAi hs reg ops.size) e' H' K) (fun e' H' a' w' hk hs' => ?_) ops.size 0 [] H a _ _ (Nat.zero_le _) ?_ (by simp) (fun j hj _ => by rw [h1 j hj]; simp) (fun j oj hj hl => ?_) g3 (fun i hi _ _ => g4 i hi) (fun i _ _ _ t x hx => by simp at hx) ?_
 ·obtain ⟨e2, H2, k1, k2⟩ := zAn (zAi hs reg ops.size) (los := []) hg (by simpa using hk) hs'
  exact hQ _ _ _ _ k1 k2
 ·have := zBt (listed := Array.replicate ops.size false) (h := 0) ops.size fun j hj => by rw [h1 j hj]; simp
  omega
 ·rw [h0 j] at hl
  cases hl
 ·have : ED (hdA P n hs reg ops T) xs e (fun j => (Array.replicate ops.size false).getD j false) ops.size = e := by
   funext t
   rw [zAS (i := 0) ops.size (Nat.zero_le _) fun j _ _ _ => h0 j]
   rfl
  show St B X w0 ρ0 n0 n (ED _ xs e (fun j => (Array.replicate ops.size false).getD j false) ops.size) H a _
  rw [this]
  exact hst.still ⟨rfl, rfl, rfl, Nat.le_refl _⟩ rfl
end
section
variable {B : DB} {P : Program} {w w0 : World} {X : Nat → Prop} {ρ ρ0 : Nat → Loc} {H H' ext : zC} {e e1 em : Env} {a : Act} {n n0 : Nat}
variable {ops : Array Oper} {hd : List LO} {xs : Nat → AV} {T : List Nat} {hs : List Hn} {reg : Nat}
theorem acallx_mono {f : AV} {args : List AV} {K K' : AV → zC → Prop} {Z Z' : Value → zC → Prop} (h : acallx P f args H K Z) (hK : ∀ x H', K x H' → K' x H') (hZ : ∀ v H', Z v H' → Z' v H') : acallx P f args H K' Z' := by
 unfold acallx at h ⊢
 split at h
 ·exact ACallX.mono h hK hZ
 ·exact h.elim
theorem wantG_mono {g : Option (Nat × Bool)} {A A' C C' : Prop} (h : wantG g e A C) (hA : A → A') (hC : C → C') : wantG g e A' C' := by
 unfold wantG at h ⊢
 split at h
 ·exact hA h
 ·split at h
  ·split at h
   ·rename_i hb; rw [if_pos hb]; exact hA h
   ·rename_i hb; rw [if_neg hb]; exact hC h
  ·exact hC h
  ·exact h.elim
theorem wantG_congr {g : Option (Nat × Bool)} {e e' : Env} {A C : Prop} (hg : ∀ t want, g = some (t, want) → e t = e' t) (h : wantG g e A C) : wantG g e' A C := by
 unfold wantG at h ⊢
 cases g with
 | none => exact h
 | some p => obtain ⟨t, want⟩ := p; simp only at h ⊢; rw [← hg t want rfl]; exact h
theorem aTI_congr {c : Bool} {lo : LO} {e e' : Env} {G : Env → zC → Prop} {Z : Value → zC → Prop} (hR : ∀ t ∈ lo.rd, e t = e' t) (h : aTI P c lo e H G Z) :
  aTI P c lo e' H (fun e2 H2 => ∃ x, e2 = ups e' lo.d x ∧ G (ups e lo.d x) H2) Z := by
 have hgd : ∀ t want, lo.g = some (t, want) → e t = e' t := fun t want hg => hR t (by simp [LO.rd, hg])
 unfold aTI at h ⊢
 split at h
 ·rename_i f args hop
  rw [← zAd fun t ht => hR t (by simp [LO.rd, hop, LOp.rd, ht]), ← zCs fun t ht => hR t (by simp [LO.rd, hop, LOp.rd, ht])]
  exact wantG_congr hgd (wantG_mono h (fun h => acallx_mono h (fun x H' hx => ⟨x, rfl, hx⟩) fun _ _ hz => hz) fun h => ⟨zAs, rfl, h⟩)
 ·rename_i x hop
  rw [← zAd fun t ht => hR t (by simp [LO.rd, hop, LOp.rd, ht])]
  exact wantG_congr hgd (wantG_mono h id fun h => ⟨zAs, rfl, h⟩)
 ·refine zBW ?_
  have hw : zBf lo.g e = zBf lo.g e' := zBP hgd
  rcases zCb h with ⟨g1, g2⟩ | ⟨g1, g2⟩
  ·refine .inl ⟨by rw [← hw]; exact g1, ?_⟩
   have g3 := aop_congr (fun t ht => hR t (by simp [LO.rd, ht])) g2
   refine zBq g3 fun x H2 hx2 => ?_
   simp only [zAu] at hx2 ⊢
   exact ⟨x, rfl, hx2⟩
  ·refine .inr ⟨by rw [← hw]; exact g1, ?_⟩
   simp only [zAu] at g2 ⊢
   exact ⟨zAs, rfl, g2⟩
theorem tlX_skip {q i : Nat} (h : q ≤ i) (hn : ∀ j, q ≤ j → j < i → T.contains j = false) : tlX P n hs reg ops T q = tlX P n hs reg ops T i := by
 induction i with
 | zero => rw [show q = 0 by omega]
 | succ i ih =>
  by_cases hq : q = i + 1
  ·rw [hq]
  ·rw [ih (by omega) fun j a b => hn j a (by omega)]
   unfold tlX
   by_cases hi : i < ops.size
   ·rw [show ops.size - i = (ops.size - (i + 1)) + 1 by omega, List.range'_succ, List.filter_cons_of_neg (by rw [hn i (by omega) (by omega)]; simp)]
   ·rw [show ops.size - i = 0 by omega, show ops.size - (i + 1) = 0 by omega]
    simp
theorem tlX_cons {i : Nat} (hi : i < ops.size) (hT : T.contains i = true) : tlX P n hs reg ops T i = prX P n hs reg ops T i :: tlX P n hs reg ops T (i + 1) := by
 unfold tlX
 rw [show ops.size - i = (ops.size - (i + 1)) + 1 by omega, List.range'_succ, List.filter_cons_of_pos hT, List.map_cons]
theorem maskE_ok {l : List (Option Nat)} (t : Nat) : maskE e l t = .any ∨ (some t ∉ l ∧ maskE e l t = e t) := by
 unfold maskE
 by_cases h : l.contains (some t) = true
 ·rw [if_pos h]; exact .inl rfl
 ·rw [if_neg h]; exact .inr ⟨by simpa using h, rfl⟩
theorem St.weaken {e e' : Env} (h : St B X w0 ρ0 n0 n e H a w) (he : ∀ t, e' t = .any ∨ e' t = e t) : St B X w0 ρ0 n0 n e' H a w := by
 obtain ⟨h1, ρ, h2, h3, h4⟩ := h
 refine ⟨h1, ρ, h2, fun t ht => ?_, h4⟩
 rcases he t with g | g
 ·rw [g]; exact .any _ _
 ·rw [g]; exact h3 t ht
theorem any_soundX {r : Option Nat} {m0 : Nat} {ds : List (Option Nat)} {K : Env → zC → Prop} {Z : Value → zC → Prop} {Q : Exit → Act → World → Prop} (hE : zAp ops = true) (hD : OkA P n hs reg ops T hd) (hlen : hd.length = ops.size) (hhd : hd = hdA P n hs reg ops T)
  (he1 : e1 = ED hd xs e (fun _ => true) ops.size)
  (hQ : ∀ e' H' a' w', K e' H' → St B X w0 ρ0 n0 n e' H' a' w' → Q .normal a' w')
  (hZ : ∀ v H' a' w', Z v H' → St B X w0 ρ0 n0 n (maskE e ds) H' a' w' → Q (.panic [{ v, recovered := false }]) a' w')
  (hds : ∀ j, j < ops.size → ∀ t, (hd.getD j default).d = some t → some t ∈ ds) (hdt : ∀ j, j < ops.size → T.contains j = true → ∀ t, (zAx P n hs reg ops j).d = some t → some t ∈ ds) :
  ∀ (fuel q : Nat) (ws : List (Option Nat × AV)) (H : zC) (a : Act) (w : World) (listed : Array Bool), q ≤ ops.size → fuel = left listed ops.size → listed.size = ops.size →
   (∀ j, j < ops.size → T.contains j = true → listed.getD j true = decide (j < q)) → Closed ops listed → (∀ t x, (some t, x) ∈ ws → some t ∈ ds) → aopsX P hd e1 (tlX P n hs reg ops T q) (wr ws e1) H K Z →
   (∀ i, i < ops.size → T.contains i = false → listed.getD i false = false → zCF P (hd.getD i default) (ED hd xs e (fun _ => true) i) H (xs i)) →
   (∀ i, i < ops.size → T.contains i = false → listed.getD i false = false → ∀ t x, (some t, x) ∈ ws → t ∉ (hd.getD i default).rd ∧ (hd.getD i default).d ≠ some t) →
   St B X w0 ρ0 n0 n (wr ws (ED hd xs e (fun j => listed.getD j false) ops.size)) H a w → wpAnyIn (WR r) m0 P .any ops Q fuel listed a w := by
 have hcf1 : ∀ a b : LO, ∀ t, a.d = some t → t ∈ b.rd → zAe a b = true := by
  intro a b t h1 h2
  cases hb : zAe a b with
  | true => rfl
  | false => exact absurd h2 ((zAV hb).1 t h1)
 have hcf2 : ∀ a b : LO, ∀ t, b.d = some t → t ∈ a.rd → zAe a b = true := by
  intro a b t h1 h2
  cases hb : zAe a b with
  | true => rfl
  | false => exact absurd h2 ((zAV hb).2.1 t h1)
 have hcf3 : ∀ a b : LO, ∀ t, a.d = some t → b.d = some t → zAe a b = true := by
  intro a b t h1 h2
  cases hb : zAe a b with
  | true => rfl
  | false => exact absurd h2 ((zAV hb).2.2 t h1)
 have hnoop : ∀ j, j < ops.size → T.contains j = true → hd.getD j default = noopA := by
  intro j hj hT
  rw [hhd, hdA_get hj, if_pos hT]
 intro fuel
 induction fuel with
 | zero =>
  intro q ws H a w listed hq hf hsz ht hc hwd hK hx hw hst
  have hall : ∀ j, j < ops.size → listed.getD j true = true := by
   intro j hj
   cases hb : listed.getD j true with
   | true => rfl
   | false => have := zCE hb ops.size hj; omega
  have hE' : ED hd xs e (fun j => listed.getD j false) ops.size = e1 := by
   rw [he1]
   funext t
   exact zAg ops.size fun j hj _ => by rw [zT (by omega), hall j (by omega)]
  rw [hE'] at hst
  have hnil : tlX P n hs reg ops T q = [] := by
   rw [tlX_skip hq fun j a b => ?_]
   ·unfold tlX
    rw [Nat.sub_self]; rfl
   ·cases hT : T.contains j with
    | false => rfl
    | true =>
     have := ht j b hT
     rw [hall j b] at this
     simp at this
     omega
  rw [hnil] at hK
  refine ⟨List.eq_nil_iff_forall_not_mem.2 fun i hi => ?_, hQ _ _ _ _ hK hst⟩
  obtain ⟨h1, o, h2, _⟩ := mem_ready.1 hi
  rw [hall i (Array.getElem?_eq_some_iff.1 h2).1] at h1
  cases h1
 | succ fuel ih =>
  intro q ws H a w listed hq hf hsz ht hc hwd hK hx hw hst
  have hun : ∃ i, i < ops.size ∧ listed.getD i true = false := by
   refine Classical.byContradiction fun hno => ?_
   have := zBt (listed := listed) (h := ops.size) ops.size fun j hj => by
    cases hb : listed.getD j true with
    | true => simp [hj]
    | false => exact absurd ⟨j, hj, hb⟩ hno
   omega
  obtain ⟨i0, hi0, hi0u, hi0l⟩ := zCh hun
  have hr0 : i0 ∈ Region.ready .any ops listed := zBZ hE (by omega) hi0u fun j hj => by rw [zT (by omega)]; exact hi0l j hj
  refine ⟨fun h0 => by rw [h0] at hr0; simp at hr0, fun i hi => ?_⟩
  obtain ⟨hiu, oi, hoi, hiall⟩ := mem_ready.1 hi
  have his : i < ops.size := (Array.getElem?_eq_some_iff.1 hoi).1
  have hidf : listed.getD i false = false := by rw [zT (by omega)]; exact hiu
  have hcount : fuel = left (listed.setIfInBounds i true) ops.size := by
   have := zCD hiu ops.size
   rw [if_pos his] at this
   omega
  obtain ⟨imm, hlow⟩ := hD.low i oi hoi
  by_cases hih : T.contains i = false
  ·
   have hgi : hd.getD i default = zAx P n hs reg ops i := by rw [hhd, hdA_get his, if_neg (by rw [hih]; simp)]
   rw [← hgi] at hlow
   have hbef : ∀ j, j < i → zAe (hd.getD j default) (hd.getD i default) = true → listed.getD j false = true := by
    intro j hj hcf
    cases hT : T.contains j with
    | true => rw [hnoop j (by omega) hT, zCm.1] at hcf; cases hcf
    | false =>
     rcases hD.hh j i his hj hT hih with g6 | g6
     ·exact zK hc i oi j hoi g6 hiall
     ·rw [g6] at hcf; cases hcf
   have hbeh : ∀ j, i < j → j < ops.size → zAe (hd.getD i default) (hd.getD j default) = true → listed.getD j false = false := by
    intro j hj hjh hcf
    cases hT : T.contains j with
    | true => rw [hnoop j hjh hT, zCm.2] at hcf; cases hcf
    | false =>
     rcases hD.hh i j hjh hj hih hT with g6 | g6
     ·cases hb : listed.getD j false with
      | false => rfl
      | true =>
       obtain ⟨oj, hoj⟩ : ∃ oj, ops[j]? = some oj := ⟨ops[j]'(by omega), by simp [show j < ops.size by omega]⟩
       have := zK hc j oj i hoj g6 (hc j oj hoj hb)
       rw [hidf] at this
       cases this
     ·rw [g6] at hcf; cases hcf
   have hwi := hw i his hih hidf
   have hA : ∀ t ∈ (hd.getD i default).rd, ED hd xs e (fun _ => true) i t = wr ws (ED hd xs e (fun j => listed.getD j false) ops.size) t := by
    intro t htr
    rw [wr_ne ws _ fun x hx => (hwi t x hx).1 htr, zAS (i := i) ops.size (by omega) fun j h1 h2 h3 => by
     by_cases hji : j = i
     ·rw [hji]; exact hidf
     ·exact hbeh j (by omega) h2 (hcf2 _ _ t h3 htr)]
    exact zAg i fun j h1 h2 => (hbef j h1 (hcf1 _ _ t h2 htr)).symm
   have hB0 : ups (ED hd xs e (fun j => listed.getD j false) ops.size) (hd.getD i default).d (xs i) = ED hd xs e (fun j => (listed.setIfInBounds i true).getD j false) ops.size := by
    funext t
    by_cases hdt : (hd.getD i default).d = some t
    ·rw [zAS (i := i + 1) ops.size (by omega) fun j h1 h2 h3 => by
      rw [zS, if_neg (by omega)]
      exact hbeh j (by omega) h2 (hcf3 _ _ t hdt h3)]
     rw [hdt, zAT]
     have hset : (listed.setIfInBounds i true).getD i false = true := by rw [zS, if_pos ⟨rfl, by omega⟩]
     simp only [ED]
     rw [if_pos hset, hdt, zAT]
    ·rw [zBi hdt]
     exact zAg ops.size fun j h1 h2 => by
      rw [zS, if_neg]
      rintro ⟨rfl, _⟩
      exact hdt h2
   have hB : ups (wr ws (ED hd xs e (fun j => listed.getD j false) ops.size)) (hd.getD i default).d (xs i) = wr ws (ED hd xs e (fun j => (listed.setIfInBounds i true).getD j false) ops.size) := by
    rw [wr_ups ws _ fun t ht x hx => (hwi t x hx).2 ht, hB0]
   have hstep := zA8 hA (hx i his hih hidf)
   have hone : zAu P [hd.getD i default] (wr ws (ED hd xs e (fun j => listed.getD j false) ops.size)) H fun e' H' => e' = wr ws (ED hd xs e (fun j => (listed.setIfInBounds i true).getD j false) ops.size) ∧ H' = H := by
    refine zBW ?_
    rcases hstep with ⟨g1, g2⟩ | ⟨g1, g2⟩
    ·refine .inl ⟨g1, ?_⟩
     have := zBX g2
     simp only [zAu]
     refine zBq this ?_
     rintro y H' ⟨rfl, rfl⟩
     exact ⟨hB, rfl⟩
    ·refine .inr ⟨g1, ?_⟩
     rw [← g2]
     exact ⟨hB, rfl⟩
   have hnx := zA9 (r := r) (m0 := m0) hlow hone hst (next := wpAnyIn (WR r) m0 P .any ops Q fuel (listed.setIfInBounds i true)) (Q := Q) fun e'' H'' a'' w'' hK'' hs'' => by
    obtain ⟨rfl, rfl⟩ := hK''
    have hsub : ∀ j, (listed.setIfInBounds i true).getD j false = false → listed.getD j false = false := fun j hl => by
     rw [zS] at hl
     split at hl
     ·cases hl
     ·exact hl
    refine ih q ws _ a'' w'' _ hq hcount (by simpa using hsz) (fun j h1 h2 => ?_) (hc.set hi) hwd hK (fun j hj hT hl => hx j hj hT (hsub j hl)) (fun j hj hT hl => hw j hj hT (hsub j hl)) hs''
    rw [zS, if_neg]
    ·exact ht j h1 h2
    ·rintro ⟨rfl, _⟩
     rw [hih] at h2; cases h2
   unfold wpOpIn
   rw [hoi]
   simp only
   exact hnx
  ·
   have hiT : T.contains i = true := by simpa using hih
   have hqi : q ≤ i := by
    have g1 := ht i his hiT
    rw [hiu] at g1
    simpa using g1.symm
   have hno : ∀ j, q ≤ j → j < i → T.contains j = false := by
    intro j h1 h2
    cases hT : T.contains j with
    | false => rfl
    | true =>
     have g1 := zK hc i oi j hoi (hD.tt j i his h2 hT hiT) hiall
     rw [zT (by omega), ht j (by omega) hT] at g1
     simp at g1
     omega
   rw [tlX_skip hqi hno, tlX_cons his hiT] at hK
   generalize hlo : zAx P n hs reg ops i = lo at hlow
   have hpr : prX P n hs reg ops T i = (lo, hasCut hs reg i, zB7 hd T ((Region.before ops).getD i 0)) := by unfold prX; rw [hlo, hhd]
   rw [hpr] at hK
   generalize hasCut hs reg i = cu at hpr hK
   have hK : aTI P cu lo (wr ws e1) H (fun e' H' => zCR P hd e1 H' (zB7 hd T ((Region.before ops).getD i 0)) ∧ aopsX P hd e1 (tlX P n hs reg ops T (i + 1)) e' H' K Z) Z := hK
   have hfr : ∀ j, j < ops.size → T.contains j = false → listed.getD j false = false → ((Region.before ops).getD i 0).testBit j = false ∧ zAe (hd.getD j default) lo = false := by
    intro j hj hT hl
    have hnb : ((Region.before ops).getD i 0).testBit j = false := by
     cases hb : ((Region.before ops).getD i 0).testBit j with
     | false => rfl
     | true =>
      have := zK hc i oi j hoi hb hiall
      rw [hl] at this
      cases this
    refine ⟨hnb, ?_⟩
    rcases hD.ht j i his hj hT hiT with g | g
    ·rw [hnb] at g; cases g
    ·rw [← hlo]; exact g
   have hR : ∀ t ∈ lo.rd, wr ws e1 t = wr ws (ED hd xs e (fun j => listed.getD j false) ops.size) t := by
    intro t htr
    have : ∀ (l : List (Option Nat × AV)) (e1 e2 : Env), e1 t = e2 t → wr l e1 t = wr l e2 t := by
     intro l
     induction l with
     | nil => intro e1 e2 h; exact h
     | cons p l ihl =>
      intro e1 e2 h
      obtain ⟨d, x⟩ := p
      refine ihl _ _ ?_
      by_cases hdt : d = some t
      ·rw [hdt, zAT, zAT]
      ·rw [zBi hdt, zBi hdt]; exact h
    refine this ws _ _ ?_
    rw [he1]
    refine zAg ops.size fun j hj hdj => ?_
    cases hb : listed.getD j false with
    | true => rfl
    | false =>
     cases hT : T.contains j with
     | true =>
      rw [hnoop j hj hT] at hdj
      cases hdj
     | false =>
      have := (zAV (hfr j hj hT hb).2).1 t hdj
      exact absurd htr this
   have hone := aTI_congr hR hK
   have hnx := ti_step (r := r) (m0 := m0) hlow hone hst (next := wpAnyIn (WR r) m0 P .any ops Q fuel (listed.setIfInBounds i true)) (Q := Q) (fun e'' H'' a'' w'' hK'' hs'' => by
    obtain ⟨x, rfl, hkp, hK2⟩ := hK''
    have hsame : ∀ j, j ≠ i → (listed.setIfInBounds i true).getD j false = listed.getD j false := fun j hj => by rw [zS, if_neg (by omega)]
    have hED : ED hd xs e (fun j => (listed.setIfInBounds i true).getD j false) ops.size = ED hd xs e (fun j => listed.getD j false) ops.size := by
     funext t
     refine zAg ops.size fun j hj hdj => hsame j ?_
     rintro rfl
     rw [hnoop j hj hiT] at hdj
     cases hdj
    have hne : ∀ j, T.contains j = false → j ≠ i := by
     rintro j hT rfl
     rw [hiT] at hT; cases hT
    refine ih (i + 1) (ws ++ [(lo.d, x)]) H'' a'' w'' _ (by omega) hcount (by simpa using hsz) (fun j hj1 hj2 => ?_) (hc.set hi) (fun t y hy => ?_) (by rw [zCn]; exact hK2) (fun j hj hT hl => ?_) (fun j hj hT hl t y hy => ?_) (by rw [zCn, hED]; exact hs'')
    ·rw [zS]
     by_cases hji : j = i
     ·rw [if_pos ⟨hji, by omega⟩]; simp; omega
     ·rw [if_neg fun hh => hji hh.1, ht j hj1 hj2]
      by_cases hjq : j < q
      ·simp [hjq]; omega
      ·simp [hjq]
       have : ¬ j < i := fun hlt => by rw [hno j (by omega) hlt] at hj2; cases hj2
       omega
    ·rcases List.mem_append.1 hy with hy | hy
     ·exact hwd t y hy
     ·simp only [List.mem_singleton, Prod.mk.injEq] at hy
      exact hdt i his hiT t (by rw [hlo]; exact hy.1.symm)
    ·rw [hsame j (hne j hT)] at hl
     have hold := hx j hj hT hl
     rcases hD.sa j hj hT with g | g
     ·exact zCz g hold
     ·by_cases hhl : zBe (hd.getD j default).op = true
      ·exact zCz hhl hold
      ·have hmem : j ∈ zB7 hd T ((Region.before ops).getD i 0) := by
        unfold zB7
        simp only [List.mem_filter, List.mem_range, Bool.and_eq_true, Bool.not_eq_true']
        exact ⟨by omega, ⟨hT, by simpa using hhl⟩, (hfr j hj hT hl).1⟩
       obtain ⟨y, hy1, hy2⟩ := zCY (hkp j hmem)
       obtain ⟨s1, t, s2, s3⟩ := ssa_rd (xs := xs) (e := e) g (by omega)
       rw [hlen, ← he1] at s1 s3
       have hy2 : ups e1 (hd.getD j default).d y = e1 := hy2
       have hyx : y = xs j := by
        have := congrFun hy2 t
        rw [s2, zAT] at this
        rw [this, s3]
       rw [hyx] at hy1
       exact zA8 s1 hy1
    ·rw [hsame j (hne j hT)] at hl
     rcases List.mem_append.1 hy with hy | hy
     ·exact hw j hj hT hl t y hy
     ·simp only [List.mem_singleton, Prod.mk.injEq] at hy
      have hcf := zAV (hfr j hj hT hl).2
      exact ⟨hcf.2.1 t hy.1.symm, fun hdj => hcf.2.2 t hdj hy.1.symm⟩)
    fun v H'' a'' w'' hz hs'' => hZ v H'' a'' w'' hz (hs''.weaken fun t => by
     rcases maskE_ok (e := e) (l := ds) t with g | ⟨g1, g2⟩
     ·exact .inl g
     ·refine .inr ?_
      rw [g2, wr_ne ws _ fun x hx => g1 (hwd t x hx), zAS (i := 0) ops.size (Nat.zero_le _) fun j _ hj hdj => absurd (hds j hj t hdj) g1]
      rfl)
   unfold wpOpIn
   rw [hoi]
   simp only
   exact hnx
theorem draw_soundX {r : Option Nat} {m0 : Nat} {K : Env → zC → Prop} {Z : Value → zC → Prop} {Q : Exit → Act → World → Prop} (hD : zCJ P n hs reg ops T = true) (hE : zAp ops = true) (hg : zCT n (zAi hs reg ops.size) = true)
  (hK : zAJ P (hdA P n hs reg ops T) e H fun e1 => aopsX P (hdA P n hs reg ops T) e1 (tlX P n hs reg ops T 0) e1 H (fun e' H' => zAu P (zAi hs reg ops.size) e' H' K) Z) (hst : St B X w0 ρ0 n0 n e H a w)
  (hQ : ∀ e' H' a' w', K e' H' → St B X w0 ρ0 n0 n e' H' a' w' → Q .normal a' w')
  (hZ : ∀ v H' a' w', Z v H' → St B X w0 ρ0 n0 n (maskX e (hdA P n hs reg ops T) (tlX P n hs reg ops T 0)) H' a' w' → Q (.panic [{ v, recovered := false }]) a' w') : wpAnyIn (WR r) m0 P .any ops Q ops.size (Array.replicate ops.size false) a { w with drawn := w.drawn + 1 } := by
 have hlen : (hdA P n hs reg ops T).length = ops.size := by simp [hdA]
 obtain ⟨xs, g3, g4⟩ := zBC _ hK
 rw [hlen] at g3 g4
 have h0 : ∀ j, (Array.replicate ops.size false).getD j false = false := fun j => getD_replicate_false _ _
 have h1 : ∀ j, j < ops.size → (Array.replicate ops.size false).getD j true = false := fun j hj => by rw [← zT (by simpa using hj)]; exact h0 j
 refine any_soundX (B := B) (X := X) (w0 := w0) (ρ0 := ρ0) (n0 := n0) hE (drawOkA_ok hD) hlen rfl rfl (K := fun e' H' => zAu P (zAi hs reg ops.size) e' H' K) (fun e' H' a' w' hk hs' => ?_) hZ ?_ ?_ ops.size 0 [] H a _ _ (Nat.zero_le _) ?_ (by simp) (fun j hj _ => by rw [h1 j hj]; simp) (fun j oj hj hl => ?_) (fun t x hx => by simp at hx) g3 (fun i hi _ _ => g4 i hi) (fun i _ _ _ t x hx => by simp at hx) ?_
 ·obtain ⟨e2, H2, k1, k2⟩ := zAn (zAi hs reg ops.size) (los := []) hg (by simpa using hk) hs'
  exact hQ _ _ _ _ k1 k2
 ·intro j hj t hd
  refine List.mem_append.2 (.inl (List.mem_map.2 ⟨_, ?_, hd⟩))
  rw [List.getD_eq_getElem?_getD, List.getElem?_eq_getElem (by omega)]
  exact List.getElem_mem _
 ·intro j hj hT t hd
  refine List.mem_append.2 (.inr (List.mem_map.2 ⟨prX P n hs reg ops T j, ?_, hd⟩))
  unfold tlX
  exact List.mem_map.2 ⟨j, List.mem_filter.2 ⟨by simp [List.mem_range']; omega, hT⟩, rfl⟩
 ·have := zBt (listed := Array.replicate ops.size false) (h := 0) ops.size fun j hj => by rw [h1 j hj]; simp
  omega
 ·rw [h0 j] at hl
  cases hl
 ·have : ED (hdA P n hs reg ops T) xs e (fun j => (Array.replicate ops.size false).getD j false) ops.size = e := by
   funext t
   rw [zAS (i := 0) ops.size (Nat.zero_le _) fun j _ _ _ => h0 j]
   rfl
  show St B X w0 ρ0 n0 n (ED _ xs e (fun j => (Array.replicate ops.size false).getD j false) ops.size) H a _
  rw [this]
  exact hst.still ⟨rfl, rfl, rfl, Nat.le_refl _⟩ rfl
end
end Go.Ax
