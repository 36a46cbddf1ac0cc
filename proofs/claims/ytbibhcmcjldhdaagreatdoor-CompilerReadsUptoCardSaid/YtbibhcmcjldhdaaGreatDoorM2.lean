/- Parts,merged by a program (wip/tools/merge2.py): Ax15 Ax16 Ax17 Ax18 Ax19 Ax20 Ax20b Ax20c Ax20d Ax20e Ax20f. -/
import Derived.Test.YtbibhcmcjldhdaaGreatDoorM1
import Derived.Maps.RangeRun
import Derived.Deep.LoopGhost
import Derived.TacticsIn
import Derived.OrdersIn
import Derived.StillTail
namespace Go.Ax
open Go Go.RowKit
set_option linter.unusedSimpArgs false
section
variable {P : Program} {w w1 : World} {X : Nat → Prop} {ρ : Nat → Loc} {H : zA}
theorem zPp {t u el : TypeId} {sz : Nat} {ty : TypeId} {s x : AV} {sv v : Value} (ht : P.underlying t = some (.slice el)) (hn : zCB P el = some sz) (hsz : 0 < sz)
  (h : HRel w X ρ H) (hs : Rp w X ρ H s sv) (hx : Rp w X ρ H x v) : zAP P (Builtin.copy_ #[t,u] ty #[sv,v]) w X ρ H (rCopy sz s x H) := by
 cases s with
 | os r ver off len =>
  cases hr : rowsOf H x with
  | none => simp only [rCopy,hr]; exact zE
  | some ys =>
   simp only [rCopy,hr]
   cases ho : H[r]? with
   | none => exact zE
   | some obj =>
    cases obj <;> first | exact zE | skip
    rename_i ver' sz' xs
    rintro ⟨hv,hss,hso,hfitx⟩
    subst hv hss
    obtain ⟨hrl,hver,hsz',_,hrowx,hext,⟨a,cap,rfl,hlc,hcap⟩,hblk⟩ := zEa h hs ho rfl
    obtain ⟨hlen,hsrc⟩ := zDe (P := P) h hx hr hso hsz
    generalize hm : min ys.length len = m
    obtain ⟨cs,hl,hf,h1,hrow,hrep⟩ := hsrc m (by omega)
    have hf := hf w fun _ => rfl
    have hrunA : ∀ w',(match a with | some a => (storeCells a cs).run P w = .ok () w' | none => w' = w) → (Builtin.copy_ #[t,u] ty #[.slice a len cap,v]).run P w = .ok (.int .i64 (m : Nat)) w' := by
     intro w' hst
     have hmin : Nat.min ys.length len = m := hm
     unfold Builtin.copy_
     simp only [zzaz,zY6,zY7,Sem.run_bind,run_underlying ht,Result.andThen_ok,hlen,hmin,zBK hn,hf]
     cases a with
     | none => simp only at hst; subst hst; simp [goInt]
     | some a => simp only at hst; simp [hst,goInt]
    have hy' : (ys.take m).length = m := by simp; omega
    rcases hcap with hc0 | ⟨b,o,hb',rfl,he⟩
    ·have hl0 : len = 0 := by omega
     have hm0 : m = 0 := by omega
     subst hm0
     have hcs : cs = [] := zZF (by simpa using hl)
     subst hcs
     have hrun := hrunA w (by cases a <;> simp [storeCells])
     obtain ⟨ρ',hρ,g1,g2⟩ := h.setAt (w' := w) hrl (ρ r) (.arr ver sz' (xs.take off ++ ys.take 0 ++ xs.drop (off + 0))) (Same.refl w) (.inl rfl) (fun b o hb => .inl ⟨o,hb⟩) (fun _ _ _ => rfl)
      (fun ρ' _ hf' => by
       simp only [zzay,zZA,zZJ,zZ7]
       exact (h.objs r _ ho).next hf' fun _ _ _ => rfl)
     exact ⟨_,_,ρ',hrun,g1,.v _ _,g2⟩
    ·obtain ⟨c,e,fr,hh,hsize,hfr,hrepo⟩ := hblk b o hb'
     have hxs := hext
     have hofs : (off + m) * sz' ≤ xs.length * sz' := zZB _ (by omega)
     rw [zZO] at hofs
     have hfit : o + off * sz' + cs.length ≤ c.size := by rw [hl]; omega
     have hst := zAX (P := P) b (o + off * sz') e fr cs 0 c w hh hfr (by simpa using hfit) h1
     simp only [zZJ] at hst
     have hrun := hrunA _ (by simp only; rw [hsz']; exact hst)
     obtain ⟨ρ',hρ,g1,g2⟩ := h.setAt (w' := w.setRow b (c.toList.take (o + off * sz') ++ cs ++ c.toList.drop (o + off * sz' + cs.length)).toArray) hrl (ρ r) (.arr ver sz' (xs.take off ++ ys.take m ++ xs.drop (off + m))) (Same.setRow _ _ _)
      (.inl rfl) (fun b o hb => .inl ⟨o,hb⟩) (fun b' _ hne => setRow_other _ _ _ _ (fun e => hne o (by rw [e]; exact hb')))
      (fun ρ' _ hf' => by
       have hcsz : ((c.toList.take (o + off * sz') ++ cs ++ c.toList.drop (o + off * sz' + cs.length)).toArray).size = c.size := by simp; omega
       refine ⟨hver,hsz',hsz,?_,?_,?_⟩
       ·intro y hy
        rcases zZv.1 hy with hy | hy
        ·rcases zZv.1 hy with hy | hy
         ·exact hrowx y (zZX hy)
         ·exact hrow y (zZX hy)
        ·exact hrowx y (zzaa hy)
       ·have : (xs.take off ++ ys.take m ++ xs.drop (off + m)).length = xs.length := by simp; omega
        rw [this]
        exact hext
       ·rw [hb']
        refine ⟨_,e,fr,setRow_heap w b c _ e fr hh,by rw [hcsz]; exact hsize,by rw [hcsz]; exact hfr,?_⟩
        intro k j x' y zz hx' hy hzz
        have hzz' : (c.toList.take (o + off * sz') ++ cs ++ c.toList.drop (o + off * sz' + cs.length))[o + k * sz' + j]? = some zz := by simpa using hzz
        rw [zAw _ _ _ _ (by simpa using hfit),hl] at hzz'
        have hx2 : (xs.take off ++ ys.take m ++ xs.drop (off + (ys.take m).length))[k]? = some x' := by rw [hy']; exact hx'
        rw [zAw _ _ _ _ (by rw [hy']; omega),hy'] at hx2
        have hj : j < sz' := by
         have h2 := (zYU.1 hy).1
         have hmm : x'.length = sz' := by
          rcases zZv.1 (zZp hx') with h | h
          ·rcases zZv.1 h with h | h
           ·exact hrowx x' (zZX h)
           ·exact hrow x' (zZX h)
          ·exact hrowx x' (zzaa h)
         omega
        by_cases hk1 : k < off
        ·have := zAY hk1 hj
         rw [if_pos hk1] at hx2
         rw [if_pos (by omega)] at hzz'
         have := hrepo k j x' y zz hx2 hy (by simpa using hzz')
         exact ⟨this.1.nextN hf',this.2⟩
        ·rw [if_neg hk1] at hx2
         have hke : k * sz' = off * sz' + (k - off) * sz' := by rw [← zZO]; congr 1; omega
         by_cases hk2 : k < off + m
         ·have hk3 : k - off < m := by omega
          have := zAY hk3 hj
          rw [if_pos hk2,zZP,if_pos hk3] at hx2
          rw [if_neg (by omega),if_pos (by omega),show o + k * sz' + j - (o + off * sz') = (k - off) * sz' + j by omega] at hzz'
          exact ⟨(hrep _ j x' y zz hk3 hx2 hy hzz').nextN hf',zCX h1 hzz'⟩
         ·rw [if_neg hk2] at hx2
          have : m * sz' ≤ (k - off) * sz' := zZB _ (by omega)
          rw [if_neg (by omega),if_neg (by omega)] at hzz'
          have := hrepo k j x' y zz hx2 hy (by simpa using hzz')
          exact ⟨this.1.nextN hf',this.2⟩)
     exact ⟨_,_,ρ',hrun,g1,.v _ _,g2⟩
 | _ => simp only [rCopy]; exact zE
theorem zME {t : TypeId} (h : HRel w X ρ H) : zAP P (Instr.makeMap t none) w X ρ H ⟨True,.om H.length 0,H ++ [.map 0 [] []]⟩ := by
 intro _
 obtain ⟨ρ',hl,hrel,hf⟩ := h.push (w' := w.alloc (.map #[] 0)) { blk := some (w.heap.size,0) } (.map 0 [] []) (Same.alloc _ _) (fun b o hb => by simp at hb; obtain ⟨rfl,_⟩ := hb; simp) (zAN w _)
  (fun ρ' hf hl' => ⟨rfl,w.heap.size,#[],0,rfl,zBz w _,⟨rfl,by simp,by simp⟩,rfl,fun i x e hx => by simp at hx⟩)
 refine ⟨.map (some w.heap.size),_,ρ',by simp [Instr.makeMap],hrel,?_,hf⟩
 exact .om _ _ _ _ (by simp) (by rw [hl]; exact zZa _) rfl fun _ => ⟨w.heap.size,0,by rw [hl],rfl⟩
theorem zGQ {k : Value} : ∀ (ks : List Value) (vs : List AV),(∀ k' ∈ ks,kEq k k' = false) → zFc k ks vs = none
 | [],vs,_ => by cases vs <;> rfl
 | k' :: ks,[],_ => rfl
 | k' :: ks,v :: vs,h => by
  simp only [zFc,h k' (by simp),zZn,if_false]
  exact zGQ ks vs fun k hk => h k (by simp [hk])
theorem zMF {t kt el : TypeId} {kd : KD} {m k x : AV} {mu ku u : Value} (ht : P.underlying t = some (.map kt el)) (hk : zF4 P kt = some kd) (h : HRel w X ρ H) (hm : Rp w X ρ H m mu) (hkr : Rp w X ρ H k ku) (hx : Rp w X ρ H x u) :
  zOP P (Instr.mapUpdate t mu ku u) w X ρ H (rIns kd m k x H) := by
 cases m with
 | om r ver =>
  cases k with
  | v k =>
   have := zAJ hkr; subst this
   simp only [rIns]
   cases ho : H[r]? with
   | none => intro hok; exact hok.elim
   | some obj =>
    cases obj <;> first | (intro hok; exact hok.elim) | skip
    rename_i ver' ks vs
    rintro ⟨hv,hfr,hki,hcl⟩
    subst hv
    obtain ⟨h1,b,es,clock,hblk,hh,⟨hks,hbn,hnd⟩,hvs,hr⟩ := h.objs r _ ho
    cases hm with
    | om _ _ _ _ hrl hle hone hpt =>
     obtain ⟨b',o',hb',rfl⟩ := hpt h1.symm
     rw [hblk] at hb'
     simp only [zYT,zZi] at hb'
     obtain ⟨rfl,_⟩ := hb'
     obtain ⟨r',hf1,hf2⟩ := zG0 (w := w) hk hki es.toList vs (by simpa using hvs) (fun e he => (hfr _ (by rw [hks]; exact zZK.2 ⟨e,he,rfl⟩)).1)
     have hnone : r' = none := by
      rcases hf2 with ⟨h2,_⟩ | ⟨j,e,y,_,_,_,h2⟩
      ·exact h2
      ·rw [← hks,zGQ ks vs fun k' hk' => (hfr k' hk').2] at h2; cases h2
     subst hnone
     have hblt : b < w.heap.size := (h.lt r b 0 hrl hblk).1
     have hget : (getObj b).run P w = .ok (.map es clock) w := by simp [getObj,Sem.run,hh]
     have hset : (setObj b (.map (es.push { key := ku,val := u,born := clock }) (clock + 1))).run P w = .ok () { w with heap := w.heap.setIfInBounds b (.map (es.push { key := ku,val := u,born := clock }) (clock + 1)) } := by
      simp [setObj,Sem.run,hh]
     have hrun : (Instr.mapUpdate t (.map (some b)) ku u).run P w = .ok () { w with heap := w.heap.setIfInBounds b (.map (es.push { key := ku,val := u,born := clock }) (clock + 1)) } := by
      unfold Instr.mapUpdate
      simp only [Sem.run_bind,run_underlying ht,Result.andThen_ok,hget,zGh hk hki,hf1,hset]
     obtain ⟨ρ',hρ,g1,g2⟩ := h.setAt (w' := { w with heap := w.heap.setIfInBounds b (.map (es.push { key := ku,val := u,born := clock }) (clock + 1)) }) hrl (ρ r) (.map ver (ks ++ [ku]) (vs ++ [x]))
      ⟨rfl,rfl,rfl,by simp⟩ (.inl rfl) (fun b o hb => .inl ⟨o,hb⟩) (fun b' _ hne => by
       have : b ≠ b' := fun e => hne 0 (by rw [← e]; exact hblk)
       simp [zZW this]) (fun ρ' _ hf' => by
       refine ⟨h1,b,es.push { key := ku,val := u,born := clock },clock + 1,hblk,by simp [hblt],⟨by simp [hks],?_,?_⟩,by simp [hvs],?_⟩
       ·intro e he
        simp only [Array.toList_push,zZv,zZ5] at he
        rcases he with he | rfl
        ·have := hbn e he; omega
        ·exact zzbo _
       ·simp only [Array.toList_push,zzaA,zZG,zzaC,List.nodup_append]
        refine ⟨hnd,by simp,fun x hx y hy => ?_⟩
        obtain ⟨e,he,rfl⟩ := zZK.1 hx
        have := hbn e he
        simp at hy
        omega
       intro i y e hy he
       rw [zZC] at hy
       split at hy
       ·rename_i hi
        rw [Array.getElem?_push,if_neg (by omega)] at he
        exact (hr i y e hy he).next hf' (zZm _)
       ·rename_i hi
        have hi2 : i = vs.length := by
         have := (zYU.1 hy).1
         simp at this
         omega
        subst hi2
        simp at hy
        subst hy
        rw [hvs] at he
        simp at he
        subst he
        exact (hx.of_cl hcl).next hf' (zZm _))
     exact ⟨rfl,_,ρ',hrun,g1,g2⟩
  | _ => intro hok; exact hok.elim
 | _ => intro hok; exact hok.elim
theorem zJr {x : AV} {u : Value} (h : HRel w X ρ H) (hx : Rp w X ρ H x u) (hok : (rFrz x H).ok) :
  ∃ ρ',HRel w X ρ' (rFrz x H).H ∧ Rep w (Mut X ρ' (rFrz x H).H.length) ρ' (rFrz x H).H.length (rFrz x H).x u ∧ Fut w ρ H.length w ρ' (rFrz x H).H.length := by
 have dead : ∀ r,r < H.length → ∃ ρ',(∀ b o,(ρ r).blk = some (b,o) → ¬ Mut X ρ' H.length b) ∧ HRel w X ρ' (H.set r .dead) ∧ Fut w ρ H.length w ρ' H.length := by
  intro r hr
  obtain ⟨ρ',hρ,hne,g1,g2⟩ := h.setAtX (w' := w) hr { ver := (ρ r).ver + 1 } .dead (Same.refl w) (.inr (zzbo _)) (fun b o hb => by simp at hb) (fun _ _ _ => rfl) (fun _ _ _ => trivial)
  rw [show (H.set r .dead).length = H.length from zZc] at g2
  refine ⟨ρ',fun b o hb hm => ?_,g1,g2⟩
  rcases hm with hx | ⟨r',o',hr',hb'⟩
  ·exact (h.lt r b o hr hb).2 hx
  ·by_cases hrr : r' = r
   ·rw [hrr,hρ] at hb'; simp at hb'
   ·rw [hne r' hrr] at hb'
    exact h.inj r' r b o' b o hr' hr hrr hb' hb rfl
 have hlen : ∀ r,(H.set r .dead).length = H.length := fun r => zZc
 cases x with
 | sl sz xs => exact ⟨ρ,h,hx,Fut.refl _ _ _⟩
 | nc => cases hx; exact ⟨ρ,h,.slE _ _ _ _,Fut.refl _ _ _⟩
 | v x =>
  have := zAJ hx; subst this
  cases u with
  | slice a n c =>
   cases a <;> cases n <;> cases c <;> first | exact hok.elim | exact ⟨ρ,h,.slE _ _ _ _,Fut.refl _ _ _⟩
  | _ => exact hok.elim
 | os r ver off len =>
  simp only [rFrz] at hok ⊢
  cases ho : H[r]? with
  | none => rw [ho] at hok; exact hok.elim
  | some obj =>
   rw [ho] at hok
   cases obj <;> first | exact hok.elim | skip
   rename_i ver' sz xs
   obtain ⟨hv,hol,hcr⟩ := hok
   subst hv
   obtain ⟨hrl,hver,hsz',hsz,hrowx,hext,⟨a,cap,rfl,hlc,hcap⟩,hblk⟩ := zEa h hx ho rfl
   obtain ⟨ρ',hmut,g1,g2⟩ := dead r hrl
   simp only [hlen]
   refine ⟨ρ',g1,?_,g2⟩
   have hl' : ((xs.drop off).take len).length = len := by simp; omega
   rcases hcap with hc0 | ⟨b,o,hb,rfl,he⟩
   ·have : len = 0 := by omega
    subst this
    simp only [zzay]
    exact .slE _ _ _ _
   ·obtain ⟨c,e,fr,hh,hsize,hfr,hrep⟩ := hblk b o hb
    have hget : ∀ i y,((xs.drop off).take len)[i]? = some y → xs[off + i]? = some y := by
     intro i y hy
     rw [zZP] at hy
     split at hy
     ·rwa [zZQ] at hy
     ·cases hy
    have hat : ∀ (i j : Nat) (y : List AV) (z : AV),((xs.drop off).take len)[i]? = some y → y[j]? = some z → xs[off + i]? = some y ∧ o + (off + i) * sz + j < c.size := by
     intro i j y z hy hz
     have g := hget i y hy
     refine ⟨g,?_⟩
     have h1 : off + i < xs.length := (zYU.1 g).1
     have h2 : j < y.length := (zYU.1 hz).1
     rw [hrowx y (zZp g)] at h2
     have := zAY h1 h2
     omega
    have := Rep.slN (w := w) (M := Mut X ρ' H.length) (ρ := ρ') H.length sz ((xs.drop off).take len) b (o + off * sz) cap (fun i j => c.getD (o + (off + i) * sz + j) undef) (hmut b o hb) (h.lt r b o hrl hb).1 (by omega)
     (fun y hy => hrowx y (zzaa (zZX hy)))
     (fun i j y z hy hz => by
      obtain ⟨g,hlt⟩ := hat i j y z hy hz
      refine ⟨?_,(hrep _ _ _ _ _ g hz (zBp hlt)).2⟩
      rw [zAD hh,show o + off * sz + i * sz + j = o + (off + i) * sz + j by rw [zZO]; omega]
      exact zBp hlt)
     (fun i j y z hy hz => by
      obtain ⟨g,hlt⟩ := hat i j y z hy hz
      exact ((hrep _ _ _ _ _ g hz (zBp hlt)).1.of_cl (zDn (zZb.1 hcr y (zzaa (zZX (zZp hy)))) hz)).next g2 (zZm _))
    rw [hl'] at this
    rw [hsz']
    exact this
 | om r ver =>
  simp only [rFrz] at hok ⊢
  cases ho : H[r]? with
  | none => rw [ho] at hok; exact hok.elim
  | some obj =>
   rw [ho] at hok
   cases obj <;> first | exact hok.elim | skip
   rename_i ver' ks vs
   have hv : ver = ver' := hok
   subst hv
   obtain ⟨h1,b,es,clock,hblk,hh,hks,hvs,hr⟩ := h.objs r _ ho
   cases hx with
   | om _ _ _ _ hrl hle hone hpt =>
    obtain ⟨b',o',hb',rfl⟩ := hpt h1.symm
    rw [hblk] at hb'
    simp only [zYT,zZi] at hb'
    obtain ⟨rfl,_⟩ := hb'
    obtain ⟨ρ',hmut,g1,g2⟩ := dead r hrl
    simp only [hlen]
    refine ⟨ρ',g1,?_,g2⟩
    exact .mp _ _ _ _ es clock (hmut b 0 hblk) (h.lt r b 0 hrl hblk).1 hh hks hvs fun i x e hx he => (hr i x e hx he).next g2 (zZm _)
 | ptr r ver off =>
  simp only [rFrz] at hok ⊢
  cases ho : H[r]? with
  | none => rw [ho] at hok; exact hok.elim
  | some obj =>
   rw [ho] at hok
   cases obj <;> first | exact hok.elim | skip
   rename_i cs
   obtain ⟨hv,hcl⟩ := hok
   obtain ⟨hrl,b,c,e,fr,hblk,rfl,hh,hl,hfr,hver,hrep⟩ := zCQ h hx ho hv
   obtain ⟨ρ',hmut,g1,g2⟩ := dead r hrl
   simp only [hlen]
   refine ⟨ρ',g1,?_,g2⟩
   have := Rep.vp (w := w) (M := Mut X ρ' H.length) (ρ := ρ') H.length cs off b 0 (fun j => c.getD j undef) (hmut b 0 hblk) (h.lt r b 0 hrl hblk).1
    (fun j y hy => by
     have hlt : j < c.size := by have := (zYU.1 hy).1; omega
     refine ⟨?_,(hrep j y _ hy (zBp hlt)).2⟩
     rw [zAD hh,zZw]
     exact zBp hlt)
    (fun j y hy => by
     have hlt : j < c.size := by have := (zYU.1 hy).1; omega
     exact ((hrep j y _ hy (zBp hlt)).1.of_cl (zDn hcl hy)).next g2 (zZm _))
   rw [zZw] at this
   exact this
 | _ => exact hok.elim
theorem zKm {sz : Nat} {x : AV} {u : Value} (h : HRel w X ρ H) (hx : Rp w X ρ H x u) (hok : (rFrzN sz x H).ok) :
  ∃ ρ',HRel w X ρ' (rFrzN sz x H).H ∧ Rep w (Mut X ρ' (rFrzN sz x H).H.length) ρ' (rFrzN sz x H).H.length (rFrzN sz x H).x u ∧ Fut w ρ H.length w ρ' (rFrzN sz x H).H.length := by
 cases x with
 | sl sz xs => exact ⟨ρ,h,hx,Fut.refl _ _ _⟩
 | v x =>
  have := zAJ hx; subst this
  cases u with
  | slice a n c =>
   cases a <;> cases n <;> cases c <;> first | exact hok.elim | exact ⟨ρ,h,.slE _ _ _ _,Fut.refl _ _ _⟩
  | _ => exact hok.elim
 | os r ver off len => exact zJr h hx hok
 | _ => exact hok.elim
theorem zSK {sz : Nat} {y : AV} {cs : List AV} {r : Nat} (hr : H[r]? = some (.box cs)) (hok : (rFrzN sz y H).ok) : (rFrzN sz y H).H[r]? = some (.box cs) ∧ (rFrzN sz y H).H.length = H.length ∧ ∀ t,(rFrzN sz y H).x ≠ .bnil t := by
 cases y with
 | sl sz xs => exact ⟨hr,rfl,fun _ h => by cases h⟩
 | v x =>
  cases x with
  | slice a n c =>
   cases a <;> cases n <;> cases c <;> first | exact hok.elim | exact ⟨hr,rfl,fun _ h => by cases h⟩
  | _ => exact hok.elim
 | os r' ver off len =>
  simp only [rFrzN,rFrz] at hok ⊢
  cases ho : H[r']? with
  | none => rw [ho] at hok; exact hok.elim
  | some obj =>
   rw [ho] at hok
   cases obj <;> first | exact hok.elim | skip
   simp only
   refine ⟨?_,by simp,fun _ h => by cases h⟩
   rw [zZj (fun e => by subst e; rw [ho] at hr; cases hr)]
   exact hr
 | _ => exact hok.elim
theorem zPo {sz off : Nat} {x : AV} {u : Value} (h : HRel w X ρ H) (hx : Rp w X ρ H x u) (hok : (rFrzf sz off x H).ok) :
  ∃ ρ',HRel w X ρ' (rFrzf sz off x H).H ∧ Rep w (Mut X ρ' (rFrzf sz off x H).H.length) ρ' (rFrzf sz off x H).H.length (rFrzf sz off x H).x u ∧ Fut w ρ H.length w ρ' (rFrzf sz off x H).H.length := by
 cases x with
 | agg cs =>
  simp only [rFrzf] at hok ⊢
  cases hy : cs[off]? with
  | none => rw [hy] at hok; exact hok.elim
  | some y =>
   rw [hy] at hok
   simp only [rFrzfO,rFrzO] at hok ⊢
   cases hx with
   | agg _ _ us hl hr =>
    have hlt : off < us.size := by have := (zYU.1 hy).1; omega
    obtain ⟨ρ',g1,g2,g3⟩ := zKm h (hr off y _ hy (zzan hlt)) hok
    refine ⟨ρ',g1,.agg _ _ _ (by simpa using hl) fun i z v hz hv => ?_,g3⟩
    rw [zzbi] at hz
    split at hz
    ·rename_i hi
     subst hi
     split at hz
     ·cases hz
      rw [zzan hlt] at hv
      cases hv
      exact g2
     ·cases hz
    ·exact (hr i z v hz hv).nextN g3
 | ptr r ver o =>
  simp only [rFrzf] at hok ⊢
  cases ho : H[r]? with
  | none => rw [ho] at hok; exact hok.elim
  | some obj =>
   rw [ho] at hok
   cases obj <;> first | exact hok.elim | skip
   rename_i cs
   simp only [rFrzB,Res.also] at hok ⊢
   obtain ⟨hv,hok⟩ := hok
   cases hy : cs[o + off]? with
   | none => rw [hy] at hok; exact hok.elim
   | some y =>
    rw [hy] at hok
    simp only [rFrzQ,rFrzP] at hok ⊢
    obtain ⟨hrl,b,c,e,fr,hblk,hu,hh,hl,hfr,hver,hrep⟩ := zCQ h hx ho hv
    have hlt : o + off < c.size := by have := (zYU.1 hy).1; omega
    obtain ⟨ρ1,g1,g2,g3⟩ := zKm h (hrep (o + off) y _ hy (zBp hlt)).1 hok
    obtain ⟨q1,q2,q3⟩ := zSK ho hok
    obtain ⟨k1,b1,c1,e1,fr1,k2,k3,k4,k5,k6⟩ := g1.objs r _ q1
    have hloc : ρ1 r = ρ r := (g3.loc r hrl).resolve_right (by omega)
    have hbb : b1 = b := by rw [hloc,hblk] at k2; cases k2; rfl
    subst hbb
    have hcc : c1 = c := by rw [hh] at k3; cases k3; rfl
    subst hcc
    obtain ⟨ρ2,p1,p2,p3⟩ := g1.setAt (w' := w) (r := r) (by rw [q2]; exact hrl) (ρ1 r) (.box (cs.set (o + off) (rFrzN sz y H).x)) (Same.refl w) (.inl rfl) (fun b o hb => .inl ⟨o,hb⟩) (fun _ _ _ => rfl)
     (fun ρ' hρ hf => by
      have hρ : ρ' = ρ1 := by rw [hρ]; funext i; split <;> simp_all
      subst hρ
      refine ⟨k1,b1,c1,e1,fr1,k2,k3,by simpa using k4,⟨k5.1,fun t ht => ?_⟩,fun j z v hz hv => ?_⟩
      ·rw [zzbi] at ht
       split at ht
       ·split at ht
        ·exact absurd (zzba ht) (q3 t)
        ·cases ht
       ·exact k5.2 t ht
      ·rw [zzbi] at hz
       split at hz
       ·rename_i hj
        subst hj
        split at hz
        ·cases hz
         rw [zBp hlt] at hv
         cases hv
         exact ⟨g2,(hrep (o + off) y _ hy (zBp hlt)).2⟩
        ·cases hz
       ·exact k6 j z v hz hv)
    exact ⟨ρ2,p2,hx.nextN (g3.trans p3),g3.trans p3⟩
 | _ => exact hok.elim
theorem zRJ {sz : Nat} {x : AV} {u : Value} (h : HRel w X ρ H) (hx : Rp w X ρ H x u) (hok : (rOwn sz x H).ok) :
  ∃ ρ',HRel w X ρ' (rOwn sz x H).H ∧ Rep w (Mut X ρ' (rOwn sz x H).H.length) ρ' (rOwn sz x H).H.length (rOwn sz x H).x u ∧ Fut w ρ H.length w ρ' (rOwn sz x H).H.length := by
 cases x with
 | v x =>
  have := zAJ hx; subst this
  cases u with
  | slice a n c =>
   cases a <;> cases n <;> cases c <;> first | exact hok.elim | exact zKB h hok none
  | _ => exact hok.elim
 | _ => exact hok.elim
theorem zD8 {kk : Nat} : ∀ (ys : List (List AV)) (l : List UInt8) (cs : List Value),zAH ys = some l → cs.length = ys.length → (∀ (i j : Nat) (y : List AV) (z : AV) (v : Value),ys[i]? = some y → y[j]? = some z → cs[i + j]? = some v → Rep w (Mut X ρ H.length) ρ kk z v) →
  ∃ ns : List Int,cs = ns.map (Value.int .u8) ∧ l = ns.map fun n => UInt8.ofNat n.toNat
 | [],l,cs,h,hl,_ => by
  simp [zAH] at h
  subst h
  have : cs = [] := zZF (by simpa using hl)
  subst this
  exact ⟨[],rfl,rfl⟩
 | y :: ys,l,cs,h,hl,hr => by
  cases cs with
  | nil => simp at hl
  | cons c cs =>
   unfold zAH at h
   split at h
   ·rename_i heq; cases heq
   ·rename_i n ys' heq
    injection heq with e1 e2
    subst e1 e2
    cases hb : zAH ys with
    | none => simp [hb] at h
    | some m =>
     simp [hb] at h
     subst h
     obtain ⟨ns,h1,h2⟩ := zD8 ys m cs hb (by simpa using hl) (fun i j y z v hy hz hv => hr (i + 1) j y z v (by simpa using hy) hz (by rw [show i + 1 + j = (i + j) + 1 by omega]; simpa using hv))
     have hc := hr 0 0 [.v (.int .u8 n)] (.v (.int .u8 n)) c rfl rfl rfl
     have := zDz hc
     subst this
     exact ⟨n :: ns,by rw [h1]; rfl,by rw [h2]; rfl⟩
   ·cases h
theorem zGY : ∀ (ns : List Int) (r : ByteArray),ns.foldl (fun r n => r.push (UInt8.ofNat n.toNat)) r = mkS (bs r ++ ns.map fun n => UInt8.ofNat n.toNat)
 | [],r => by
  apply ByteArray.ext
  simp [mkS,bs]
 | n :: ns,r => by
  rw [zzaL,zGY ns]
  simp [mkS,bs,ByteArray.push]
theorem zDT {src dst : TypeId} {c : Cv} {x : AV} {u : Value}
  (ht : match c with
   | .toInt k => (∃ d,P.underlying src = some d) ∧ P.underlying dst = some (.int k)
   | .same => P.underlying src = some .string ∧ P.underlying dst = some .string
   | .runeStr => (∃ k,P.underlying src = some (.int k)) ∧ P.underlying dst = some .string
   | .strBytes => P.underlying src = some .string ∧ ∃ e,P.underlying dst = some (.slice e) ∧ P.underlying e = some (.int .u8)
   | .bytesStr => (∃ e,P.underlying src = some (.slice e) ∧ P.underlying e = some (.int .u8)) ∧ P.underlying dst = some .string
   | .sameB => ∃ e,P.underlying src = some (.slice e) ∧ P.underlying e = some (.int .u8) ∧ src = dst)
  (h : HRel w X ρ H) (hx : Rp w X ρ H x u) : zAP P (convert src dst u) w X ρ H (rConv c x H) := by
 cases c with
 | toInt k =>
  obtain ⟨⟨d,h1⟩,h2⟩ := ht
  cases x with
  | v x =>
   have := zAJ hx; subst this
   cases u <;> first | exact zE | skip
   refine zA0 h fun _ => ?_
   simp [convert,run_underlying h1,run_underlying h2,Conv.intToInt]
  | _ => exact zE
 | same =>
  cases x with
  | v x =>
   have := zAJ hx; subst this
   cases u <;> first | exact zE | skip
   refine zA0 h fun _ => ?_
   simp [convert,run_underlying ht.1,run_underlying ht.2]
  | _ => exact zE
 | runeStr =>
  obtain ⟨⟨k,h1⟩,h2⟩ := ht
  cases x with
  | v x =>
   have := zAJ hx; subst this
   cases u <;> first | exact zE | skip
   refine zA0 h fun _ => ?_
   simp [convert,run_underlying h1,run_underlying h2,Conv.intToString]
  | _ => exact zE
 | strBytes =>
  obtain ⟨h1,e,h2,h3⟩ := ht
  cases x with
  | v x =>
   have := zAJ hx; subst this
   cases u <;> first | exact zE | skip
   rename_i s
   intro hlen
   have hrun := run_bytes_of_string w src dst e s h1 h2 h3
   have hge : s.size ≤ grownCap w s.size 0 e := grownCap_ge _ _ _ _
   have hC : bytesRow s (grownCap w s.size 0 e) = (s.data.map fun b => Value.int .u8 b.toNat) ++ Array.replicate (grownCap w s.size 0 e - s.size) (.int .u8 0) := rfl
   have hrows : Rows w (Mut X ρ H.length) ρ 0 (bytesRow s (grownCap w s.size 0 e)) 0 1 ((bs s).map zBv) := by
    refine ⟨?_,fun x hx => ?_,fun i j x y v hx hy hv => ?_⟩
    ·rw [hC]; simp [bs]
    ·simp only [zZK] at hx; obtain ⟨b,_,rfl⟩ := hx; rfl
    ·simp only [zZy] at hx
     cases hb : (bs s)[i]? with
     | none => simp [hb] at hx
     | some b =>
      simp [hb] at hx
      subst hx
      cases j with
      | succ j => simp [zBv] at hy
      | zero =>
       simp [zBv] at hy
       subst hy
       have hi : i < (bs s).length := (zYU.1 hb).1
       have hi' : i < s.data.size := by simpa [bs] using hi
       rw [hC,zzab (by simp; exact hi')] at hv
       have hb' : s.data[i]? = some b := by simpa [bs] using hb
       simp [hb'] at hv
       subst hv
       exact ⟨.v _ _,rfl⟩
   obtain ⟨g1,g2,g3⟩ := zNw (w1 := w.drew.alloc (.cells (bytesRow s (grownCap w s.size 0 e)) e ((bytesRow s (grownCap w s.size 0 e)).size,(bytesRow s (grownCap w s.size 0 e)).size + 1))) h ((Same.drew w).trans (Same.alloc _ _)) (zAN w.drew _) (zZa _) (by simp) (zBz w.drew _) hrows (cap := grownCap w s.size 0 e) (by simp [zIL]; exact hge)
   have hl : ((bs s).map zBv).length = s.size := by simp [zIL]
   rw [hl] at g2
   exact ⟨_,_,ρ,hrun,g1,g2,g3⟩
  | _ => exact zE
 | bytesStr =>
  obtain ⟨⟨e,h1,h2⟩,h3⟩ := ht
  have main : ∀ (a : Option Addr) (len cap : Nat),u = .slice a len cap → szOk H 1 x ∧ ((rowsOf H x).bind zAH).isSome = true → ∃ v,(convert src dst u).run P w = .ok v w ∧ Rp w X ρ H (str (((rowsOf H x).bind zAH).getD [])) v := by
   intro a len cap hu ⟨hs,hb⟩
   cases hr : rowsOf H x with
   | none => simp [hr] at hb
   | some ys =>
    cases hl : zAH ys with
    | none => simp [hr,hl] at hb
    | some l =>
     obtain ⟨hlen,hsrc⟩ := zDe (P := P) h hx hr hs (by omega)
     obtain ⟨cs,hcl,hf,_,_,hrep⟩ := hsrc ys.length (zZa _)
     obtain ⟨ns,hns,hl2⟩ := zD8 ys l cs hl (by simpa using hcl) (fun i j y z v hy hz hv => hrep i j y z v (zYU.1 hy).1 hy hz (by simpa using hv))
     subst hu
     have hlen' : len = ys.length := by
      simp [Builtin.lenOf] at hlen
      exact hlen
     refine ⟨.string (mkS l),?_,by simp [hl]; exact .v _ _⟩
     rw [run_convert_bytes_string w src dst e a len cap h1 h2 h3]
     cases a with
     | none =>
      have h0 := hf w fun _ => rfl
      simp [Builtin.firstCells] at h0
      subst h0
      have : ns = [] := by cases ns <;> simp at hns ⊢
      subst this
      simp at hl2
      subst hl2
      rfl
     | some a =>
      have h0 := hf w fun _ => rfl
      simp only [Builtin.firstCells,zzbx] at h0
      rw [run_bytesToString w a len cap ns (by rw [hlen',h0,hns]),zGY,hl2]
      rfl
  cases x with
  | v x =>
   have := zAJ hx; subst this
   cases u <;> first | exact zE | skip
   case slice a n c =>
    exact zR h fun hp => main a n c rfl hp
   all_goals exact zR h fun hp => by have := hp.1; simp [szOk] at this
  | sl sz xs =>
   cases hx with
   | slE _ _ a cap => exact zR h fun hp => main _ _ _ rfl hp
   | slN _ _ _ b o cap c => exact zR h fun hp => main _ _ _ rfl hp
  | os r ver off len =>
   refine zR h fun hp => ?_
   have hb := hp.2
   cases ho : H[r]? with
   | none => simp [rowsOf,osRows,ho] at hb
   | some obj =>
    cases obj <;> simp [rowsOf,osRows,ho] at hb
    rename_i ver' sz' xs
    by_cases hv : ver = ver'
    ·obtain ⟨_,_,_,_,_,_,⟨a,cap,hu,_⟩,_⟩ := zEa h hx ho hv
     exact main a len cap hu hp
    ·simp [hv] at hb
  | nc =>
   cases hx
   exact zR h fun hp => main _ _ _ rfl hp
  | _ => exact zR h fun hp => by have := hp.1; simp [szOk] at this
 | sameB =>
  obtain ⟨e,h1,h2,h3⟩ := ht
  subst h3
  cases x with
  | os r ver off len =>
   refine fun ⟨hl,hba,hv⟩ => ?_
   obtain ⟨ver',sz,xs,ho⟩ := zBo hba
   rw [ho] at hv
   simp only [isVer] at hv
   obtain ⟨hrl,hver,hsz',hsz,hrowx,hext,⟨a,cap,rfl,hlc,hcap⟩,hblk⟩ := zEa h hx ho hv
   rcases hcap with hc0 | ⟨b,o,hb,rfl,he⟩
   ·omega
   ·obtain ⟨c,el,fr,hh,hsize,hfr,hrep⟩ := hblk b o hb
    have hblt : b < w.heap.size := (h.lt r b o hrl hb).1
    have hshape : w.shape? b = some (el,c.size) := by simp [World.shape?,hh]
    have hrun : (convert src src (.slice (some ⟨b,o + off * (ρ r).sz,none⟩) len cap)).run P w = .ok (.slice (some ⟨b,o + off * (ρ r).sz,none⟩) len cap) (w.freeze ⟨b,c.size,none⟩ 1) := by
     simp [convert,run_underlying h1,run_underlying h2,markStringish,hshape]
    have hfz : (w.freeze ⟨b,c.size,none⟩ 1).heap[b]? = some (.cells c el (if fr.1 == fr.2 then (c.size,c.size + 1) else (min fr.1 c.size,max fr.2 (c.size + 1)))) := by
     simp [World.freeze,zzaM,hh]
    have hfo : ∀ b',b' ≠ b → (w.freeze ⟨b,c.size,none⟩ 1).heap[b']? = w.heap[b']? := by
     intro b' hb'
     simp [World.freeze,zzaM,Ne.symm hb']
    obtain ⟨ρ',hρ,g1,g2⟩ := h.setAt (w' := w.freeze ⟨b,c.size,none⟩ 1) hrl (ρ r) (.arr ver' sz xs) ⟨rfl,rfl,rfl,by simp [World.freeze]⟩ (.inl rfl) (fun b o hb => .inl ⟨o,hb⟩)
     (fun b' _ hne => hfo b' fun e => hne o (by rw [e]; exact hb)) (fun ρ' _ hf' => by
      refine ⟨by omega,hsz',hsz,hrowx,hext,?_⟩
      rw [hb]
      refine ⟨c,el,_,hfz,hsize,?_,fun i j x y u hx hy hu => ⟨(hrep i j x y u hx hy hu).1.nextN hf',(hrep i j x y u hx hy hu).2⟩⟩
      rcases hfr with hfr | hfr
      ·simp [hfr,zMg]
      ·split
       ·right; simp
       ·right; simp; omega)
    have hset : H.set r (.arr ver' sz xs) = H := by
     apply zzaB
     intro i
     by_cases hi : i = r
     ·subst hi; rw [zZs hrl,ho]
     ·rw [zZj (fun e => hi e.symm)]
    rw [hset] at g1 g2
    exact ⟨_,_,ρ',hrun,g1,Rep.nextN g2 hx,g2⟩
  | v x => cases x <;> exact zE
  | _ => exact zE
end
section
variable {P : Program} {w : World} {X : Nat → Prop} {ρ : Nat → Loc} {H : zA} {e : Env} {a : Act} {n : Nat}
abbrev ER (w : World) (X : Nat → Prop) (ρ : Nat → Loc) (H : zA) (n : Nat) (e : Env) (a : Act) : Prop := zYR w (Mut X ρ H.length) ρ H.length n e a
def zMj (P : Program) (o : Oper) (a : Act) (w : World) (X : Nat → Prop) (ρ : Nat → Loc) (H : zA) (r : Res) : Prop :=
 r.ok → ∃ u w' ρ',((execOp a.eval o).run P w = .ok (.value u) w' ∨ ((execOp a.eval o).run P w = .ok .skip w' ∧ u = undef)) ∧ HRel w' X ρ' r.H ∧ Rep w' (Mut X ρ' r.H.length) ρ' r.H.length r.x u ∧ Fut w ρ H.length w' ρ' r.H.length
theorem zAr {o : Oper} {s : Sem Value} {r : Res} (h : zAP P s w X ρ H r) (he : execOp a.eval o = (do pure (.value (← s)))) : zMj P o a w X ρ H r := by
 intro hok
 obtain ⟨u,w',ρ',h1,h2,h3,h4⟩ := h hok
 exact ⟨u,w',ρ',.inl (by rw [he]; simp [h1]),h2,h3,h4⟩
theorem zNn {o : Oper} {s : Sem Unit} {r : Res} (h : zOP P s w X ρ H r) (he : execOp a.eval o = (do s; pure .skip)) : zMj P o a w X ρ H r := by
 intro hok
 obtain ⟨hx,w',ρ',h1,h2,h3⟩ := h hok
 exact ⟨undef,w',ρ',.inr ⟨by rw [he]; simp [h1],rfl⟩,h2,by rw [hx]; exact .any _ _,h3⟩
theorem zFV {o : Oper} : zMj P o a w X ρ H (.no H) := fun h => h.elim
theorem zCj {M : Nat → Prop} {k : Nat} (he : zYR w M ρ k n e a) : ∀ (l : List Operand) (m : List LX),lxs n l = some m → m.length = l.length ∧ ∀ (i : Nat) (x : AV) (u : Value),(m.map (ev e))[i]? = some x → (l.map a.eval)[i]? = some u → Rep w M ρ k x u
 | [],m,h => by simp [lxs] at h; subst h; exact ⟨rfl,fun i x u hx => by simp at hx⟩
 | o :: l,m,h => by
  unfold lxs at h
  cases ho : lx n o with
  | none => simp [ho] at h
  | some y =>
   cases hm : lxs n l with
   | none => simp [ho,hm] at h
   | some m' =>
    simp [ho,hm] at h
    subst h
    obtain ⟨h1,h2⟩ := zCj he l m' hm
    refine ⟨by simp [h1],fun i x u hx hu => ?_⟩
    cases i with
    | zero => simp at hx hu; subst hx hu; exact zV he ho
    | succ i => exact h2 i x u (by simpa using hx) (by simpa using hu)
theorem zF0 (he : ER w X ρ H n e a) {place : Nat → Option (Nat × Nat)} : ∀ (l : List (Nat × Operand)) (m : List (Nat × Nat × LX)),zHD n place l = some m → zV3 w X ρ H place (l.map fun (i,x) => (i,a.eval x)) (m.map fun (o,k,x) => (o,k,ev e x))
 | [],m,h => by simp [zHD] at h; subst h; trivial
 | (i,o) :: l,m,h => by
  unfold zHD at h
  cases hp : place i with
  | none => simp [hp] at h
  | some pl =>
   obtain ⟨off,sz⟩ := pl
   cases ho : lx n o with
   | none => simp [hp,ho] at h
   | some y =>
    cases hm : zHD n place l with
    | none => simp [hp,ho,hm] at h
    | some m' =>
     simp [hp,ho,hm] at h
     subst h
     exact ⟨hp,zV he ho,zF0 he l m' hm⟩
theorem zII (he : ER w X ρ H n e a) : ∀ (l : List (Nat × Operand)) (m : List (Nat × LX)),zJK n l = some m → zXc w X ρ H (l.map fun (i,x) => (i,a.eval x)) (m.map fun (i,x) => (i,ev e x))
 | [],m,h => by simp [zJK] at h; subst h; trivial
 | (i,o) :: l,m,h => by
  unfold zJK at h
  cases ho : lx n o with
  | none => simp [ho] at h
  | some y =>
   cases hm : zJK n l with
   | none => simp [ho,hm] at h
   | some m' =>
    simp [ho,hm] at h
    subst h
    exact ⟨rfl,zV he ho,zII he l m' hm⟩
theorem zLl {x : AV} {u : Value} {o : Oper} {ox : Operand} (ho : o.op = .nilCheck ox) (hu : a.eval ox = u) (h : HRel w X ρ H) (hx : Rp w X ρ H x u) : zMj P o a w X ρ H (rNil x H) := by
 have key : ∀ v : Value,(∃ p,v = .pointer (some p)) ∨ (∃ r,v = .map r) ∨ (∃ f fs us,v = .func (.func f) fs us) → u = v → (execOp a.eval o).run P w = .ok (.value v) w := by
  intro v hv huv
  unfold execOp
  rw [ho]
  simp only [hu,huv]
  rcases hv with ⟨p,rfl⟩ | ⟨r,rfl⟩ | ⟨f,fs,us,rfl⟩ <;> rfl
 cases x with
 | vp cs off =>
  intro _
  cases hx with
  | vp _ _ _ b o' c hm hb hcell hrep => exact ⟨_,w,ρ,.inl (key _ (.inl ⟨_,rfl⟩) rfl),h,.vp _ _ _ _ _ c hm hb hcell hrep,Fut.refl _ _ _⟩
 | mp ks vs =>
  intro _
  cases hx with
  | mp _ _ _ b es clock hm hb hh hks hvs hr => exact ⟨_,w,ρ,.inl (key _ (.inr (.inl ⟨_,rfl⟩)) rfl),h,.mp _ _ _ _ es clock hm hb hh hks hvs hr,Fut.refl _ _ _⟩
 | fn f fs us =>
  cases f <;> first | exact zFV | skip
  intro _
  have hx' := hx
  cases hx with
  | fn => exact ⟨_,w,ρ,.inl (key _ (.inr (.inr ⟨_,_,_,rfl⟩)) rfl),h,hx',Fut.refl _ _ _⟩
 | ptr r ver off =>
  intro hv
  have hx' := hx
  cases hx with
  | ptr _ _ _ _ _ hr hle hone hp =>
   have hver : ver = (ρ r).ver := by
    have hv : isVer ver H[r]? := hv
    cases ho' : H[r]? with
    | none => rw [ho'] at hv; exact hv.elim
    | some obj =>
     rw [ho'] at hv
     have hob := h.objs r _ ho'
     cases obj <;> simp only [isVer] at hv <;> first | exact hv.elim | skip
     ·rw [hob.1]; exact hv
     ·rw [hob.1]; exact hv
     ·rw [hob.1]; exact hv
   obtain ⟨b,o',_,rfl⟩ := hp hver
   exact ⟨_,w,ρ,.inl (key _ (.inl ⟨_,rfl⟩) rfl),h,hx',Fut.refl _ _ _⟩
 | pe r ver i off =>
  intro hv
  have hx' := hx
  cases hx with
  | pe _ _ _ _ _ _ hr hle hone hp =>
   have hver : ver = (ρ r).ver := by
    have hv : isVer ver H[r]? := hv
    cases ho' : H[r]? with
    | none => rw [ho'] at hv; exact hv.elim
    | some obj =>
     rw [ho'] at hv
     have hob := h.objs r _ ho'
     cases obj <;> simp only [isVer] at hv <;> first | exact hv.elim | skip
     ·rw [hob.1]; exact hv
     ·rw [hob.1]; exact hv
     ·rw [hob.1]; exact hv
   obtain ⟨b,o',_,rfl⟩ := hp hver
   exact ⟨_,w,ρ,.inl (key _ (.inl ⟨_,rfl⟩) rfl),h,hx',Fut.refl _ _ _⟩
 | _ => exact zFV
def zCR : LOp → Bool
 | .call _ _ => false
 | .callh _ _ => false
 | .pick _ _ _ => false
 | .isnil _ _ => false
 | .nextm _ => false
 | .frz _ => false
 | .own _ _ => false
 | .frzf _ _ _ => false
 | _ => true
theorem zAe {α β : Type} {x : Option α} {f : α → β} {y : β} (h : x.map f = some y) : ∃ a,x = some a ∧ f a = y := by
 cases x with
 | none => cases h
 | some a => exact ⟨a,rfl,by simpa using h⟩
theorem zGy {c : Call} {lo : LOp} (hl : zCK P n c = some lo) : zCR lo = true ∨ ∃ f g m,c.callee = .value f ∧ lx n f = some g ∧ lxs n c.args.toList = some m ∧ lo = .callh g m := by
 unfold zCK at hl
 split at hl
 ·rename_i f hc
  split at hl
  ·rename_i g m hg hm; cases hl; exact .inr ⟨f,g,m,hc,hg,hm,rfl⟩
  ·cases hl
 ·split at hl
  ·split at hl
   ·split at hl
    ·split at hl
     ·cases hl; exact .inl rfl
     ·cases hl
    ·cases hl
   ·cases hl
  ·cases hl
 ·cases hl
theorem zJO {c : Call} {lo : LOp} {o : Oper} (ho : o.op = .call c) (hl : zCK P n c = some lo) (hp : zCR lo = true) (h : HRel w X ρ H) (he : ER w X ρ H n e a) : zMj P o a w X ρ H (zAW lo e H) := by
 obtain ⟨callee,args,tys⟩ := c
 unfold zCK at hl
 cases callee with
 | value f =>
  simp only at hl
  split at hl
  ·cases hl; simp [zCR] at hp
  ·cases hl
 | invoke r m => simp at hl
 | builtin b =>
  obtain ⟨bcs,hex⟩ : ∃ cs,execOp a.eval o = builtin b tys o.type cs (args.map a.eval) := by
   unfold execOp
   rw [ho]
   exact ⟨_,rfl⟩
  cases b <;> simp only at hl <;> first | (cases hl; done) | skip
  cases hm : lxs n args.toList with
  | none => simp [hm] at hl
  | some m =>
   obtain ⟨hlen,hrep⟩ := zCj he _ _ hm
   match m,hlen,hl with
   | [],_,hl => simp [hm] at hl
   | [_],_,hl => simp [hm] at hl
   | _ :: _ :: _ :: _,_,hl => simp [hm] at hl
   | [s,x],hlen,hl =>
    obtain ⟨so,xo,hao⟩ : ∃ so xo,args.toList = [so,xo] := by
     match h1 : args.toList,hlen with
     | [so,xo],_ => exact ⟨so,xo,rfl⟩
    have hae : args.map a.eval = #[a.eval so,a.eval xo] := by apply zZ4; simp [hao]
    have hs : Rp w X ρ H (ev e s) (a.eval so) := hrep 0 _ _ rfl (by simp [hao])
    have hx : Rp w X ρ H (ev e x) (a.eval xo) := hrep 1 _ _ rfl (by simp [hao])
    match ht : tys.toList,hl with
    | [],hl => simp [hm] at hl
    | [_],hl => simp [hm] at hl
    | _ :: _ :: _ :: _,hl => simp [hm] at hl
    | [t,u],hl =>
     have hty : tys = #[t,u] := by apply zZ4; simpa using ht
     simp only [hm] at hl
     cases hu : P.underlying t with
     | none => simp [hu] at hl
     | some d =>
      cases d with
      | slice el =>
       cases hv : P.underlying u with
       | none => simp [hu,hv] at hl
       | some d2 =>
        cases d2 with
        | string =>
         simp only [hu,hv] at hl
         cases hi : P.info? el with
         | none => simp [hi] at hl
         | some i =>
          simp only [hi] at hl
          split at hl
          ·rename_i hc
           obtain ⟨h1,h2,h3⟩ := hc
           obtain ⟨z,hz1,hz2⟩ := zAe h3
           cases hl
           exact zAr (s := Builtin.append_ #[t,u] o.type #[a.eval so,a.eval xo]) (zJs hu ⟨_,hv,fun k hk => by cases hk⟩ hi hz1 hz2 h1 h2 h hs hx) (by rw [hex,hae,hty]; rfl)
          ·cases hl
        | _ => simp [hu,hv] at hl
      | _ => simp [hu] at hl
theorem zLG {c : Call} {lo : LOp} {o : Oper} (ho : o.op = .call c) (hl : zDj P n c = some lo) (hp : zCR lo = true) (h : HRel w X ρ H) (he : ER w X ρ H n e a) : zMj P o a w X ρ H (zAW lo e H) := by
 obtain ⟨callee,args,tys⟩ := c
 have hex : ∀ b : Builtin,callee = .builtin b → ∃ cs,execOp a.eval o = builtin b tys o.type cs (args.map a.eval) := by
  intro b hb
  subst hb
  unfold execOp
  rw [ho]
  exact ⟨_,rfl⟩
 unfold zDj at hl
 cases callee with
 | value f =>
  simp only at hl
  cases hf : lx n f with
  | none => simp [hf] at hl
  | some g =>
   cases hm : lxs n args.toList with
   | none => simp [hf,hm] at hl
   | some m => simp [hf,hm] at hl; subst hl; simp [zCR] at hp
 | invoke r m => simp at hl
 | builtin b =>
  obtain ⟨bcs,hex⟩ := hex b rfl
  cases b <;> simp only at hl <;> first | (cases hl; done) | skip
  case len =>
   cases hm : lxs n args.toList with
   | none => simp [hm] at hl
   | some m =>
    obtain ⟨hlen,hrep⟩ := zCj he _ _ hm
    match m,hlen,hl with
    | [],_,hl => simp [hm] at hl
    | _ :: _ :: _,_,hl => simp [hm] at hl
    | [x],hlen,hl =>
     obtain ⟨ao,hao⟩ : ∃ ao,args.toList = [ao] := by
      match h1 : args.toList,hlen with
      | [ao],_ => exact ⟨ao,rfl⟩
     have hae : args.map a.eval = #[a.eval ao] := by apply zZ4; simp [hao]
     have hx : Rp w X ρ H (ev e x) (a.eval ao) := hrep 0 _ _ rfl (by simp [hao])
     match ht : tys.toList,hl with
     | [],hl => simp [hm] at hl
     | _ :: _ :: _,hl => simp [hm] at hl
     | [t],hl =>
      have hty : tys = #[t] := by apply zZ4; simpa using ht
      simp only [hm] at hl
      refine zAr (s := Builtin.len_ #[t] o.type #[a.eval ao]) ?_ (by rw [hex,hae,hty]; rfl)
      cases hu : P.underlying t with
      | none => simp [hu] at hl
      | some d =>
       simp only [hu] at hl
       cases d <;> simp at hl <;> subst hl <;> refine zRP ⟨?_,?_,?_⟩ h hx <;> intro hk <;> first | (cases hk; done) | exact hu | exact ⟨_,hu⟩ | exact ⟨_,_,hu⟩
  case append =>
   cases hm : lxs n args.toList with
   | none => simp [hm] at hl
   | some m =>
    obtain ⟨hlen,hrep⟩ := zCj he _ _ hm
    match m,hlen,hl with
    | [],_,hl => simp [hm] at hl
    | [_],_,hl => simp [hm] at hl
    | _ :: _ :: _ :: _,_,hl => simp [hm] at hl
    | [s,x],hlen,hl =>
     obtain ⟨so,xo,hao⟩ : ∃ so xo,args.toList = [so,xo] := by
      match h1 : args.toList,hlen with
      | [so,xo],_ => exact ⟨so,xo,rfl⟩
     have hae : args.map a.eval = #[a.eval so,a.eval xo] := by apply zZ4; simp [hao]
     have hs : Rp w X ρ H (ev e s) (a.eval so) := hrep 0 _ _ rfl (by simp [hao])
     have hx : Rp w X ρ H (ev e x) (a.eval xo) := hrep 1 _ _ rfl (by simp [hao])
     match ht : tys.toList,hl with
     | [],hl => simp [hm] at hl
     | [_],hl => simp [hm] at hl
     | _ :: _ :: _ :: _,hl => simp [hm] at hl
     | [t,u],hl =>
      have hty : tys = #[t,u] := by apply zZ4; simpa using ht
      simp only [hm] at hl
      cases hu : P.underlying t with
      | none => simp [hu] at hl
      | some d =>
       simp only [hu] at hl
       cases d <;> simp only at hl <;> first | (cases hl; done) | skip
       rename_i el
       cases hi : P.info? el with
       | none => simp [hi] at hl
       | some i =>
        cases hv : P.underlying u with
        | none => simp [hi,hv] at hl
        | some d2 =>
         simp only [hi,hv] at hl
         have fin : (i.zero.map (·.cells.size)) = some i.size → lo = .append i.size i.bytes s x → (∀ k,d2 ≠ .int k) → zMj P o a w X ρ H (zAW lo e H) := by
          intro hz hlo hd2
          obtain ⟨z,hz1,hz2⟩ := zAe hz
          subst hlo
          exact zAr (s := Builtin.append_ #[t,u] o.type #[a.eval so,a.eval xo]) (zLn hu ⟨d2,hv,hd2⟩ hi hz1 hz2 h hs hx) (by rw [hex,hae,hty]; rfl)
         cases d2 <;> simp only at hl <;> first | (cases hl; done) | skip
         case slice =>
          split at hl
          ·rename_i hc; exact fin hc.2 (by simpa using hl.symm) (fun k hk => by cases hk)
          ·cases hl
         case string =>
          split at hl
          ·rename_i hc; exact fin (by rw [hc.2,hc.1]) (by simpa using hl.symm) (fun k hk => by cases hk)
          ·cases hl
  case copy =>
   cases hm : lxs n args.toList with
   | none => simp [hm] at hl
   | some m =>
    obtain ⟨hlen,hrep⟩ := zCj he _ _ hm
    match m,hlen,hl with
    | [],_,hl => simp [hm] at hl
    | [_],_,hl => simp [hm] at hl
    | _ :: _ :: _ :: _,_,hl => simp [hm] at hl
    | [s,x],hlen,hl =>
     obtain ⟨so,xo,hao⟩ : ∃ so xo,args.toList = [so,xo] := by
      match h1 : args.toList,hlen with
      | [so,xo],_ => exact ⟨so,xo,rfl⟩
     have hae : args.map a.eval = #[a.eval so,a.eval xo] := by apply zZ4; simp [hao]
     have hs : Rp w X ρ H (ev e s) (a.eval so) := hrep 0 _ _ rfl (by simp [hao])
     have hx : Rp w X ρ H (ev e x) (a.eval xo) := hrep 1 _ _ rfl (by simp [hao])
     match ht : tys.toList,hl with
     | [],hl => simp [hm] at hl
     | [_],hl => simp [hm] at hl
     | _ :: _ :: _ :: _,hl => simp [hm] at hl
     | [t,u],hl =>
      have hty : tys = #[t,u] := by apply zZ4; simpa using ht
      simp only [hm] at hl
      cases hu : P.underlying t with
      | none => simp [hu] at hl
      | some d =>
       simp only [hu] at hl
       cases d <;> simp only at hl <;> first | (cases hl; done) | skip
       rename_i el
       cases hn : zCB P el with
       | none => simp [hn] at hl
       | some sz =>
        simp only [hn,zzaq] at hl
        split at hl
        ·rename_i hc
         simp only [zYT] at hl
         subst hl
         exact zAr (s := Builtin.copy_ #[t,u] o.type #[a.eval so,a.eval xo]) (zPp hu hn hc h hs hx) (by rw [hex,hae,hty]; rfl)
        ·cases hl
  case min =>
   cases hm : lxs n args.toList with
   | none => simp [hm] at hl
   | some m =>
    obtain ⟨hlen,hrep⟩ := zCj he _ _ hm
    match m,hlen,hl with
    | [],_,hl => simp [hm] at hl
    | [_],_,hl => simp [hm] at hl
    | _ :: _ :: _ :: _,_,hl => simp [hm] at hl
    | [s,x],hlen,hl =>
     obtain ⟨so,xo,hao⟩ : ∃ so xo,args.toList = [so,xo] := by
      match h1 : args.toList,hlen with
      | [so,xo],_ => exact ⟨so,xo,rfl⟩
     have hae : args.map a.eval = #[a.eval so,a.eval xo] := by apply zZ4; simp [hao]
     have hs : Rp w X ρ H (ev e s) (a.eval so) := hrep 0 _ _ rfl (by simp [hao])
     have hx : Rp w X ρ H (ev e x) (a.eval xo) := hrep 1 _ _ rfl (by simp [hao])
     simp only [hm,zYT] at hl
     subst hl
     exact zAr (s := Builtin.min_ tys o.type #[a.eval so,a.eval xo]) (zRN h hs hx) (by rw [hex,hae]; rfl)
  case max =>
   cases hm : lxs n args.toList with
   | none => simp [hm] at hl
   | some m =>
    obtain ⟨hlen,hrep⟩ := zCj he _ _ hm
    match m,hlen,hl with
    | [],_,hl => simp [hm] at hl
    | [_],_,hl => simp [hm] at hl
    | _ :: _ :: _ :: _ :: _,_,hl => simp [hm] at hl
    | [s,x,z],hlen,hl =>
     obtain ⟨so,xo,zo,hao⟩ : ∃ so xo zo,args.toList = [so,xo,zo] := by
      match h1 : args.toList,hlen with
      | [so,xo,zo],_ => exact ⟨so,xo,zo,rfl⟩
     have hae : args.map a.eval = #[a.eval so,a.eval xo,a.eval zo] := by apply zZ4; simp [hao]
     have hs : Rp w X ρ H (ev e s) (a.eval so) := hrep 0 _ _ rfl (by simp [hao])
     have hx : Rp w X ρ H (ev e x) (a.eval xo) := hrep 1 _ _ rfl (by simp [hao])
     have hz : Rp w X ρ H (ev e z) (a.eval zo) := hrep 2 _ _ rfl (by simp [hao])
     simp only [hm,zYT] at hl
     subst hl
     exact zAr (s := Builtin.max_ tys o.type #[a.eval so,a.eval xo,a.eval zo]) (zPl h hs hx hz) (by rw [hex,hae]; rfl)
    | [s,x],hlen,hl =>
     obtain ⟨so,xo,hao⟩ : ∃ so xo,args.toList = [so,xo] := by
      match h1 : args.toList,hlen with
      | [so,xo],_ => exact ⟨so,xo,rfl⟩
     have hae : args.map a.eval = #[a.eval so,a.eval xo] := by apply zZ4; simp [hao]
     have hs : Rp w X ρ H (ev e s) (a.eval so) := hrep 0 _ _ rfl (by simp [hao])
     have hx : Rp w X ρ H (ev e x) (a.eval xo) := hrep 1 _ _ rfl (by simp [hao])
     simp only [hm,zYT] at hl
     subst hl
     exact zAr (s := Builtin.max_ tys o.type #[a.eval so,a.eval xo]) (zRO h hs hx) (by rw [hex,hae]; rfl)
end
section
variable {P : Program} {w : World} {X : Nat → Prop} {ρ : Nat → Loc} {H : zA} {e : Env} {a : Act} {n : Nat}
theorem zEX (he : ER w X ρ H n e a) {o : Option Operand} {x : Option LX} (h : lxo n o = some x) : RpO w X ρ H (x.map (ev e)) (o.map a.eval) := by
 cases o with
 | none => simp [lxo] at h; subst h; trivial
 | some o =>
  obtain ⟨y,h1,h2⟩ := zAe h
  subst h2
  exact zV he h1
theorem zQL {M : Nat → Prop} {ρ : Nat → Loc} {k : Nat} {y u : Value} (h : Rep w M ρ k (.v y) u) : u = y := by cases h; rfl
theorem zH9 {M : Nat → Prop} {ρ : Nat → Loc} {k : Nat} : ∀ {cs : List AV} {l us : List Value},zHl cs = some l → cs.length = us.length → (∀ (i : Nat) (x : AV) (u : Value),cs[i]? = some x → us[i]? = some u → Rep w M ρ k x u) → us = l
 | [],l,us,h,hl,_ => by
  simp only [zHl,zYT] at h
  subst h
  exact zZh.1 hl.symm
 | .v v :: cs,l,us,h,hl,hr => by
  match us,hl with
  | u :: us,hl =>
   simp only [zHl] at h
   obtain ⟨m,hm,rfl⟩ := zAe h
   have h1 := zQL (hr 0 _ _ rfl rfl)
   have h2 := zH9 hm (us := us) (by simpa using hl) fun i x u hx hu => hr (i + 1) x u (by simpa using hx) (by simpa using hu)
   rw [h1,h2]
 | .any :: _,_,_,h,_,_ | .agg _ :: _,_,_,h,_,_ | .tup _ :: _,_,_,h,_,_ | .sl .. :: _,_,_,h,_,_ | .vp .. :: _,_,_,h,_,_ | .fn .. :: _,_,_,h,_,_ | .mp .. :: _,_,_,h,_,_
 | .os .. :: _,_,_,h,_,_ | .ptr .. :: _,_,_,h,_,_ | .pe .. :: _,_,_,h,_,_ | .om .. :: _,_,_,h,_,_ | .nc :: _,_,_,h,_,_ | .bnil _ :: _,_,_,h,_,_ => by cases h
theorem zKd {M : Nat → Prop} {ρ : Nat → Loc} {k : Nat} {x : AV} {v u : Value} (h : zO5 x = some v) (hr : Rep w M ρ k x u) : u = v := by
 cases x with
 | v y => simp only [zO5,zYT] at h; subst h; exact zQL hr
 | agg cs =>
  simp only [zO5] at h
  obtain ⟨l,hl,rfl⟩ := zAe h
  cases hr with
  | agg _ _ us h1 h2 =>
   have := zH9 hl (us := us.toList) (by simpa using h1) fun i x u hx hu => h2 i x u hx (by simpa using hu)
   rw [← this]
 | _ => cases h
theorem zIr {t : TypeId} {z : Value} (hz : zA2 P t = some z) (w : World) : (zeroValue t).run P w = .ok z w := by
 unfold zA2 at hz
 cases hi : P.info? t with
 | none => simp [hi] at hz
 | some i => simp [hi] at hz; simp [zeroValue,typeInfo,hi,hz]
theorem zRF (v : Value) : vA v = zJc v := by cases v <;> rfl
theorem zLZ {d : Nat} {t : TypeId} {ms : Array (String × TypeId)} (ht : P.underlying t = some (.interface ms)) : (Op.equalIn (d + 1) t .nilIface .nilIface).run P w = .ok true w := by
 simp [Op.equalIn,run_underlying ht]
theorem zOg {t : TypeId} {ms : Array (String × TypeId)} (ht : P.underlying t = some (.interface ms)) : (Op.equal t .nilIface .nilIface).run P w = .ok true w := zLZ (d := 9999) ht
theorem zJW {d : Nat} {t : TypeId} {ms : Array (String × TypeId)} {t' : TypeId} {v : Value} (ht : P.underlying t = some (.interface ms)) : (Op.equalIn (d + 1) t (.iface t' v) .nilIface).run P w = .ok false w := by
 simp [Op.equalIn,run_underlying ht]
theorem zLY {t : TypeId} {ms : Array (String × TypeId)} {t' : TypeId} {v : Value} (ht : P.underlying t = some (.interface ms)) : (Op.equal t (.iface t' v) .nilIface).run P w = .ok false w := zJW (d := 9999) ht
theorem zGX {op : BinOp} {t : TypeId} {x : Operand} {u : Value} : (eqGuard op t x (.const .nilIface) u .nilIface).run P w = .ok () w := by
 cases op <;> simp [eqGuard] <;> cases u <;> simp
theorem zPk {o : Oper} {op : BinOp} {t yt : TypeId} {ox oy : Operand} {ms : Array (String × TypeId)} {neg : Bool} {x : AV} (ho : o.op = .binOp op t ox oy yt) (hu : P.underlying t = some (.interface ms)) (hq : zOX op = some neg) (hy : oy = .const .nilIface)
  (h : HRel w X ρ H) (hx : Rp w X ρ H x (a.eval ox)) : zMj P o a w X ρ H (rNilI neg x H) := by
 subst hy
 cases x with
 | v v =>
  have hv := zAJ hx
  cases v <;> first | exact zFV | skip
  case iface t' v =>
   intro _
   refine ⟨.bool neg,w,ρ,.inl ?_,h,.v _ _,Fut.refl _ _ _⟩
   unfold execOp
   rw [ho]
   simp only [show a.eval (.const .nilIface) = .nilIface from rfl,hv]
   cases op <;> simp [zOX] at hq <;> subst hq <;> simp [zGX,binOp,zLY hu]
  case nilIface =>
   intro _
   refine ⟨.bool (!neg),w,ρ,.inl ?_,h,.v _ _,Fut.refl _ _ _⟩
   unfold execOp
   rw [ho]
   simp only [show a.eval (.const .nilIface) = .nilIface from rfl,hv]
   cases op <;> simp [zOX] at hq <;> subst hq <;> simp [zGX,binOp,zOg hu]
 | _ => exact zFV
theorem zPr {t xt : TypeId} {d : TypeDesc} {z : Value} {x : AV} {u : Value} (hu : P.underlying t = some d) (hni : ∀ ms,d ≠ .interface ms) (hz : zA2 P t = some z) (h : HRel w X ρ H) (hx : Rp w X ρ H x u) :
  zAP P (Instr.typeAssert u xt t true) w X ρ H (rAsrt t (zJc z) x H) := by
 have two : ∀ (y : AV) (b : Bool) (v : Value),Rp w X ρ H y v → Rp w X ρ H (.tup [y,bool b]) (.tuple #[v,.bool b]) := fun y b v hv => by
  refine .tup _ _ _ rfl fun i x u hx hu => ?_
  match i with
  | 0 => simp at hx hu; subst hx; subst hu; exact hv
  | 1 => simp at hx hu; subst hx; subst hu; exact .v _ _
  | n + 2 => simp at hx
 cases x with
 | v v =>
  have hv := zAJ hx
  subst hv
  cases u <;> first | exact zE | skip
  case iface t' v =>
   refine zR h fun _ => ?_
   by_cases ht : t' = t
   ·rw [if_pos ht]
    refine ⟨.tuple #[v,.bool true],?_,two _ _ _ (by rw [zRF]; exact zDw v)⟩
    unfold Instr.typeAssert
    rw [Sem.run_bind,run_underlying hu,Result.andThen_ok]
    cases d <;> first | exact absurd rfl (hni _) | simp [ht]
   ·rw [if_neg ht]
    refine ⟨.tuple #[z,.bool false],?_,two _ _ _ (zDw z)⟩
    unfold Instr.typeAssert
    rw [Sem.run_bind,run_underlying hu,Result.andThen_ok]
    cases d <;> first | exact absurd rfl (hni _) | simp [ht,zIr hz]
  case nilIface =>
   refine zR h fun _ => ⟨.tuple #[z,.bool false],?_,two _ _ _ (zDw z)⟩
   unfold Instr.typeAssert
   rw [Sem.run_bind,run_underlying hu,Result.andThen_ok]
   cases d <;> first | exact absurd rfl (hni _) | simp [zIr hz]
 | _ => exact zE
theorem zLk {t kt el : TypeId} {x : AV} {u : Value} (hu : P.underlying t = some (.map kt el)) (h : HRel w X ρ H) (hx : Rp w X ρ H x u) : zAP P (Instr.range t u) w X ρ H (rRangeM x H) := by
 cases x with
 | mp ks vs =>
  intro _
  have hx' := hx.of_cl (by simp [AV.cl])
  cases hx with
  | mp _ _ _ m es clock hm hb hh hks hvs hr =>
   have hle : ks.length = es.size := by rw [hks.1]; simp
   have hle2 : ∀ i,i ∈ List.range ks.length ↔ ∃ e,es[i]? = some e ∧ (#[] : Array Nat).contains e.born = false := by
    intro i
    rw [zZE,hle]
    constructor
    ·intro hi; exact ⟨es[i],by simp [hi],by simp⟩
    ·rintro ⟨e,he,_⟩; exact (zY8.1 he).1
   obtain ⟨ρ',hl,hrel,hf⟩ := h.push (w' := w.alloc (.mapIter (some m) clock #[] clock)) { blk := some (w.heap.size,0) } (.mit ks vs (List.range ks.length) none) (Same.alloc _ _) (fun b o hb => by simp at hb; obtain ⟨rfl,_⟩ := hb; simp) (zAN w _)
    (fun ρ' hf hl' => ⟨rfl,w.heap.size,m,es,clock,clock,#[],clock,rfl,zBz w _,by rw [zAN w _ m hb]; exact hh,hx'.next hf (zZm _),hks.2.1,⟨zZa _,zZa _⟩,hle2,fun i hi => by cases hi⟩)
   refine ⟨.pointer (some ⟨w.heap.size,0,none⟩),_,ρ',run_range_map w t kt el m es clock hu hh,hrel,?_,hf⟩
   exact .ptr _ _ _ _ _ (by show H.length < (H ++ [_]).length; simp) (by rw [hl]; exact zZa _) rfl fun _ => ⟨w.heap.size,0,by rw [hl],rfl⟩
 | _ => exact zE
theorem zPS {es : Array MapEntry} {seen : Array Nat} {e : MapEntry} {i : Nat} (hnd : (es.toList.map (·.born)).Nodup) (he : es[i]? = some e) (j : Nat) :
  ((∃ e',es[j]? = some e' ∧ seen.contains e'.born = false) ∧ j ≠ i) ↔ ∃ e',es[j]? = some e' ∧ (seen.push e.born).contains e'.born = false := by
 have hinj : ∀ e',es[j]? = some e' → e'.born = e.born → j = i := by
  intro e' he' hb
  have hj : j < (es.toList.map (·.born)).length := by simp; exact (zY8.1 he').1
  have hi : i < (es.toList.map (·.born)).length := by simp; exact (zY8.1 he).1
  obtain ⟨_,h1⟩ := zY8.1 he'
  obtain ⟨_,h2⟩ := zY8.1 he
  have heq : (es.toList.map (·.born))[j] = (es.toList.map (·.born))[i] := by simp [h1,h2,hb]
  have hp := List.pairwise_iff_getElem.1 hnd
  rcases zzbj j i with hlt | hlt | hlt
  ·exact absurd heq (hp j i hj hi hlt)
  ·exact hlt
  ·exact absurd heq.symm (hp i j hi hj hlt)
 constructor
 ·rintro ⟨⟨e',he',hs⟩,hne⟩
  refine ⟨e',he',?_⟩
  have : e'.born ≠ e.born := fun hb => hne (hinj e' he' hb)
  simp at hs ⊢
  exact ⟨hs,this⟩
 ·rintro ⟨e',he',hs⟩
  simp at hs
  refine ⟨⟨e',he',by simpa using hs.1⟩,fun hji => ?_⟩
  subst hji
  rw [he] at he'
  cases he'
  exact hs.2 rfl
theorem zQ2 {r : Nat} {ks : List Value} {vs : List AV} {left : List Nat} {cur : Option Nat} {u : Value} (h : HRel w X ρ H) (hx : Rp w X ρ H (.ptr r 0 0) u) (ho : H[r]? = some (.mit ks vs left cur)) :
  ∃ b m es clock since seen c0,r < H.length ∧ u = .pointer (some ⟨b,0,none⟩) ∧ (ρ r).blk = some (b,0) ∧ (ρ r).ver = 0 ∧ w.heap[b]? = some (.mapIter (some m) since seen c0) ∧ w.heap[m]? = some (.map es clock) ∧ Rep w (Mut X ρ H.length) ρ 0 (.mp ks vs) (.map (some m)) ∧ zV4 es clock since seen c0 left cur := by
 obtain ⟨h1,b,m,es,clock,since,seen,c0,h2,h3,h4,h5,h6⟩ := h.objs r _ ho
 cases hx with
 | ptr _ _ _ _ _ hr hle hone hp =>
  obtain ⟨b',o',hb',rfl⟩ := hp h1.symm
  rw [h2] at hb'
  simp only [zYT,zZi] at hb'
  obtain ⟨rfl,rfl⟩ := hb'
  exact ⟨b,m,es,clock,since,seen,c0,hr,rfl,h2,h1,h3,h4,h5,h6⟩
theorem zNy {ks : List Value} {vs : List AV} {m : Nat} {es : Array MapEntry} {clock : Nat} (hrep : Rep w (Mut X ρ H.length) ρ 0 (.mp ks vs) (.map (some m))) (hm : w.heap[m]? = some (.map es clock)) :
  zXg ks es clock ∧ vs.length = es.size ∧ ¬ Mut X ρ H.length m ∧ m < w.heap.size ∧ ∀ (i : Nat) (e : MapEntry),es[i]? = some e → ks.getD i default = e.key ∧ Rep w (Mut X ρ H.length) ρ 0 (vs.getD i .any) e.val := by
 cases hrep with
 | mp _ _ _ _ es' clock' hmm hb hh hks hvs hr =>
  rw [hm] at hh
  simp only [zYT,Obj.map.injEq] at hh
  obtain ⟨rfl,rfl⟩ := hh
  refine ⟨hks,hvs,hmm,hb,fun i e he => ⟨?_,?_⟩⟩
  ·rw [hks.1]; simp [zZd,he]
  ·have hi : i < es.size := (zY8.1 he).1
   have hv : vs[i]? = some (vs.getD i .any) := by
    rw [zZd,zZe (by omega),zZR]
   exact hr i _ e hv he
theorem zLm {x : AV} {u : Value} (h : HRel w X ρ H) (hx : Rp w X ρ H x u) : zAP P (Instr.entry u) w X ρ H (rEntryM x H) := by
 unfold rEntryM
 split
 ·rename_i r
  unfold rEntryO
  split
  ·rename_i ks vs left i ho
   refine zR h fun _ => ?_
   obtain ⟨b,m,es,clock,since,seen,c0,hr,rfl,h2,h1,h3,h4,h5,h6⟩ := zQ2 h hx ho
   obtain ⟨g1,g2,g3,g4⟩ := h6
   obtain ⟨e,seen0,he,rfl,rfl⟩ := g4 i rfl
   obtain ⟨hks,hvs,_,_,hkv⟩ := zNy h5 h4
   obtain ⟨k1,k2⟩ := hkv i e he
   have hmem : e ∈ es.toList := by
    obtain ⟨hi,rfl⟩ := zY8.1 he
    simp
   refine ⟨_,run_entry_at w b m since seen0 es _ e h3 h4 hmem hks.2.2,?_⟩
   refine .tup _ _ _ rfl fun j x u hx hu => ?_
   match j with
   | 0 => simp at hx hu; subst hx; subst hu; rw [← k1,zZd]; exact .v _ _
   | 1 => simp at hx hu; subst hx; subst hu; rw [← zZd]; exact k2.mono (zZm _)
   | n + 2 => simp at hx
  ·exact zE
 ·exact zE
theorem zMD {ty : TypeId} {K : AV → zA → Prop} {x : AV} {u : Value} (h : HRel w X ρ H) (hx : Rp w X ρ H x u) (hk : nextA x H K) :
  ∃ u' x' H' w' ρ',(Instr.next u false ty).run P w = .ok u' w' ∧ K x' H' ∧ HRel w' X ρ' H' ∧ Rep w' (Mut X ρ' H'.length) ρ' H'.length x' u' ∧ Fut w ρ H.length w' ρ' H'.length := by
 unfold nextA at hk
 split at hk
 ·rename_i r
  unfold zSq at hk
  split at hk
  ·rename_i ks vs left cur ho
   obtain ⟨k0,k1⟩ := hk
   obtain ⟨b,m,es,clock,since,seen,c0,hr,rfl,h2,h1,h3,h4,h5,h6⟩ := zQ2 h hx ho
   obtain ⟨g1,g2,g3,g4⟩ := h6
   obtain ⟨hks,hvs,hmm,hmlt,hkv⟩ := zNy h5 h4
   rcases run_next_at (P := P) w ty b m since c0 seen es clock h3 h4 g1 g2.1 with ⟨hl0,hrun⟩ | ⟨e,hel,w1,hw1,hrun⟩
   ·have hle : left = [] := by
     apply zZS.2
     intro i hi
     obtain ⟨e,he,hs⟩ := (g3 i).1 hi
     have hmem : e ∈ leftOf es seen := by
      unfold leftOf
      rw [Array.mem_filter]
      exact ⟨Array.mem_of_getElem? he,by simpa using hs⟩
     have := Array.size_pos_of_mem hmem
     omega
    refine ⟨_,_,_,w,ρ,hrun,k0 hle,h,?_,Fut.refl _ _ _⟩
    refine .tup _ _ _ rfl fun j x u hx hu => ?_
    match j with
    | 0 => simp at hx hu; subst hx; subst hu; exact .v _ _
    | n + 1 => simp at hx
   ·have hel' : e ∈ es ∧ seen.contains e.born = false := by
     have : e ∈ leftOf es seen := by simpa using hel
     unfold leftOf at this
     rw [Array.mem_filter] at this
     exact ⟨this.1,by simpa using this.2⟩
    obtain ⟨i,hi,hie⟩ := Array.getElem_of_mem hel'.1
    have he : es[i]? = some e := by rw [zY8]; exact ⟨hi,hie⟩
    have hil : i ∈ left := (g3 i).2 ⟨e,he,hel'.2⟩
    obtain ⟨q1,q2⟩ := hkv i e he
    have hne : b ≠ m := fun hh => by subst hh; rw [h3] at h4; cases h4
    have hsame : Same w w1 := by rcases hw1 with rfl | rfl; exact Same.refl _; exact Same.drew _
    have hheap : w1.heap = w.heap := by rcases hw1 with rfl | rfl <;> rfl
    have hblt : b < w.heap.size := (h.lt r b 0 hr h2).1
    obtain ⟨ρ',hρ,hrel,hfu⟩ := h.setAt (w' := ChangeMaps.setBlock w1 b (.mapIter (some m) since (seen.push e.born) clock)) hr (ρ r) (.mit ks vs (left.filter fun j => !decide (j = i)) (some i))
     ⟨hsame.os,hsame.tape,hsame.output,by simp [ChangeMaps.setBlock,hheap]⟩ (.inl rfl) (fun b o hb => .inl ⟨o,hb⟩)
     (fun b' _ hne' => by
      have : b ≠ b' := fun hh => hne' 0 (by rw [← hh]; exact h2)
      simp [ChangeMaps.setBlock,hheap,zZW this])
     (fun ρ' _ hf' => by
      refine ⟨h1,b,m,es,clock,since,seen.push e.born,clock,h2,by simp [ChangeMaps.setBlock,hheap,hblt],by simp [ChangeMaps.setBlock,hheap,zZW hne]; exact h4,h5.next hf' (zZm _),g1,?_,fun j => ?_,?_⟩
      ·exact ⟨g2.2,g2.2⟩
      ·rw [zzah,g3 j,← zPS hks.2.2 he j]
       simp
      ·intro j hj
       cases hj
       exact ⟨e,seen,he,rfl,rfl⟩)
    refine ⟨_,_,_,_,ρ',hrun,k1 i hil,hrel,?_,hfu⟩
    refine .tup _ _ _ rfl fun j x u hx hu => ?_
    match j with
    | 0 => simp at hx hu; subst hx; subst hu; exact .v _ _
    | 1 => simp at hx hu; subst hx; subst hu; rw [← q1,zZd]; exact .v _ _
    | 2 => simp at hx hu; subst hx; subst hu; rw [← zZd]; exact (q2.next hfu (zZm _)).mono (zZm _)
    | n + 3 => simp at hx
  ·exact hk.elim
 ·exact hk.elim
theorem zLF {src dst : TypeId} {x : Operand} {lo : LOp} {o : Oper} (ho : o.op = .convert src dst x) (hl : zF1 P n src dst x = some lo) (h : HRel w X ρ H) (he : ER w X ρ H n e a) : zMj P o a w X ρ H (zAW lo e H) := by
 have hex : execOp a.eval o = (do pure (.value (← convert src dst (a.eval x)))) := by unfold execOp; rw [ho]
 unfold zF1 at hl
 cases hs : P.underlying src with
 | none => simp [hs] at hl
 | some sd =>
  cases hd : P.underlying dst with
  | none => cases sd <;> simp [hs,hd] at hl
  | some dd =>
   cases hx : lx n x with
   | none => cases sd <;> cases dd <;> simp [hs,hd,hx] at hl
   | some y =>
    have hr := zV he hx
    cases sd <;> cases dd <;> simp [hs,hd,hx] at hl
    case int.int => subst hl; exact zAr (zDT ⟨⟨_,hs⟩,hd⟩ h hr) hex
    case int.string => subst hl; exact zAr (zDT ⟨⟨_,hs⟩,hd⟩ h hr) hex
    case string.string => subst hl; exact zAr (zDT ⟨hs,hd⟩ h hr) hex
    case string.slice el =>
     cases hu : P.underlying el with
     | none => simp [hu] at hl
     | some ud =>
      cases ud <;> simp [hu] at hl
      rename_i k
      cases k <;> simp at hl
      subst hl
      exact zAr (zDT ⟨hs,el,hd,hu⟩ h hr) hex
    case slice.string el =>
     cases hu : P.underlying el with
     | none => simp [hu] at hl
     | some ud =>
      cases ud <;> simp [hu] at hl
      rename_i k
      cases k <;> first | (simp at hl; done) | skip
      cases hz : zCB P el with
      | none => simp [hz] at hl
      | some z =>
       match z,hl with
       | 1,hl =>
        simp [hz] at hl
        subst hl
        exact zAr (zDT ⟨⟨el,hs,hu⟩,hd⟩ h hr) hex
       | 0,hl => simp [hz] at hl
       | _ + 2,hl => simp [hz] at hl
    case slice.slice el el2 =>
     cases hu : P.underlying el with
     | none => simp [hu] at hl
     | some ud =>
      cases ud <;> simp [hu] at hl
      rename_i k
      cases k <;> simp at hl
      obtain ⟨h1,hl⟩ := hl
      subst hl
      exact zAr (zDT ⟨el,hs,hu,h1⟩ h hr) hex
theorem zNE {imm : Bool} {o : Oper} {lo : LOp} (hl : zDF P n imm o = some lo) (hp : zCR lo = true) (h : HRel w X ρ H) (he : ER w X ρ H n e a) : zMj P o a w X ρ H (zAW lo e H) := by
 unfold zDF at hl
 cases ho : o.op <;> rw [ho] at hl <;> simp only at hl <;> first | (cases hl; done) | skip
 case move x =>
  obtain ⟨y,h1,rfl⟩ := zAe hl
  intro _
  exact ⟨_,w,ρ,.inl (by unfold execOp; rw [ho]; rfl),h,zV he h1,Fut.refl _ _ _⟩
 case assign x =>
  obtain ⟨y,h1,rfl⟩ := zAe hl
  intro _
  exact ⟨_,w,ρ,.inl (by unfold execOp; rw [ho]; rfl),h,zV he h1,Fut.refl _ _ _⟩
 case pick c x y =>
  cases hc : lx n c <;> cases hx : lx n x <;> cases hy : lx n y <;> simp [hc,hx,hy] at hl
  subst hl
  simp [zCR] at hp
 case alloc t =>
  cases hz : zA2 P t with
  | none => simp [hz] at hl
  | some z =>
   simp only [hz,zYT] at hl
   subst hl
   split
   ·exact zAr (zLo hz h) (by unfold execOp; rw [ho])
   ·exact zAr (zMG hz h) (by unfold execOp; rw [ho])
 case box t x =>
  obtain ⟨y,h1,rfl⟩ := zAe hl
  exact zAr (zRU h (zV he h1)) (by unfold execOp; rw [ho])
 case build t ps =>
  unfold zFw at hl
  cases hz : zA2 P t with
  | none => simp [hz] at hl
  | some z =>
   cases z <;> simp only [hz] at hl <;> first | (cases hl; done) | skip
   rename_i z
   cases hu : P.underlying t with
   | none => simp [hu] at hl
   | some d =>
    cases d <;> simp only [hu] at hl <;> first | (cases hl; done) | skip
    case struct fs =>
     cases hpl : zCJ P fs.toList with
     | none => simp [hpl] at hl
     | some pl =>
      simp only [hpl] at hl
      obtain ⟨m,h1,rfl⟩ := zAe hl
      refine zAr (s := Instr.build t (ps.map fun (i,x) => (i,a.eval x))) (zFi hz hu hpl h ?_) (by unfold execOp; rw [ho])
      have := zF0 he _ _ h1
      simpa using this
    case array k el =>
     cases hs : zCB P el with
     | none => simp [hs] at hl
     | some sz =>
      simp only [hs] at hl
      obtain ⟨m,h1,rfl⟩ := zAe hl
      refine zAr (s := Instr.build t (ps.map fun (i,x) => (i,a.eval x))) (zFS hz hu hs h ?_) (by unfold execOp; rw [ho])
      have := zF0 he _ _ h1
      simpa using this
 case buildSlice t len ps =>
  unfold zKF at hl
  cases hu : P.underlying t with
  | none => simp [hu] at hl
  | some d =>
   cases d <;> simp only [hu] at hl <;> first | (cases hl; done) | skip
   rename_i el
   cases hs : zCB P el with
   | none => simp [hs] at hl
   | some sz =>
    cases hz : zA2 P el with
    | none => simp [hs,hz] at hl
    | some z =>
     cases hm : zJK n ps.toList with
     | none => simp [hs,hz,hm] at hl
     | some m =>
      simp only [hs,hz,hm] at hl
      split at hl
      ·rename_i hc
       simp only [zYT] at hl
       subst hl
       refine zAr (s := Instr.buildSlice t len (ps.map fun (i,x) => (i,a.eval x))) (zRT hu hs hz hc.1 hc.2.1 hc.2.2.1 hc.2.2.2 h ?_) (by unfold execOp; rw [ho])
       have := zII he _ _ hm
       simpa using this
      ·cases hl
 case makeMap t r =>
  cases r with
  | some r => cases hl
  | none =>
   simp only [zYT] at hl
   subst hl
   exact zAr (zME h) (by unfold execOp; rw [ho]; rfl)
 case insert t m k x =>
  cases hu : P.underlying t with
  | none => simp [hu] at hl
  | some d =>
   cases d <;> simp only [hu] at hl <;> first | (cases hl; done) | skip
   rename_i kt el
   cases hm : lx n m <;> cases hk : lx n k <;> cases hx : lx n x <;> simp only [hm,hk,hx] at hl <;> first | (cases hl; done) | skip
   obtain ⟨kd,h1,rfl⟩ := zAe hl
   exact zNn (zMF hu h1 h (zV he hm) (zHH (zV he hk)) (zV he hx)) (by unfold execOp; rw [ho])
 case mapUpdate t m k x =>
  cases hu : P.underlying t with
  | none => simp [hu] at hl
  | some d =>
   cases d <;> simp only [hu] at hl <;> first | (cases hl; done) | skip
   rename_i kt el
   cases hm : lx n m <;> cases hk : lx n k <;> cases hx : lx n x <;> simp only [hm,hk,hx] at hl <;> first | (cases hl; done) | skip
   obtain ⟨kd,h1,rfl⟩ := zAe hl
   exact zNn (zMF hu h1 h (zV he hm) (zHH (zV he hk)) (zV he hx)) (by unfold execOp; rw [ho])
 case load t p =>
  cases hag : zE9 P t <;> cases hs : zCB P t <;> cases hx : lx n p <;> simp only [hag,hs,hx] at hl <;> first | (cases hl; done) | skip
  simp only [zYT] at hl
  subst hl
  cases imm with
  | false => exact zAr (zKl hag hs h (zV he hx)) (by unfold execOp; rw [ho])
  | true =>
   refine zAr (r := zCn _ _ _ H) (fun hok => ?_) (by unfold execOp; rw [ho])
   have hr := zV he hx
   generalize ev e _ = x at hok hr ⊢
   cases x <;> first | exact hok.elim | exact zKl hag hs h hr hok
 case store t p x =>
  cases hs : zCB P t <;> cases hq : lx n p <;> cases hx : lx n x <;> simp only [hs,hq,hx] at hl <;> first | (cases hl; done) | skip
  simp only [zYT] at hl
  subst hl
  exact zNn (zMC hs h (zV he hq) (zV he hx)) (by unfold execOp; rw [ho])
 case nilCheck x =>
  obtain ⟨y,h1,rfl⟩ := zAe hl
  exact zLl ho rfl h (zV he h1)
 case binOp op t x y yt =>
  unfold zKG at hl
  have fin : ∀ kd,zIi P t = some kd → ∀ x' y',lx n x = some x' → lx n y = some y' → zMj P o a w X ρ H (zAW (.bin kd op x' y') e H) := fun kd hk x' y' hx hy =>
   zAr (zRV hk h (zV he hx) (zV he hy)) (by unfold execOp; rw [ho])
  have fin2 : (match zIi P t,lx n x,lx n y with | some kd,some x,some y => some (LOp.bin kd op x y) | _,_,_ => none) = some lo → zMj P o a w X ρ H (zAW lo e H) := by
   intro hl
   cases hk : zIi P t <;> cases hx : lx n x <;> cases hy : lx n y <;> simp only [hk,hx,hy] at hl <;> first | (cases hl; done) | skip
   simp only [zYT] at hl
   subst hl
   exact fin _ hk _ _ hx hy
  cases hu : P.underlying t with
  | none => rw [hu] at hl; exact fin2 hl
  | some d =>
   rw [hu] at hl
   cases d <;> first | exact fin2 hl | skip
   case slice el =>
    cases hq : zOX op <;> cases hx : lx n x <;> simp only [hq,hx] at hl <;> first | (cases hl; done) | skip
    split at hl
    ·simp only [zYT] at hl; subst hl; simp [zCR] at hp
    ·cases hl
   case interface ms =>
    cases hq : zOX op <;> cases hx : lx n x <;> simp only [hq,hx] at hl <;> first | (cases hl; done) | skip
    rename_i neg lxx
    split at hl
    ·rename_i hnc
     simp only [zYT] at hl
     subst hl
     have hy : y = .const .nilIface := by
      cases y with
      | const v => cases v <;> first | rfl | (simp [zNU] at hnc; done)
      | _ => simp [zNU] at hnc
     exact zPk ho hu hq hy h (zV he hx)
    ·cases hl
 case unOp op t x =>
  cases op <;> simp only at hl <;> first | (cases hl; done) | skip
  case not =>
   obtain ⟨y,h1,rfl⟩ := zAe hl
   exact zAr (zRK h (zV he h1)) (by unfold execOp; rw [ho])
  case neg =>
   obtain ⟨y,h1,rfl⟩ := zAe hl
   exact zAr (zRL h (zV he h1)) (by unfold execOp; rw [ho])
 case convert src dst x => exact zLF ho hl h he
 case makeFunc f first caps =>
  cases hf : lxs n first.toList <;> cases hc : lxs n caps.toList <;> simp only [hf,hc] at hl <;> first | (cases hl; done) | skip
  simp only [zYT] at hl
  subst hl
  obtain ⟨h1,h2⟩ := zCj he _ _ hf
  obtain ⟨h3,h4⟩ := zCj he _ _ hc
  intro _
  refine ⟨.func f (first.map a.eval) (caps.map a.eval),w,ρ,.inl (by unfold execOp; rw [ho]; rfl),h,?_,Fut.refl _ _ _⟩
  refine .fn _ _ _ _ _ _ (by simpa using h1) (by simpa using h3) (fun i x u hx hu => h2 i x u hx (by simpa using hu)) (fun i x u hx hu => h4 i x u hx (by simpa using hu))
 case makeSlice t l c =>
  cases hu : P.underlying t with
  | none => simp [hu] at hl
  | some d =>
   cases d <;> simp only [hu] at hl <;> first | (cases hl; done) | skip
   rename_i el
   cases hx : lx n l <;> cases hy : lx n c <;> simp only [hx,hy] at hl <;> first | (cases hl; done) | skip
   cases hi : P.info? el with
   | none => simp [hi] at hl
   | some i =>
    simp only [hi] at hl
    cases hz : i.zero with
    | none => simp [hz] at hl
    | some z =>
     simp only [hz] at hl
     split at hl
     ·rename_i hc
      simp only [zYT] at hl
      subst hl
      exact zAr (zRM hu hi hz hc.1 hc.2.1 hc.2.2 h (zV he hx) (zV he hy)) (by unfold execOp; rw [ho])
     ·cases hl
 case slice t x l hi mx =>
  cases mx with
  | some m => cases hl
  | none =>
   cases hu : P.underlying t with
   | none => simp [hu] at hl
   | some d =>
    cases d <;> simp only [hu] at hl <;> first | (cases hl; done) | skip
    case string =>
     cases hx : lx n x <;> cases h1 : lxo n l <;> cases h2 : lxo n hi <;> simp only [hx,h1,h2] at hl <;> first | (cases hl; done) | skip
     simp only [zYT] at hl
     subst hl
     exact zAr (s := Instr.sliceAt t (a.eval x) (l.map a.eval) (hi.map a.eval) none) (zFR (.inl ⟨rfl,hu⟩) h (zV he hx) (zEX he h1) (zEX he h2)) (by unfold execOp; rw [ho]; rfl)
    case slice el =>
     cases hx : lx n x <;> cases h1 : lxo n l <;> cases h2 : lxo n hi <;> simp only [hx,h1,h2] at hl <;> first | (cases hl; done) | skip
     obtain ⟨sz,hs,rfl⟩ := zAe hl
     cases imm with
     | false => exact zAr (s := Instr.sliceAt t (a.eval x) (l.map a.eval) (hi.map a.eval) none) (zFR (.inr ⟨rfl,el,hu,hs⟩) h (zV he hx) (zEX he h1) (zEX he h2)) (by unfold execOp; rw [ho]; rfl)
     | true =>
      refine zAr (s := Instr.sliceAt t (a.eval x) (l.map a.eval) (hi.map a.eval) none) (r := zDg _ _ _ _ _ H) (fun hok => ?_) (by unfold execOp; rw [ho]; rfl)
      have hr := zV he hx
      have g1 := zEX he h1
      have g2 := zEX he h2
      generalize ev e _ = x0 at hok hr ⊢
      cases x0 <;> first | exact hok.elim | exact zFR (.inr ⟨rfl,el,hu,hs⟩) h hr g1 g2 hok
 case fieldAddr s p f =>
  cases hu : P.underlying s with
  | none => simp [hu] at hl
  | some d =>
   cases d <;> simp only [hu] at hl <;> first | (cases hl; done) | skip
   rename_i fs
   cases hx : lx n p with
   | none => simp [hx] at hl
   | some y =>
    simp only [hx] at hl
    cases hf : fs[f]? with
    | none => simp [hf] at hl
    | some fd =>
     simp only [hf] at hl
     cases hn : zCB P fd.type with
     | none => simp [hn] at hl
     | some k =>
      cases k with
      | zero => simp [hn] at hl
      | succ k =>
       simp only [hn,zYT] at hl
       subst hl
       cases imm with
       | false => exact zAr (zIo hu hf hn (by omega) h (zV he hx)) (by unfold execOp; rw [ho])
       | true =>
        refine zAr (r := zBB _ _ H) (fun hok => ?_) (by unfold execOp; rw [ho])
        have hr := zV he hx
        generalize ev e _ = x at hok hr ⊢
        cases x <;> first | exact hok.elim | exact zIo hu hf hn (by omega) h hr hok
 case field s x f =>
  cases hu : P.underlying s with
  | none => simp [hu] at hl
  | some d =>
   cases d <;> simp only [hu] at hl <;> first | (cases hl; done) | skip
   rename_i fs
   cases hx : lx n x with
   | none => simp [hx] at hl
   | some y =>
    simp only [hx] at hl
    cases hf : fs[f]? with
    | none => simp [hf] at hl
    | some fd =>
     simp only [hf] at hl
     cases hag : zE9 P fd.type <;> cases hn : zCB P fd.type <;> simp only [hag,hn] at hl <;> first | (cases hl; done) | skip
     simp only [zYT] at hl
     subst hl
     exact zAr (zRR hu hf hag hn h (zV he hx)) (by unfold execOp; rw [ho])
 case indexAddr t x i =>
  cases hu : P.underlying t with
  | none => simp [hu] at hl
  | some d =>
   cases d <;> simp only [hu] at hl <;> first | (cases hl; done) | skip
   cases hx : lx n x <;> cases hi : lx n i <;> simp only [hx,hi] at hl <;> first | (cases hl; done) | skip
   obtain ⟨sz,hs,rfl⟩ := zAe hl
   cases imm with
   | false => exact zAr (zIn hu hs h (zV he hx) (zV he hi)) (by unfold execOp; rw [ho])
   | true =>
    refine zAr (r := zDh _ _ _ H) (fun hok => ?_) (by unfold execOp; rw [ho])
    have hr := zV he hx
    have hr2 := zV he hi
    generalize ev e _ = x at hok hr ⊢
    cases x <;> first | exact hok.elim | exact zIn hu hs h hr hr2 hok
 case index t x i =>
  cases hu : P.underlying t with
  | none => simp [hu] at hl
  | some d =>
   cases d <;> simp only [hu] at hl <;> first | (cases hl; done) | skip
   cases hx : lx n x <;> cases hi : lx n i <;> simp only [hx,hi] at hl <;> first | (cases hl; done) | skip
   simp only [zYT] at hl
   subst hl
   exact zAr (zRQ hu h (zV he hx) (zV he hi)) (by unfold execOp; rw [ho])
 case lookup t m k ok =>
  cases hu : P.underlying t with
  | none => simp [hu] at hl
  | some d =>
   cases d <;> simp only [hu] at hl <;> first | (cases hl; done) | skip
   cases hx : lx n m <;> cases hi : lx n k <;> simp only [hx,hi] at hl <;> first | (cases hl; done) | skip
   rename_i kt el _ _
   cases hk : zF4 P kt <;> cases hz : zA2 P el <;> simp only [hk,hz] at hl <;> first | (cases hl; done) | skip
   simp only [zYT] at hl
   subst hl
   exact zAr (zPm hu hk hz h (zV he hx) (zHH (zV he hi))) (by unfold execOp; rw [ho])
 case extract x i =>
  obtain ⟨y,h1,rfl⟩ := zAe hl
  exact zAr (zRS h (zV he h1)) (by unfold execOp; rw [ho])
 case typeAssert x xt t ok =>
  cases ok with
  | false => cases hl
  | true =>
   simp only at hl
   cases hu : P.underlying t with
   | none => simp [hu] at hl
   | some d =>
    have hni : ∀ ms,d ≠ .interface ms := by
     rintro ms rfl
     simp [hu] at hl
    cases hx : lx n x <;> cases hz : zA2 P t <;> cases d <;> simp only [hu,hx,hz] at hl <;> first | (cases hl; done) | skip
    all_goals
     simp only [zYT] at hl
     subst hl
     exact zAr (zPr hu hni hz h (zV he hx)) (by unfold execOp; rw [ho])
 case makeInterface t x =>
  cases hx : lx n x <;> cases hu : P.underlying t <;> simp only [hx,hu] at hl <;> first | (cases hl; done) | skip
  rename_i y d
  split at hl
  ·rename_i hni
   simp only [zYT] at hl
   subst hl
   refine zAr (s := Instr.makeInterface t (a.eval x)) ?_ (by unfold execOp; rw [ho])
   have hr := zV he hx
   simp only [zAW,rMkif]
   cases hv : zO5 (ev e y) with
   | none => exact zE
   | some v =>
    refine zR h fun _ => ⟨.iface t v,?_,.v _ _⟩
    rw [zKd hv hr]
    cases d <;> simp [zFv] at hni <;> simp [Instr.makeInterface,run_underlying hu]
  ·cases hl
 case range t x =>
  cases hu : P.underlying t with
  | none => simp [hu] at hl
  | some d =>
   cases d <;> simp only [hu] at hl <;> first | (cases hl; done) | skip
   obtain ⟨y,h1,rfl⟩ := zAe hl
   exact zAr (zLk hu h (zV he h1)) (by unfold execOp; rw [ho])
 case next x s =>
  cases s with
  | true => cases hl
  | false =>
   obtain ⟨y,h1,rfl⟩ := zAe hl
   simp [zCR] at hp
 case panic x =>
  obtain ⟨y,h1,rfl⟩ := zAe hl
  exact zFV
 case entry x =>
  obtain ⟨y,h1,rfl⟩ := zAe hl
  exact zAr (zLm h (zV he h1)) (by unfold execOp; rw [ho])
 case call c =>
  split at hl
  ·exact zJO ho hl hp h he
  ·exact zLG ho hl hp h he
end
set_option linter.unusedVariables false
section
variable {P : Program} {w : World} {X : Nat → Prop} {ρ : Nat → Loc} {H : zA} {e : Env} {a : Act} {n : Nat}
abbrev Cont (X : Nat → Prop) (w : World) (ρ : Nat → Loc) (H : zA) (a : Act) (d : Option Nat) (K : AV → zA → Prop) (next : Act → World → Prop) : Prop :=
 ∀ u x H' ρ' w',K x H' → HRel w' X ρ' H' → Rep w' (Mut X ρ' H'.length) ρ' H'.length x u → Fut w ρ H.length w' ρ' H'.length → next (a.put d u) w'
theorem zOH {lo : LOp} (hp : zCR lo = true) {K : AV → zA → Prop} (h : aop P lo e H K) : (zAW lo e H).ok ∧ K (zAW lo e H).x (zAW lo e H).H := by
 cases lo <;> first | exact h | (simp [zCR] at hp)
theorem zLp {x : AV} {u : Value} (h : HRel w X ρ H) (hx : Rp w X ρ H x u) (hs : slcK H x) : ∃ b l c,u = .slice b l c ∧ nilOk x b.isNone := by
 cases x with
 | v x =>
  have := zAJ hx; subst this
  cases u with
  | slice b l c => cases b <;> cases l <;> cases c <;> simp [slcK] at hs; exact ⟨_,_,_,rfl,rfl⟩
  | _ => simp [slcK] at hs
 | sl sz xs =>
  cases hx with
  | slE _ _ b c => exact ⟨b,0,c,rfl,fun _ => rfl⟩
  | slN => exact ⟨_,_,_,rfl,fun hh => by simp at hh⟩
 | os r ver off len =>
  obtain ⟨hb,hv⟩ := hs
  obtain ⟨v,sz,xs,ho⟩ := zBo hb
  rw [ho] at hv
  obtain ⟨_,_,_,_,_,_,⟨b,c,rfl,hlc,hcap⟩,_⟩ := zEa h hx ho hv
  refine ⟨_,_,_,rfl,fun hh => ?_⟩
  rcases hcap with h0 | ⟨_,_,_,rfl,_⟩
  ·omega
  ·simp at hh
 | nc => cases hx; exact ⟨_,_,_,rfl,trivial⟩
 | _ => simp [slcK] at hs
theorem zLX {d : Nat} {t el : TypeId} {b : Option Addr} {l c : Nat} (ht : P.underlying t = some (.slice el)) : (Op.equalIn (d + 1) t (.slice b l c) (.slice none 0 0)).run P w = .ok b.isNone w := by
 cases b <;> simp [Op.equalIn,run_underlying ht]
theorem zIY {t el : TypeId} {b : Option Addr} {l c : Nat} (ht : P.underlying t = some (.slice el)) : (Op.equal t (.slice b l c) (.slice none 0 0)).run P w = .ok b.isNone w :=
 zLX (d := 9999) ht
abbrev WR (r : Option Nat) : Fence := { Fence.wide with round := r }
theorem zEr {r : Option Nat} {k : Nat} : (WR r).depth.isSome = true → 1 ≤ k := fun h => by cases h
theorem zD3 {r : Option Nat} {m : Nat} {f : FuncId} {args : Array Value} {R : Ending → World → Prop} (h : Calls P f args w R) : CallsIn (WR r) m P f args w R := (callsIn_wide (n := m)).2 h
theorem zLr {r : Option Nat} {m m' : Nat} {l : Nat} {f : FuncId} {tmps : Array Value} {asg bdy : Code} {R : Ending → World → Prop} (h : RoundIn Fence.wide m P l f tmps asg bdy w R) : RoundIn (WR r) m' P l f tmps asg bdy w R :=
 ⟨trivial,fun c cs _ => h.2 c cs (room_wide _)⟩
theorem zBw {r : Option Nat} {m : Nat} {o : Oper} {next : Act → World → Prop} {Q : Exit → Act → World → Prop} (hd : ∀ c,o.op ≠ .defer c) (h : o.uponIn (WR r) m P a next Q ((execOp a.eval o).run P w)) : o.wpIn (WR r) m P a w next Q :=
 ⟨fun _ _ => trivial,by rw [Oper.semAt_eq _ _ _ hd]; exact h⟩
theorem zJJ {imm : Bool} {o : Oper} {lo : LOp} (hl : zDF P n imm o = some lo) (c : Call) : o.op ≠ .defer c := fun hc => by
 unfold zDF at hl; rw [hc] at hl; cases hl
theorem zTc {x : Value} {args : List AV} {K : AV → zA → Prop} (h : zGA P (.v x) args H K) : ∃ l,x = .func (.yield l) #[] #[] ∧ AYield P l args H K := by
 unfold zGA at h
 split at h
 ·rename_i he; cases he
 ·rename_i l he; cases he; exact ⟨l,rfl,h⟩
 ·exact h.elim
def zKw : Option LOp → Bool
 | some lo => zCR lo
 | none => true
theorem zOG {r : Option Nat} {m0 : Nat} {imm : Bool} {o : Oper} {K : AV → zA → Prop} (hop : aop P (zIJ P n imm o) e H K) (h : HRel w X ρ H) (he : ER w X ρ H n e a) {next : Act → World → Prop} {Q : Exit → Act → World → Prop}
  (hn : Cont X w ρ H a o.dst K next) : o.wpIn (WR r) m0 P a w next Q := by
 unfold zIJ at hop
 cases hl : zDF P n imm o with
 | none => rw [hl] at hop; exact hop.1.elim
 | some lo =>
  rw [hl] at hop
  simp only [zZR] at hop
  have hnd := zJJ hl
  by_cases hp : zCR lo = true
  ·obtain ⟨h1,h2⟩ := zOH hp hop
   obtain ⟨u,w',ρ',hr,g1,g2,g3⟩ := zNE hl hp h he h1
   refine zBw hnd ?_
   rcases hr with hr | ⟨hr,rfl⟩
   ·rw [hr]; exact hn _ _ _ _ _ h2 g1 g2 g3
   ·rw [hr]; exact hn _ _ _ _ _ h2 g1 g2 g3
  ·unfold zDF at hl
   cases ho : o.op <;> rw [ho] at hl <;> simp only at hl <;> first | (cases hl; done) | skip
   case pick c x y =>
    cases hc : lx n c <;> cases hx : lx n x <;> cases hy : lx n y <;> simp [hc,hx,hy] at hl
    subst hl
    have rc := zV he hc
    have rx := zV he hx
    have ry := zV he hy
    simp only [aop] at hop
    refine zBw hnd ?_
    unfold execOp
    rw [ho]
    split at hop
    ·rename_i t htb
     rw [htb] at rc
     have hcv := zAJ rc
     split at hop
     ·rename_i hb
      subst hb
      simp only [hcv,asBool,Sem.run_bind,Sem.run_pure,Result.andThen_ok,if_true]
      exact hn _ _ _ _ _ hop h rx (Fut.refl _ _ _)
     ·rename_i hb
      have hb' : t = false := by simpa using hb
      subst hb'
      simp only [hcv,asBool,Sem.run_bind,Sem.run_pure,Result.andThen_ok,zZn,if_false]
      exact hn _ _ _ _ _ hop h ry (Fut.refl _ _ _)
    ·exact hop.elim
   case binOp op t x y yt =>
    unfold zKG at hl
    have bad : (match zIi P t,lx n x,lx n y with | some kd,some x,some y => some (LOp.bin kd op x y) | _,_,_ => none) = some lo → False := by
     intro hl
     cases hk : zIi P t <;> cases hx : lx n x <;> cases hy : lx n y <;> simp only [hk,hx,hy] at hl <;> first | (cases hl; done) | skip
     simp only [zYT] at hl
     subst hl
     simp [zCR] at hp
    cases hu : P.underlying t with
    | none => rw [hu] at hl; exact (bad hl).elim
    | some d =>
     rw [hu] at hl
     cases d <;> first | exact (bad hl).elim | skip
     case interface ms =>
      cases hq : zOX op <;> cases hx : lx n x <;> simp only [hq,hx] at hl <;> first | (cases hl; done) | skip
      split at hl
      ·simp only [zYT] at hl; subst hl; simp [zCR] at hp
      ·cases hl
     rename_i el
     cases hq : zOX op <;> cases hx : lx n x <;> simp only [hq,hx] at hl <;> first | (cases hl; done) | skip
     rename_i neg lxx
     split at hl
     ·rename_i hnc
      simp only [zYT] at hl
      subst hl
      obtain ⟨hs,hK⟩ := hop
      obtain ⟨b,l,c,hae,hnil⟩ := zLp h (zV he hx) hs
      have hy : a.eval y = .slice none 0 0 := by
       cases y with
       | const v => cases v with
        | slice b l c => cases b <;> cases l <;> cases c <;> simp [zKN] at hnc; rfl
        | _ => simp [zKN] at hnc
       | _ => simp [zKN] at hnc
      have hex : (execOp a.eval o).run P w = .ok (.value (.bool (b.isNone ^^ neg))) w := by
       unfold execOp
       rw [ho]
       cases op <;> simp [zOX] at hq <;> subst hq
       ·simp [hae,hy,eqGuard_at_slice,binOp,zIY hu]
       ·simp [hae,hy,eqGuard_at_slice,binOp,zIY hu]
      refine zBw hnd ?_
      rw [hex]
      exact hn _ _ _ _ _ (hK _ hnil) h (.v _ _) (Fut.refl _ _ _)
     ·cases hl
   case next x s =>
    cases s with
    | true => cases hl
    | false =>
     obtain ⟨y,h1,rfl⟩ := zAe hl
     obtain ⟨u',x',H',w',ρ',q1,q2,q3,q4,q5⟩ := zMD (P := P) (ty := o.type) h (zV he h1) hop
     have hex : (execOp a.eval o).run P w = .ok (.value u') w' := by
      unfold execOp
      rw [ho]
      simp [q1]
     refine zBw hnd ?_
     rw [hex]
     exact hn _ _ _ _ _ q2 q3 q4 q5
   case call c =>
    obtain ⟨lo,hl,hop,hp⟩ : ∃ lo,zDj P n c = some lo ∧ aop P lo e H K ∧ ¬ zCR lo = true := by
     split at hl
     ·rcases zGy hl with hq | ⟨f,g,m,h1,h2,h3,rfl⟩
      ·exact absurd hq hp
      ·exact ⟨.call g m,by unfold zDj; simp only [h1,h2,h3],hop,by simp [zCR]⟩
     ·exact ⟨lo,hl,hop,hp⟩
    obtain ⟨callee,args,tys⟩ := c
    unfold zDj at hl
    cases callee with
    | value f =>
     simp only at hl
     cases hf : lx n f with
     | none => simp [hf] at hl
     | some g =>
      cases hm : lxs n args.toList with
      | none => simp [hf,hm] at hl
      | some m =>
       simp [hf,hm] at hl
       subst hl
       have rf := zV he hf
       obtain ⟨hlen,hrep⟩ := zCj he _ _ hm
       simp only [aop] at hop
       cases hfv : ev e g with
       | fn fk first caps =>
        rw [hfv] at hop rf
        cases fk <;> simp only [zGA] at hop <;> first | exact hop.elim | skip
        rename_i k
        obtain ⟨⟨fn,hfn,hbody,hname⟩,hcall⟩ := hop
        generalize hfe : a.eval f = fv at rf
        cases rf with
        | fn _ _ _ _ fs us h1 h2 h3 h4 =>
         have hex : (execOp a.eval o).run P w = .ok (.enter k (fs ++ args.map a.eval ++ us)) w := by
          unfold execOp
          rw [ho]
          simp only [resolve,hfe,Deferred.ofValue,Sem.run_bind,Sem.run_pure,Result.andThen_ok,invoke,callFunc,run_program,hfn,hname,zZn,if_false,hbody]
         refine zBw hnd ?_
         rw [hex]
         refine ⟨zEr,zD3 ((hcall X ρ w _ h ⟨?_,?_⟩).mono ?_)⟩
         ·simp [h1,h2,hlen]
         ·intro i x u hx hu
          rw [zZx,zZC] at hx
          rw [zzaH,zZD] at hu
          by_cases hi : i < first.length
          ·rw [if_pos hi] at hx
           rw [if_pos (by omega)] at hu
           exact h3 i x u hx hu
          ·rw [if_neg hi,zZC] at hx
           rw [if_neg (by omega),zZD] at hu
           simp only [zYV,zzby] at hx hu
           have hl2 : m.length = args.size := by simpa using hlen
           by_cases hj : i - first.length < m.length
           ·rw [if_pos hj] at hx
            rw [if_pos (by omega)] at hu
            exact hrep (i - first.length) x u hx (by rw [← h1] at hu; simpa using hu)
           ·rw [if_neg hj] at hx
            rw [if_neg (by omega)] at hu
            exact h4 (i - first.length - m.length) x u hx (by rw [← h1,← hl2] at hu; exact hu)
         ·rintro en w' ⟨v,x,H',ρ',rfl,hK,g1,g2,g3⟩
          exact hn _ _ _ _ _ hK g1 g2 g3
       | v x =>
        rw [hfv] at hop rf
        have hfe := zAJ rf
        obtain ⟨l,rfl,hy⟩ := zTc hop
        obtain ⟨fn',tmps,asg,bdy,hyr,hround⟩ := hy X ρ w (args.map a.eval) h ⟨by simp [hlen],fun i x u hx hu => hrep i x u hx (by simpa using hu)⟩
        have hex : (execOp a.eval o).run P w = .ok (.round l fn' tmps asg bdy) w := by
         unfold execOp
         rw [ho]
         simp only [resolve,hfe,Deferred.ofValue,Sem.run_bind,Sem.run_pure,Result.andThen_ok,invoke,callFunc,run_program]
         simpa using hyr
        refine zBw hnd ?_
        rw [hex]
        refine ⟨zEr,zLr (hround.mono ?_)⟩
        rintro en w' ⟨v,x,H',ρ',rfl,hK,g1,g2,g3⟩
        exact hn _ _ _ _ _ hK g1 g2 g3
       | _ => rw [hfv] at hop; exact hop.elim
    | invoke r m => simp at hl
    | builtin b =>
     refine absurd (show zKw (some lo) = true from ?_) hp
     rw [← hl]
     cases b <;> simp only <;> (repeat' split) <;> first | rfl | (cases zCB P _ <;> simp only [zzbp,zzaq] <;> (try split) <;> rfl)
   case unOp op t x => cases op <;> simp only at hl <;> first | (cases hl; done) | (obtain ⟨_,_,rfl⟩ := zAe hl; exact absurd rfl hp)
   case typeAssert x xt t ok =>
    cases ok with
    | false => cases hl
    | true =>
     simp only at hl
     cases hu : P.underlying t with
     | none => simp [hu] at hl
     | some d => cases hx : lx n x <;> cases hz : zA2 P t <;> cases d <;> simp only [hu,hx,hz] at hl <;> first | (cases hl; done) | (cases hl; exact absurd rfl hp)
   case makeInterface t x =>
    refine absurd (show zKw (some lo) = true from ?_) hp
    cases hx : lx n x <;> cases hu : P.underlying t <;> simp only [hx,hu] at hl <;> first | (cases hl; done) | skip
    rw [← hl]
    split <;> rfl
   case makeMap t r => cases r <;> simp only at hl <;> first | (cases hl; done) | (cases hl; exact absurd rfl hp)
   case slice t x lo hi mx => cases mx <;> simp only at hl <;> first | (cases hl; done) | (refine absurd (show zKw (some _) = true from ?_) hp; rw [← hl]; (repeat' split) <;> first | rfl | (cases zCB P _ <;> first | rfl | (cases imm <;> rfl)))
   all_goals
    refine absurd (show zKw (some lo) = true from ?_) hp
    rw [← hl]
    (try unfold zFw); (try unfold zKF); (try unfold zF1)
    (repeat' split) <;> first | rfl | (cases lx n _ <;> rfl) | (cases zHD n _ _ <;> rfl) | (cases zIi P _ <;> rfl) | (cases zF4 P _ <;> rfl) | (cases zCB P _ <;> rfl)
end
structure DB where
 ds : List Deferred
 ok : Prop
section
variable {B : DB} {P : Program} {w w0 : World} {X : Nat → Prop} {ρ ρ0 : Nat → Loc} {H : zA} {e : Env} {a : Act} {n n0 : Nat}
def zKC (D : Nat) : Deferred := { target := .collected D,args := #[] }
def Mk (B : DB) (w0 w : World) (ρ : Nat → Loc) (n : Nat) (df : List Deferred) : Prop :=
 ∃ ds : List Nat,df = ds.map zKC ++ B.ds ∧ (B.ok ∨ ds = []) ∧ ds.Nodup ∧ ∀ D ∈ ds,w0.heap.size ≤ D ∧ D < w.heap.size ∧ ¬ Own ρ n D ∧ w.heap[D]? = some (.deferred (some []))
theorem Mk.fut {w' : World} {ρ' : Nat → Loc} {n' : Nat} {df : List Deferred} (h : Mk B w0 w ρ n df) (hf : Fut w ρ n w' ρ' n') : Mk B w0 w' ρ' n' df := by
 obtain ⟨ds,h1,h0,h2,h3⟩ := h
 refine ⟨ds,h1,h0,h2,fun D hD => ?_⟩
 obtain ⟨g1,g2,g3,g4⟩ := h3 D hD
 exact ⟨g1,zZl g2 hf.size,fun ho => (hf.own D ho).elim g3 fun h => by omega,by rw [hf.keep D g2 g3]; exact g4⟩
theorem Mk.nil {w0 w : World} {ρ : Nat → Loc} {n : Nat} : Mk B w0 w ρ n B.ds := ⟨[],rfl,.inr rfl,.nil,by simp⟩
def St (B : DB) (X : Nat → Prop) (w0 : World) (ρ0 : Nat → Loc) (n0 n : Nat) (e : Env) (H : zA) (a : Act) (w : World) : Prop :=
 a.tmps.size = n ∧ ∃ ρ,HRel w X ρ H ∧ ER w X ρ H n e a ∧ Fut w0 ρ0 n0 w ρ H.length ∧ Mk B w0 w ρ H.length a.defers
theorem zM7 (a : Act) (d t : Nat) (u : Value) : (a.put (some d) u).tmps.getD t undef = if t = d ∧ d < a.tmps.size then u else a.tmps.getD t undef := by
 simp only [Act.put,zZq]
 by_cases h : t = d
 ·subst h
  by_cases h2 : t < a.tmps.size
  ·simp [h2]
  ·simp [h2]
 ·rw [zZW (fun e => h e.symm),if_neg (fun hh => h hh.1)]
theorem zVG {w' : World} {ρ' : Nat → Loc} {H' : zA} {d : Option Nat} {u : Value} {x : AV} (he : ER w X ρ H n e a) (hf : Fut w ρ H.length w' ρ' H'.length) (hx : Rep w' (Mut X ρ' H'.length) ρ' H'.length x u) (hn : a.tmps.size = n) :
  ER w' X ρ' H' n (ups e d x) (a.put d u) := by
 intro t ht
 cases d with
 | none => exact (he t ht).nextN hf
 | some d =>
  rw [zM7]
  simp only [ups,up]
  by_cases h : t = d
  ·subst h
   rw [if_pos rfl,if_pos ⟨rfl,by omega⟩]
   exact hx
  ·rw [if_neg h,if_neg (fun hh => h hh.1)]
   exact (he t ht).nextN hf
theorem zPF (a : Act) (d : Option Nat) (u : Value) : (a.put d u).tmps.size = a.tmps.size := by
 cases d <;> simp [Act.put]
theorem zSe (a : Act) (d : Option Nat) (u : Value) : (a.put d u).defers = a.defers := by
 cases d <;> rfl
theorem St.put {w' : World} {H' : zA} {ρ' : Nat → Loc} {d : Option Nat} {u : Value} {x : AV} (hm : Mk B w0 w ρ H.length a.defers) (hs : a.tmps.size = n) (he : ER w X ρ H n e a) (h0 : Fut w0 ρ0 n0 w ρ H.length) (g1 : HRel w' X ρ' H')
  (g2 : Rep w' (Mut X ρ' H'.length) ρ' H'.length x u) (g3 : Fut w ρ H.length w' ρ' H'.length) : St B X w0 ρ0 n0 n (ups e d x) H' (a.put d u) w' :=
 ⟨by rw [zPF]; exact hs,ρ',g1,zVG he g3 g2 hs,h0.trans g3,by rw [zSe]; exact hm.fut g3⟩
theorem zLh {t : Nat} {x : AV} (h : e t = x) : up e t x = e := by
 funext u
 simp only [up]
 split
 ·rename_i hu; rw [hu,h]
 ·rfl
theorem zN4 {d : Option Nat} {op : LOp} (h : zSJ d op = true) : ∃ t,d = some t ∧ (op = .frz (.t t) ∨ (∃ sz off,op = .frzf sz off (.t t)) ∨ ∃ sz,op = .own sz (.t t)) := by
 cases op <;> simp [zSJ] at h
 case frz x => cases x <;> simp at h; exact ⟨_,h,.inl rfl⟩
 case own sz x => cases x <;> simp at h; exact ⟨_,h,.inr (.inr ⟨sz,rfl⟩)⟩
 case frzf sz off x => cases x <;> simp at h; exact ⟨_,h,.inr (.inl ⟨sz,off,rfl⟩)⟩
theorem zAf : ∀ (gs : List LO) {los : List LO} {e : Env} {H : zA} {K : Env → zA → Prop},zC5 n gs = true → zAi P (gs ++ los) e H K → St B X w0 ρ0 n0 n e H a w → ∃ e' H',zAi P los e' H' K ∧ St B X w0 ρ0 n0 n e' H' a w
 | [],_,e,H,_,_,h,hst => ⟨e,H,h,hst⟩
 | g :: gs,los,e,H,K,hg,h,⟨hn,ρ,hrel,he,hf,hm⟩ => by
  simp only [zC5,zzaY,zYX] at hg
  obtain ⟨⟨⟨g1,g2⟩,g3⟩,g4⟩ := hg
  obtain ⟨d,gg,op⟩ := g
  cases gg with
  | some _ => simp at g1
  | none =>
   obtain ⟨t,rfl,hop⟩ := zN4 g2
   have ht : t < n := by simpa using g3
   have hput : ∀ (w' : World) (ρ' : Nat → Loc) (H' : zA) (x : AV),Fut w ρ H.length w ρ' H'.length → HRel w X ρ' H' → Rep w (Mut X ρ' H'.length) ρ' H'.length x (a.tmps.getD t undef) → St B X w0 ρ0 n0 n (up e t x) H' a w := by
    intro w' ρ' H' x f1 f2 f3
    refine ⟨hn,ρ',f2,fun u hu => ?_,hf.trans f1,hm.fut f1⟩
    simp only [up]
    split
    ·rename_i hut; rw [hut]; exact f3
    ·exact (he u hu).nextN f1
   rcases hop with rfl | ⟨sz,off,rfl⟩ | ⟨sz,rfl⟩
   ·obtain ⟨h1,h2⟩ := h
    obtain ⟨ρ',f1,f2,f3⟩ := zJr hrel (he t ht) h1
    exact zAf gs g4 h2 (hput w ρ' _ _ f3 f1 f2)
   ·obtain ⟨h1,h2⟩ := h
    obtain ⟨ρ',f1,f2,f3⟩ := zPo hrel (he t ht) h1
    exact zAf gs g4 h2 (hput w ρ' _ _ f3 f1 f2)
   ·obtain ⟨h1,h2⟩ := h
    obtain ⟨ρ',f1,f2,f3⟩ := zRJ hrel (he t ht) h1
    exact zAf gs g4 h2 (hput w ρ' _ _ f3 f1 f2)
def zBd (g : Option (Nat × Bool)) (e : Env) : Option Bool :=
 match g with
 | none => some true
 | some (t,want) => match e t with
  | .v (.bool b) => some (b == want)
  | .v (.tuple _) => some false
  | _ => none
theorem zEK {ops : Array Oper} {o : Oper} {g : Option (Nat × Bool)} {b : Bool} (hg : zVq ops n o.guard = some g) (he : ER w X ρ H n e a) (hn : a.tmps.size = n) (hw : zBd g e = some b) : Region.wanted o (yielded ops a.tmps) = b := by
 unfold zVq at hg
 cases hog : o.guard with
 | none =>
  rw [hog] at hg
  simp at hg
  subst hg
  simp [zBd] at hw
  subst hw
  simp [Region.wanted,hog]
 | some jw =>
  obtain ⟨j,want⟩ := jw
  rw [hog] at hg
  simp only at hg
  cases hd : (ops[j]?).bind (·.dst) with
  | none => simp [hd] at hg
  | some t =>
   simp only [hd] at hg
   by_cases ht : t < n
   ·rw [if_pos ht] at hg
    simp only [zYT] at hg
    subst hg
    simp only [zBd] at hw
    have hr := he t ht
    have hget : a.tmps[t]? = some (a.tmps.getD t undef) := by
     have : t < a.tmps.size := by rw [hn]; exact ht
     simp [this]
    simp only [Region.wanted,hog,yielded,hd,zzaq,hget]
    cases het : e t with
    | v x =>
     rw [het] at hr hw
     have := zAJ hr
     rw [this]
     cases x <;> simp at hw
     case bool c => subst hw; cases c <;> cases want <;> rfl
     case tuple us => subst hw; rfl
    | _ => rw [het] at hw; simp at hw
   ·rw [if_neg ht] at hg; cases hg
theorem zCg {o : LO} {l : List LO} {K : Env → zA → Prop} (h : zAi P (o :: l) e H K) :
  (zBd o.g e = some true ∧ aop P o.op e H fun x H' => zAi P l (ups e o.d x) H' K) ∨ (zBd o.g e = some false ∧ zAi P l (ups e o.d zAk) H K) := by
 simp only [zAi] at h
 cases hg : o.g with
 | none => rw [hg] at h; exact .inl ⟨rfl,h⟩
 | some tw =>
  obtain ⟨t,want⟩ := tw
  rw [hg] at h
  simp only at h
  cases het : e t with
  | v x =>
   rw [het] at h
   cases x <;> simp only at h <;> first | exact h.elim | skip
   case bool b =>
    have hu : up e t (bool b) = e := zLh het
    cases b <;> cases want <;> simp only [hu,if_true,zZn,if_false,zBd,het] at h ⊢ <;> first | exact .inl ⟨rfl,h⟩ | exact .inr ⟨rfl,h⟩
   case tuple us => exact .inr ⟨by simp [zBd,het],h⟩
  | _ => rw [het] at h; exact h.elim
theorem zGU {imm : Bool} {ops : Array Oper} {o : Oper} {lo : LO} (h : zAy P n imm ops o = some lo) : lo.d = o.dst ∧ zVq ops n o.guard = some lo.g ∧ lo.op = zIJ P n imm o := by
 unfold zAy at h
 cases hg : zVq ops n o.guard with
 | none => simp [hg] at h
 | some g =>
  simp only [hg] at h
  split at h
  ·simp only [zYT] at h
   subst h
   exact ⟨rfl,rfl,rfl⟩
  ·cases h
theorem zA4 {r : Option Nat} {m0 : Nat} {imm : Bool} {ops : Array Oper} {o : Oper} {lo : LO} {l : List LO} {K : Env → zA → Prop} (hl : zAy P n imm ops o = some lo) (h : zAi P (lo :: l) e H K) (hst : St B X w0 ρ0 n0 n e H a w) {next : Act → World → Prop} {Q : Exit → Act → World → Prop}
  (hn : ∀ e' H' a' w',zAi P l e' H' K → St B X w0 ρ0 n0 n e' H' a' w' → next a' w') :
  if Region.wanted o (yielded ops a.tmps) then o.wpIn (WR r) m0 P a w next Q else (∀ f,o.about P w a.eval = some f → (WR r).fn f) ∧ next (a.put o.dst undef) w := by
 obtain ⟨hd,hg,hop⟩ := zGU hl
 obtain ⟨h2,ρ,hrel,he,hf,hm⟩ := hst
 rcases zCg h with ⟨hw,h⟩ | ⟨hw,h⟩
 ·rw [zEK hg he h2 hw,if_pos rfl]
  rw [hop] at h
  refine zOG h hrel he fun u x H' ρ' w' hK g1 g2 g3 => hn _ _ _ _ hK ?_
  rw [hd]
  exact St.put hm h2 he hf g1 g2 g3
 ·rw [zEK hg he h2 hw,if_neg (by simp)]
  refine ⟨fun _ _ => trivial,hn _ _ _ _ h ?_⟩
  rw [hd]
  exact St.put hm h2 he hf hrel (.v _ _) (Fut.refl _ _ _)
theorem zIC {r : Option Nat} {m0 : Nat} {hs : List Hn} {reg : Nat} {ops : Array Oper} {K : Env → zA → Prop} {Q : Exit → Act → World → Prop} (hQ : ∀ e' H' a' w',K e' H' → St B X w0 ρ0 n0 n e' H' a' w' → Q .normal a' w') :
  ∀ (l : List Oper) (i : Nat) (los : List LO) (e : Env) (H : zA) (a : Act) (w : World),zBi P n hs reg ops i l = some los → zAi P los e H K → St B X w0 ρ0 n0 n e H a w → wpListIn (WR r) m0 P ops Q l a w
 | [],i,los,e,H,a,w,hl,h,hst => by
  unfold zBi at hl
  split at hl
  ·rename_i hg
   simp only [zYT] at hl
   subst hl
   obtain ⟨e',H',h',hst'⟩ := zAf (zAb hs reg i) (los := []) hg (by simpa using h) hst
   exact hQ _ _ _ _ h' hst'
  ·cases hl
 | o :: l,i,los,e,H,a,w,hl,h,hst => by
  unfold zBi at hl
  cases h1 : zAy P n (zAZ hs reg i) ops o with
  | none => simp [h1] at hl
  | some lo =>
   cases h2 : zBi P n hs reg ops (i + 1) l with
   | none => simp [h1,h2] at hl
   | some m =>
    simp only [h1,h2] at hl
    split at hl
    ·rename_i hg
     simp only [zYT] at hl
     subst hl
     obtain ⟨e',H',h',hst'⟩ := zAf (zAb hs reg i) hg h hst
     have := zA4 (r := r) (m0 := m0) h1 h' hst' (next := wpListIn (WR r) m0 P ops Q l) (Q := Q) fun e'' H'' a'' w'' hK hs'' => zIC hQ l (i + 1) m e'' H'' a'' w'' h2 hK hs''
     unfold wpListIn
     exact this
    ·cases hl
theorem zBS {ops : Array Oper} {o : Oper} (h : o.guard = none) (tmps : Array Value) : Region.wanted o (yielded ops tmps) = true := by simp [Region.wanted,h]
theorem zHb {r : Option Nat} {m0 : Nat} {o : Oper} {f : Operand} {args : Array Operand} {tys : Array TypeId} {g : LX} {m : List LX} {K : AV → zA → Prop} {Z : Value → zA → Prop} (ho : o.op = .call ⟨.value f,args,tys⟩) (hf : lx n f = some g) (hm : lxs n args.toList = some m)
  (h : zEc P (ev e g) (m.map (ev e)) H K Z) (hst : St B X w0 ρ0 n0 n e H a w) {next : Act → World → Prop} {Q : Exit → Act → World → Prop}
  (hn : ∀ x H' a' w',K x H' → St B X w0 ρ0 n0 n (ups e o.dst x) H' a' w' → next a' w') (hp : ∀ v H' a' w',Z v H' → St B X w0 ρ0 n0 n e H' a' w' → Q (.panic [{ v,recovered := false }]) a' w') :
  o.wpIn (WR r) m0 P a w next Q := by
 obtain ⟨h2,ρ,hrel,he,hfu,hmk⟩ := hst
 have rf := zV he hf
 obtain ⟨hlen,hrep⟩ := zCj he _ _ hm
 simp only [zEc] at h
 cases hfv : ev e g with
 | fn fk first caps =>
  rw [hfv] at h rf
  cases fk <;> simp only at h <;> first | exact h.elim | skip
  rename_i k
  obtain ⟨⟨fn,hfn,hbody,hname⟩,hcall⟩ := h
  generalize hfe : a.eval f = fv at rf
  cases rf with
  | fn _ _ _ _ fs us h1 h2' h3 h4 =>
   have hex : (execOp a.eval o).run P w = .ok (.enter k (fs ++ args.map a.eval ++ us)) w := by
    unfold execOp
    rw [ho]
    simp only [resolve,hfe,Deferred.ofValue,Sem.run_bind,Sem.run_pure,Result.andThen_ok,invoke,callFunc,run_program,hfn,hname,zZn,if_false,hbody]
   refine zBw (by rw [ho]; intro c' hc; cases hc) ?_
   rw [hex]
   refine ⟨zEr,zD3 ((hcall X ρ w _ hrel ⟨?_,?_⟩).mono ?_)⟩
   ·simp [h1,h2',hlen]
   ·intro i x u hx hu
    rw [zZx,zZC] at hx
    rw [zzaH,zZD] at hu
    by_cases hi : i < first.length
    ·rw [if_pos hi] at hx
     rw [if_pos (by omega)] at hu
     exact h3 i x u hx hu
    ·rw [if_neg hi,zZC] at hx
     rw [if_neg (by omega),zZD] at hu
     simp only [zYV,zzby] at hx hu
     have hl2 : m.length = args.size := by simpa using hlen
     by_cases hj : i - first.length < m.length
     ·rw [if_pos hj] at hx
      rw [if_pos (by omega)] at hu
      exact hrep (i - first.length) x u hx (by rw [← h1] at hu; simpa using hu)
     ·rw [if_neg hj] at hx
      rw [if_neg (by omega)] at hu
      exact h4 (i - first.length - m.length) x u hx (by rw [← h1,← hl2] at hu; exact hu)
   ·rintro en w' (⟨v,x,H',ρ',rfl,hK,g1,g2,g3⟩ | ⟨z,H',ρ',rfl,hK,g1,g3⟩)
    ·exact hn _ _ _ _ hK (St.put hmk h2 he hfu g1 g2 g3)
    ·exact hp _ _ _ _ hK ⟨h2,ρ',g1,fun t ht => (he t ht).nextN g3,hfu.trans g3,hmk.fut g3⟩
 | _ => rw [hfv] at h; exact h.elim
theorem zQl {r : Option Nat} {m0 : Nat} {ops : Array Oper} {o : Oper} {c : LCode} {K : Out → Env → zA → Prop} (hl : zNH n o = some c) (h : awp P c e H K) (hst : St B X w0 ρ0 n0 n e H a w) {next : Act → World → Prop} {Q : Exit → Act → World → Prop}
  (hn : ∀ e' H' a' w',K .normal e' H' → St B X w0 ρ0 n0 n e' H' a' w' → next a' w') (hp : ∀ v e' H' a' w',K (.pan v) e' H' → St B X w0 ρ0 n0 n e' H' a' w' → Q (.panic [{ v,recovered := false }]) a' w') :
  Region.wanted o (yielded ops a.tmps) = true ∧ o.wpIn (WR r) m0 P a w next Q := by
 unfold zNH at hl
 split at hl
 ·rename_i f args tys ho hg
  refine ⟨zBS hg _,?_⟩
  cases hf : lx n f with
  | none => simp [hf] at hl
  | some g =>
   cases hm : lxs n args.toList with
   | none => simp [hf,hm] at hl
   | some m =>
    simp only [hf,hm] at hl
    split at hl
    ·simp only [zYT] at hl
     subst hl
     exact zHb ho hf hm h hst (fun x H' a' w' hK hs' => hn _ _ _ _ hK hs') fun v H' a' w' hK hs' => hp _ _ _ _ _ hK hs'
    ·cases hl
 ·cases hl
theorem zPJ {r : Option Nat} {m0 : Nat} {ops : Array Oper} {o q : Oper} {l : List Oper} {c : LCode} {K : Out → Env → zA → Prop} (hl : zND P n o q = some c) (h : awp P c e H K) (hst : St B X w0 ρ0 n0 n e H a w) {Q : Exit → Act → World → Prop}
  (hp : ∀ v e' H' a' w',K (.pan v) e' H' → St B X w0 ρ0 n0 n e' H' a' w' → Q (.panic [{ v,recovered := false }]) a' w') : wpListIn (WR r) m0 P ops Q (o :: q :: l) a w := by
 unfold zND at hl
 split at hl
 ·rename_i t x d d' ho hg hd hq hqg
  split at hl
  ·rename_i x' u hx hu
   split at hl
   ·rename_i hc
    obtain ⟨rfl,hdn,hni⟩ := hc
    simp only [zYT] at hl
    subst hl
    simp only [awp] at h
    obtain ⟨v,hv,hK⟩ := h
    obtain ⟨h2,ρ,hrel,he,hfu,hmk⟩ := hst
    have hxv := zKd hv (zV he hx)
    unfold wpListIn
    rw [if_pos (zBS hg _)]
    refine zBw (by rw [ho]; intro c' hc; cases hc) ?_
    have hex : (execOp a.eval o).run P w = .ok (.value (.iface t v)) w := by
     unfold execOp
     rw [ho]
     cases u <;> simp [zFv] at hni <;> simp [Instr.makeInterface,run_underlying hu,hxv]
    rw [hex]
    show wpListIn (WR r) m0 P ops Q (q :: l) (a.put o.dst (.iface t v)) w
    unfold wpListIn
    rw [if_pos (zBS hqg _)]
    refine zBw (by rw [hq]; intro c' hc; cases hc) ?_
    have hget : (a.put o.dst (.iface t v)).eval (.tmp d) = .iface t v := by
     rw [hd]
     show (a.put (some d) _).tmps.getD d undef = _
     rw [zM7,if_pos ⟨rfl,by rw [h2]; exact hdn⟩]
    have hex2 : (execOp (a.put o.dst (.iface t v)).eval q).run P w = .halt (.panic (.iface t v)) w := by
     unfold execOp
     rw [hq]
     simp only [hget]
     simp [Instr.panic,goPanic]
    rw [hex2]
    have hst' := St.put (B := B) (d := some d) (u := .iface t v) (x := .v (.iface t v)) hmk h2 he hfu hrel (.v _ _) (Fut.refl _ _ _)
    rw [← hd] at hst'
    refine hp _ _ H _ _ hK ?_
    rw [hd] at hst' ⊢
    exact hst'
   ·cases hl
  ·cases hl
 ·cases hl
def zHZ : LOp → Bool
 | .call _ _ => true
 | .panicv _ => true
 | _ => false
def zDp : Option LOp → Bool
 | some lo => zHZ lo
 | none => false
theorem zFZ {imm : Bool} {o : Oper} {lo : LOp} (hl : zDF P n imm o = some lo) (hc : zHZ lo = true) : (∃ c,o.op = .call c ∧ (if imm = true then zCK P n c else zDj P n c) = some lo) ∨ ∃ x,o.op = .panic x ∧ (lx n x).map LOp.panicv = some lo := by
 have hp : ¬ zDp (some lo) = false := by simp [zDp,hc]
 unfold zDF at hl
 cases ho : o.op <;> rw [ho] at hl <;> simp only at hl <;> first | (cases hl; done) | skip
 case call c => exact .inl ⟨c,rfl,by cases imm <;> exact hl⟩
 case panic x => exact .inr ⟨x,rfl,hl⟩
 case unOp op t x => cases op <;> simp only at hl <;> first | (cases hl; done) | (obtain ⟨_,_,rfl⟩ := zAe hl; exact absurd rfl hp)
 case makeMap t r => cases r <;> simp only at hl <;> first | (cases hl; done) | (cases hl; exact absurd rfl hp)
 case next x s => cases s <;> simp only at hl <;> first | (cases hl; done) | (obtain ⟨_,_,rfl⟩ := zAe hl; exact absurd rfl hp)
 case typeAssert x xt t ok =>
  cases ok with
  | false => cases hl
  | true =>
   simp only at hl
   cases hu : P.underlying t with
   | none => simp [hu] at hl
   | some d => cases hx : lx n x <;> cases hz : zA2 P t <;> cases d <;> simp only [hu,hx,hz] at hl <;> first | (cases hl; done) | (cases hl; exact absurd rfl hp)
 case makeInterface t x =>
  refine absurd ?_ hp
  cases hx : lx n x <;> cases hu : P.underlying t <;> simp only [hx,hu] at hl <;> first | (cases hl; done) | skip
  rw [← hl]
  split <;> rfl
 case slice t x lo hi mx => cases mx <;> simp only at hl <;> first | (cases hl; done) | (refine absurd ?_ hp; rw [← hl]; (repeat' split) <;> first | rfl | (cases zCB P _ <;> first | rfl | (cases imm <;> rfl)))
 case binOp op t x y yt =>
  refine absurd ?_ hp
  rw [← hl]
  unfold zKG
  (repeat' split) <;> rfl
 all_goals
  refine absurd ?_ hp
  rw [← hl]
  (try unfold zFw); (try unfold zKF); (try unfold zF1)
  (repeat' split) <;> first | rfl | (cases lx n _ <;> rfl) | (cases zHD n _ _ <;> rfl) | (cases zIi P _ <;> rfl) | (cases zF4 P _ <;> rfl) | (cases zCB P _ <;> rfl)
theorem zGT {imm : Bool} {o : Oper} {lo : LOp} (h : zIJ P n imm o = lo) (hb : lo ≠ .bad) : zDF P n imm o = some lo := by
 unfold zIJ at h
 cases hl : zDF P n imm o with
 | none => rw [hl] at h; exact absurd h.symm hb
 | some l => rw [hl] at h; exact congrArg some h
theorem zF2 {c : Call} {lo : LOp} (h : zCK P n c = some lo) : zDp (some lo) = false := by
 rw [← h]
 unfold zCK
 (repeat' split) <;> rfl
theorem zLD {imm : Bool} {o : Oper} {f : LX} {args : List LX} (h : zIJ P n imm o = .call f args) : ∃ f' args' tys,o.op = .call ⟨.value f',args',tys⟩ ∧ lx n f' = some f ∧ lxs n args'.toList = some args := by
 rcases zFZ (zGT h (by simp)) rfl with ⟨c,ho,hc⟩ | ⟨x,_,hx⟩
 ·cases imm with
  | true => exact absurd (zF2 (by simpa using hc)) (by simp [zDp,zHZ])
  | false =>
   simp only [zZn,if_false] at hc
   obtain ⟨callee,as,tys⟩ := c
   unfold zDj at hc
   cases callee with
   | value f' =>
    simp only at hc
    cases hf : lx n f' <;> cases hm : lxs n as.toList <;> simp only [hf,hm] at hc <;> first | (cases hc; done) | skip
    simp only [zYT,LOp.call.injEq] at hc
    exact ⟨f',as,tys,ho,by rw [hf,hc.1],by rw [hm,hc.2]⟩
   | invoke r m => simp at hc
   | builtin b =>
    exfalso
    have : zDp (some (LOp.call f args)) = false := by
     rw [← hc]
     cases b
     all_goals (try simp only)
     all_goals (repeat' split)
     all_goals first | rfl | (cases zCB P _ <;> (try simp only [zzbp,zzaq]) <;> (try split) <;> rfl)
    cases this
 ·obtain ⟨_,_,h2⟩ := zAe hx
  cases h2
theorem zJL {imm : Bool} {o : Oper} {x : LX} (h : zIJ P n imm o = .panicv x) : ∃ ao,o.op = .panic ao ∧ lx n ao = some x := by
 rcases zFZ (zGT h (by simp)) rfl with ⟨c,ho,hc⟩ | ⟨y,ho,hx⟩
 ·exfalso
  cases imm with
  | true => exact absurd (zF2 (by simpa using hc)) (by simp [zDp,zHZ])
  | false =>
   simp only [zZn,if_false] at hc
   obtain ⟨callee,as,tys⟩ := c
   unfold zDj at hc
   cases callee with
   | value f' =>
    simp only at hc
    cases hf : lx n f' <;> cases hm : lxs n as.toList <;> simp only [hf,hm] at hc <;> cases hc
   | invoke r m => simp at hc
   | builtin b =>
    have : zDp (some (LOp.panicv x)) = false := by
     rw [← hc]
     cases b
     all_goals (try simp only)
     all_goals (repeat' split)
     all_goals first | rfl | (cases zCB P _ <;> (try simp only [zzbp,zzaq]) <;> (try split) <;> rfl)
    cases this
 ·obtain ⟨a,h1,h2⟩ := zAe hx
  simp only [LOp.panicv.injEq] at h2
  exact ⟨y,ho,by rw [h1,h2]⟩
theorem zFK {g : Option (Nat × Bool)} {A B' : Prop} (h : zGr g e A B') : (zBd g e = some true ∧ A) ∨ (zBd g e = some false ∧ B') := by
 unfold zGr at h
 cases g with
 | none => exact .inl ⟨rfl,h⟩
 | some p =>
  obtain ⟨t,want⟩ := p
  simp only at h
  cases het : e t with
  | v x =>
   rw [het] at h
   cases x <;> simp only at h <;> first | exact h.elim | skip
   case bool b =>
    cases b <;> cases want <;> simp [zBd,het] at h ⊢ <;> exact h
   case tuple us => exact .inr ⟨by simp [zBd,het],h⟩
  | _ => rw [het] at h; exact h.elim
theorem zMy {r : Option Nat} {m0 : Nat} {imm c : Bool} {ops : Array Oper} {o : Oper} {lo : LO} {K : Env → zA → Prop} {Z : Value → zA → Prop} (hl : zAy P n imm ops o = some lo) (h : aTI P c lo e H K Z) (hst : St B X w0 ρ0 n0 n e H a w) {next : Act → World → Prop} {Q : Exit → Act → World → Prop}
  (hn : ∀ e' H' a' w',K e' H' → St B X w0 ρ0 n0 n e' H' a' w' → next a' w') (hp : ∀ v H' a' w',Z v H' → St B X w0 ρ0 n0 n e H' a' w' → Q (.panic [{ v,recovered := false }]) a' w') :
  if Region.wanted o (yielded ops a.tmps) then o.wpIn (WR r) m0 P a w next Q else (∀ f,o.about P w a.eval = some f → (WR r).fn f) ∧ next (a.put o.dst undef) w := by
 obtain ⟨hd,hg,hop⟩ := zGU hl
 unfold aTI at h
 split at h
 ·rename_i f args hf
  rw [hop] at hf
  obtain ⟨f',args',tys,ho,h1,h2⟩ := zLD hf
  have hst' := hst
  obtain ⟨h3,ρ,hrel,he,hfu,hm⟩ := hst'
  rcases zFK h with ⟨hw,h⟩ | ⟨hw,h⟩
  ·rw [zEK hg he h3 hw,if_pos rfl]
   refine zHb ho h1 h2 h hst (fun x H' a' w' hK hs' => hn _ _ _ _ hK ?_) hp
   rw [hd]
   exact hs'
  ·rw [zEK hg he h3 hw,if_neg (by simp)]
   refine ⟨fun _ _ => trivial,hn _ _ _ _ h ?_⟩
   rw [hd]
   exact St.put hm h3 he hfu hrel (.v _ _) (Fut.refl _ _ _)
 ·rename_i x hf
  rw [hop] at hf
  obtain ⟨ao,ho,h2⟩ := zJL hf
  have hst' := hst
  obtain ⟨h3,ρ,hrel,he,hfu,hm⟩ := hst'
  rcases zFK h with ⟨hw,t,z,hz,h⟩ | ⟨hw,h⟩
  ·rw [zEK hg he h3 hw,if_pos rfl]
   refine zBw (by rw [ho]; intro c' hc; cases hc) ?_
   have hr := zV he h2
   rw [hz] at hr
   have hv := zAJ hr
   have hex2 : (execOp a.eval o).run P w = .halt (.panic (.iface t z)) w := by
    unfold execOp
    rw [ho]
    simp [Instr.panic,hv,goPanic]
   rw [hex2]
   exact hp _ _ _ _ h hst
  ·rw [zEK hg he h3 hw,if_neg (by simp)]
   refine ⟨fun _ _ => trivial,hn _ _ _ _ h ?_⟩
   rw [hd]
   exact St.put hm h3 he hfu hrel (.v _ _) (Fut.refl _ _ _)
 ·exact zA4 hl h hst fun e' H' a' w' hK hs' => hn e' H' a' w' (by simpa only [zAi] using hK) hs'
theorem zDX {r : Option Nat} {m0 : Nat} {hs : List Hn} {reg : Nat} {ops : Array Oper} {K : Out → Env → zA → Prop} {Q : Exit → Act → World → Prop} (hQ : ∀ e' H' a' w',K .normal e' H' → St B X w0 ρ0 n0 n e' H' a' w' → Q .normal a' w')
  (hp : ∀ v e' H' a' w',K (.pan v) e' H' → St B X w0 ρ0 n0 n e' H' a' w' → Q (.panic [{ v,recovered := false }]) a' w') :
  ∀ (l : List Oper) (i : Nat) (lc : LCode) (e : Env) (H : zA) (a : Act) (w : World),zEk P n hs reg ops i l = some lc → awp P lc e H K → St B X w0 ρ0 n0 n e H a w → wpListIn (WR r) m0 P ops Q l a w
 | [],i,lc,e,H,a,w,hl,h,hst => by
  unfold zEk at hl
  split at hl
  ·rename_i hg
   simp only [zYT] at hl
   subst hl
   simp only [awp] at h
   obtain ⟨e',H',h',hst'⟩ := zAf (zAb hs reg i) (los := []) hg (by simpa using h) hst
   exact hQ _ _ _ _ h' hst'
  ·cases hl
 | o :: l,i,lc,e,H,a,w,hl,h,hst => by
  unfold zEk at hl
  split at hl
  ·rename_i hg
   split at hl
   ·split at hl
    ·rename_i c m hc hm
     simp only [zYT] at hl
     subst hl
     simp only [awp] at h
     obtain ⟨e',H',h',hst'⟩ := zAf (zAb hs reg i) (los := []) hg (by simpa using h) hst
     simp only [zAi] at h'
     obtain ⟨hw,hx⟩ := zQl (r := r) (m0 := m0) (ops := ops) (next := wpListIn (WR r) m0 P ops Q l) (Q := Q) hc h' hst' (fun e2 H2 a2 w2 hk hs2 => zDX hQ hp l (i + 1) m e2 H2 a2 w2 hm hk hs2) (fun v e2 H2 a2 w2 hk hs2 => hp v e2 H2 a2 w2 hk hs2)
     unfold wpListIn
     rw [if_pos hw]
     exact hx
    ·split at hl
     ·rename_i c hc
      simp only [zYT] at hl
      subst hl
      cases l with
      | nil => cases hc
      | cons q l' =>
       simp only [awp] at h
       obtain ⟨e',H',h',hst'⟩ := zAf (zAb hs reg i) (los := []) hg (by simpa using h) hst
       simp only [zAi] at h'
       exact zPJ hc h' hst' hp
     ·split at hl
      ·rename_i lo m h1 h2
       split at hl
       ·simp only [zYT] at hl
        subst hl
        simp only [awp] at h
        obtain ⟨e',H',h',hst'⟩ := zAf (zAb hs reg i) (los := []) hg (by simpa using h) hst
        simp only [zAi] at h'
        have := zMy (r := r) (m0 := m0) h1 h' hst' (next := wpListIn (WR r) m0 P ops Q l) (Q := Q) (fun e'' H'' a'' w'' hK hs'' => zDX hQ hp l (i + 1) m e'' H'' a'' w'' h2 hK hs'') fun v H' a' w' hK hs' => hp v _ _ _ _ hK hs'
        unfold wpListIn
        exact this
       ·cases hl
      ·cases hl
   ·split at hl
    ·rename_i lo m h1 h2
     simp only [zYT] at hl
     subst hl
     simp only [awp] at h
     obtain ⟨e',H',h',hst'⟩ := zAf (zAb hs reg i) hg h hst
     have := zA4 (r := r) (m0 := m0) h1 h' hst' (next := wpListIn (WR r) m0 P ops Q l) (Q := Q) fun e'' H'' a'' w'' hK hs'' => zDX hQ hp l (i + 1) m e'' H'' a'' w'' h2 (by simpa only [zAi] using hK) hs''
     unfold wpListIn
     exact this
    ·cases hl
  ·cases hl
end
section edges
variable {ops : Array Oper}
def stp (acc : Array Nat) (o : Oper) : Nat := o.after.foldl (fun s e => if Region.binds .any e then s ||| 2 ^ e.on ||| acc.getD e.on 0 else s) 0
theorem zKk (acc : Array Nat) (i : Nat) : ∀ (l : List Edge) (s : Nat),(l.foldl (fun s e => if Region.binds .any e then s ||| 2 ^ e.on ||| acc.getD e.on 0 else s) s).testBit i = true →
  s.testBit i = true ∨ ∃ e ∈ l,Region.binds .any e = true ∧ (e.on = i ∨ (acc.getD e.on 0).testBit i = true)
 | [],s,h => .inl h
 | e :: l,s,h => by
  simp only [zzaL] at h
  rcases zKk acc i l _ h with h1 | ⟨e',h1,h2⟩
  ·split at h1
   ·rename_i hb
    rw [Nat.testBit_or,Nat.testBit_or,Nat.testBit_two_pow] at h1
    simp only [zZM,zY5] at h1
    rcases h1 with (h1 | h1) | h1
    ·exact .inl h1
    ·exact .inr ⟨e,by simp,hb,.inl h1⟩
    ·exact .inr ⟨e,by simp,hb,.inr h1⟩
   ·exact .inl h1
  ·exact .inr ⟨e',by simp [h1],h2⟩
theorem zIR : ∀ (l : List Oper) (acc : Array Nat),
  (l.foldl (fun acc o => acc.push (stp acc o)) acc).size = acc.size + l.length ∧ (∀ k,k < acc.size → (l.foldl (fun acc o => acc.push (stp acc o)) acc).getD k 0 = acc.getD k 0) ∧
  ∀ k o,l[k]? = some o → ∃ acc' : Array Nat,acc'.size = acc.size + k ∧ (∀ m,m < acc.size + k → acc'.getD m 0 = (l.foldl (fun acc o => acc.push (stp acc o)) acc).getD m 0) ∧ (l.foldl (fun acc o => acc.push (stp acc o)) acc).getD (acc.size + k) 0 = stp acc' o
 | [],acc => ⟨rfl,fun _ _ => rfl,fun k o h => by simp at h⟩
 | x :: l,acc => by
  obtain ⟨h1,h2,h3⟩ := zIR l (acc.push (stp acc x))
  simp only [zzaL,Array.size_push] at h1 h2 h3 ⊢
  have hp : ∀ k,k < acc.size → (acc.push (stp acc x)).getD k 0 = acc.getD k 0 := by
   intro k hk
   simp only [zZq,Array.getElem?_push]
   rw [if_neg (by omega)]
  refine ⟨by rw [h1]; simp; omega,fun k hk => by rw [h2 k (by omega),hp k hk],fun k o ho => ?_⟩
  cases k with
  | zero =>
   simp at ho
   subst ho
   refine ⟨acc,rfl,fun m hm => by rw [h2 m (by omega),hp m (by omega)],?_⟩
   rw [zZJ,h2 _ (by omega)]
   simp [zZq]
  | succ k =>
   obtain ⟨acc',g1,g2,g3⟩ := h3 k o (by simpa using ho)
   exact ⟨acc',by omega,fun m hm => g2 m (by omega),by rw [show acc.size + (k + 1) = acc.size + 1 + k by omega]; exact g3⟩
theorem zJ5 {j : Nat} {oj : Oper} (hj : ops[j]? = some oj) {i : Nat} (h : ((Region.before ops).getD j 0).testBit i = true) :
  ∃ e ∈ oj.after,Region.binds .any e = true ∧ (e.on = i ∨ (e.on < j ∧ ((Region.before ops).getD e.on 0).testBit i = true)) := by
 have hb : Region.before ops = ops.toList.foldl (fun acc o => acc.push (stp acc o)) #[] := by
  unfold Region.before
  rw [← zzaG]
  rfl
 obtain ⟨_,_,h3⟩ := zIR ops.toList #[]
 obtain ⟨acc',g1,g2,g3⟩ := h3 j oj (by simpa using hj)
 simp only [zzbk,zY4,zZw] at g1 g2 g3
 rw [hb] at h ⊢
 rw [g3] at h
 unfold stp at h
 rw [← zzaG] at h
 rcases zKk acc' i _ _ h with h1 | ⟨e,he,hbd,h1⟩
 ·simp at h1
 ·refine ⟨e,by simpa using he,hbd,?_⟩
  rcases h1 with h1 | h1
  ·exact .inl h1
  ·have hlt : e.on < j := by
    rcases zzas e.on acc'.size with h2 | h2
    ·omega
    ·simp [zZq,zzak h2] at h1
   rw [g2 _ hlt] at h1
   exact .inr ⟨hlt,h1⟩
def Closed (ops : Array Oper) (listed : Array Bool) : Prop := ∀ j oj,ops[j]? = some oj → listed.getD j false = true → ∀ e ∈ oj.after,Region.binds .any e = true → listed.getD e.on false = true
theorem zJ {listed : Array Bool} (hc : Closed ops listed) : ∀ (j : Nat) (oj : Oper) (i : Nat),ops[j]? = some oj → ((Region.before ops).getD j 0).testBit i = true → (∀ e ∈ oj.after,Region.binds .any e = true → listed.getD e.on false = true) → listed.getD i false = true := by
 intro j
 induction j using Nat.strongRecOn with
 | _ j ih =>
  intro oj i hj hb hall
  obtain ⟨e,he,hbd,h1⟩ := zJ5 hj hb
  rcases h1 with h1 | ⟨hlt,h1⟩
  ·rw [← h1]; exact hall e he hbd
  ·have hjlt := (zY8.1 hj).1
   have ho : ops[e.on]? = some ops[e.on] := by simp [show e.on < ops.size by omega]
   exact ih e.on hlt _ i ho h1 (hc _ _ ho (hall e he hbd))
theorem zO (listed : Array Bool) (i k : Nat) (b : Bool) : (listed.setIfInBounds i true).getD k b = if k = i ∧ i < listed.size then true else listed.getD k b := by
 simp only [zZq]
 by_cases h : k = i
 ·subst h
  by_cases h2 : k < listed.size
  ·simp [h2]
  ·simp [h2]
 ·rw [zZW (fun e => h e.symm),if_neg (fun hh => h hh.1)]
theorem Closed.set {listed : Array Bool} (hc : Closed ops listed) {i : Nat} (hi : i ∈ Region.ready .any ops listed) : Closed ops (listed.setIfInBounds i true) := by
 obtain ⟨_,oi,hoi,hall⟩ := mem_ready.1 hi
 intro j oj hj hl e he hb
 rw [zO] at hl ⊢
 split
 ·rfl
 ·split at hl
  ·rename_i h1
   obtain ⟨rfl,_⟩ := h1
   have : oj = oi := zzba (hj.symm.trans hoi)
   subst this
   exact hall e he hb
  ·exact hc j oj hj hl e he hb
def left (listed : Array Bool) : Nat → Nat
 | 0 => 0
 | k + 1 => left listed k + if listed.getD k true = true then 0 else 1
theorem zCL {listed : Array Bool} {i : Nat} (hi : listed.getD i true = false) : ∀ k,left (listed.setIfInBounds i true) k + (if i < k then 1 else 0) = left listed k
 | 0 => by simp [left]
 | k + 1 => by
  have ih := zCL hi k
  have hil : i < listed.size := by
   rcases zzas i listed.size with h | h
   ·exact h
   ·simp [zzak h] at hi
  simp only [left]
  rw [zO]
  by_cases hk : k = i
  ·subst hk
   rw [if_neg (by omega)] at ih
   have h2 : k < k + 1 := by omega
   have h3 : (if k = k ∧ k < listed.size then true else listed.getD k true) = true := if_pos ⟨rfl,hil⟩
   rw [if_pos h2,if_pos h3,hi,if_neg (by simp)]
   omega
  ·have h3 : (if k = i ∧ i < listed.size then true else listed.getD k true) = listed.getD k true := if_neg fun hh => hk hh.1
   rw [h3]
   generalize (if listed.getD k true = true then 0 else 1) = z
   by_cases h2 : i < k
   ·rw [if_pos h2] at ih; rw [if_pos (show i < k + 1 by omega)]; omega
   ·rw [if_neg h2] at ih; rw [if_neg (show ¬ i < k + 1 by omega)]; omega
theorem zCM {listed : Array Bool} {i : Nat} (hi : listed.getD i true = false) : ∀ k,i < k → 0 < left listed k
 | 0,h => by omega
 | k + 1,h => by
  simp only [left]
  by_cases hk : i = k
  ·subst hk; rw [hi]; simp
  ·have := zCM hi k (by omega); omega
theorem zB4 {listed : Array Bool} (he : zAg ops = true) {i : Nat} (hi : i < ops.size) (hun : listed.getD i true = false) (hall : ∀ j,j < i → listed.getD j false = true) : i ∈ Region.ready .any ops listed := by
 refine mem_ready.2 ⟨hun,ops[i],by simp [hi],fun e hee hb => ?_⟩
 unfold zAg at he
 have h1 := zZb.1 he i (zZE.2 hi)
 simp only [zzan hi,zZt,zZR] at h1
 have h2 := Array.all_eq_true'.1 h1 e hee
 simp only [hb,Bool.not_true,Bool.false_or,zY5] at h2
 exact hall _ h2
theorem zCo {listed : Array Bool} {n : Nat} (h : ∃ i,i < n ∧ listed.getD i true = false) : ∃ i,i < n ∧ listed.getD i true = false ∧ ∀ j,j < i → listed.getD j true = true := by
 obtain ⟨i,hi,hun⟩ := h
 induction i using Nat.strongRecOn with
 | _ i ih =>
  by_cases hx : ∃ j,j < i ∧ listed.getD j true = false
  ·obtain ⟨j,hj,hj2⟩ := hx
   exact ih j hj (by omega) hj2
  ·refine ⟨i,hi,hun,fun j hj => ?_⟩
   cases hb : listed.getD j true with
   | true => rfl
   | false => exact absurd ⟨j,hj,hb⟩ hx
end edges
theorem zP {l : Array Bool} {i : Nat} (hi : i < l.size) : l.getD i false = l.getD i true := by
 simp [hi]
theorem zBt {listed : Array Bool} {h : Nat} : ∀ k,(∀ j,j < k → listed.getD j true = decide (j < h)) → left listed k = k - h
 | 0,_ => by simp [left]
 | k + 1,hh => by
  simp only [left]
  rw [zBt k fun j hj => hh j (by omega),hh k (by omega)]
  by_cases hk : k < h
  ·simp [hk]; omega
  ·simp [hk]; omega
section
variable {B : DB} {P : Program} {w w0 : World} {X : Nat → Prop} {ρ ρ0 : Nat → Loc} {H : zA} {e : Env} {a : Act} {n n0 : Nat}
theorem St.still {w' : World} (hst : St B X w0 ρ0 n0 n e H a w) (hs : Same w w') (hh : w'.heap = w.heap) : St B X w0 ρ0 n0 n e H a w' := by
 obtain ⟨h2,ρ,h3,h4,h5,h6⟩ := hst
 obtain ⟨g1,g2⟩ := h3.more hs fun b _ => by rw [hh]
 exact ⟨h2,ρ,g1,fun t ht => (h4 t ht).nextN g2,h5.trans g2,h6.fut g2⟩
theorem APure.frame {k : FuncId} {args : List AV} {x : AV} (h : APure P k args x) (hc : clL args = true) (H : zA) : ACall P k args H fun y H' => y = x ∧ H' = H := by
 refine ⟨h.1,fun X ρ w vs hrel hargs => ?_⟩
 have hno : ∀ (ρ : Nat → Loc) b,¬ Own ρ 0 b := fun ρ b ⟨r,o,hr,_⟩ => by omega
 have hm : ∀ (ρ' : Nat → Loc) b,Mut (Mut X ρ H.length) ρ' 0 b ↔ Mut X ρ H.length b := fun ρ' b => ⟨fun hb => hb.elim id fun ho => absurd ho (hno _ _),.inl⟩
 refine (h.2 (Mut X ρ H.length) (fun _ => {}) w vs ⟨?_,?_,?_,?_,fun g hg => ⟨fun ⟨r,o,hr,_⟩ => by simp at hr,(hrel.gl g hg).2⟩⟩ ⟨hargs.1,?_⟩).mono ?_
 ·intro r o hr; simp at hr
 ·intro r r' b o b' o' hr; simp at hr
 ·intro r b o hr; simp at hr
 ·intro b hb
  rcases hb with hb | hb
  ·exact hrel.xlt b hb
  ·exact hb.lt hrel
 ·intro i x u hx hu
  have h1 := ((hargs.2 i x u hx hu).of_cl (zDn hc hx)).closed rfl (fun _ => {}) 0
  exact h1.fut (n0 := 0) (Fut.refl _ _ _) (fun b _ hb hb' => hb ((hm _ b).1 hb')) (fun b _ => hno _ b) (zZa _)
 ·rintro en w' ⟨v,y,H',ρ',rfl,⟨rfl,rfl⟩,g1,g2,g3⟩
  have hkeep : ∀ b,b < w.heap.size → w'.heap[b]? = w.heap[b]? := fun b hb => g3.keep b hb (hno _ b)
  obtain ⟨f1,f2⟩ := hrel.more ⟨g3.os,g3.tape,g3.output,g3.size⟩ hkeep
  refine ⟨v,y,H,ρ,rfl,⟨rfl,rfl⟩,f1,?_,f2⟩
  have h1 : Rep w' (Mut X ρ H.length) ρ' 0 y v := g2.fut (n0 := 0) (Fut.refl _ _ _) (fun b _ hb hb' => hb ((hm _ b).2 hb')) (fun b _ => hno _ b) (zZa _)
  exact h1.closed rfl ρ H.length
theorem zLA {x : AV} {K K' : AV → zA → Prop} (h : nextA x H K) (hK : ∀ x H',K x H' → K' x H') : nextA x H K' := by
 unfold nextA at h ⊢
 split at h
 ·unfold zSq at h ⊢
  split at h
  ·exact ⟨fun h0 => hK _ _ (h.1 h0),fun i hi => hK _ _ (h.2 i hi)⟩
  ·exact h.elim
 ·exact h.elim
theorem zBr {op : LOp} {K K' : AV → zA → Prop} (h : aop P op e H K) (hK : ∀ x H',K x H' → K' x H') : aop P op e H K' := by
 cases op <;> simp only [aop] at h ⊢ <;> first | exact ⟨h.1,hK _ _ h.2⟩ | exact ⟨h.1,fun b hb => hK _ _ (h.2 b hb)⟩ | exact zLA h hK | skip
 case call f args =>
  unfold zGA at h ⊢
  split at h
  ·exact ACall.mono h hK
  ·exact AYield.mono h hK
  ·exact h.elim
 case callh f args =>
  unfold zGA at h ⊢
  split at h
  ·exact ACall.mono h hK
  ·exact AYield.mono h hK
  ·exact h.elim
 case pick c a b =>
  split at h
  ·split at h
   ·rename_i hb; rw [if_pos hb]; exact hK _ _ h
   ·rename_i hb; rw [if_neg hb]; exact hK _ _ h
  ·exact h.elim
theorem zB2 {op : LOp} {x : AV} (h : zDb P op e H fun y => y = x) : aop P op e H fun y H' => y = x ∧ H' = H := by
 cases op <;> simp only [zDb,aop] at h ⊢ <;> first | exact ⟨h.1,h.2.2,h.2.1⟩ | exact h.elim | skip
 case call f args =>
  split at h
  ·rename_i k first caps hf
   obtain ⟨y,h1,h2,rfl⟩ := h
   rw [hf]
   exact h1.frame h2 H
  ·exact h.elim
 case callh f args =>
  split at h
  ·rename_i k first caps hf
   obtain ⟨y,h1,rfl⟩ := h
   rw [hf]
   exact h1
  ·exact h.elim
 case pick c a b =>
  split at h
  ·split at h
   ·rename_i hb; rw [if_pos hb]; exact ⟨h,trivial⟩
   ·rename_i hb; rw [if_neg hb]; exact ⟨h,trivial⟩
  ·exact h.elim
theorem zTa {op : LOp} {K : AV → Prop} (h : zDb P op e H K) : ∃ x,K x ∧ zDb P op e H fun y => y = x := by
 cases op <;> simp only [zDb] at h ⊢ <;> first | exact ⟨_,h.2.2,h.1,h.2.1,rfl⟩ | exact h.elim | skip
 case call f args =>
  split at h
  ·obtain ⟨y,h1,h2,h3⟩ := h
   exact ⟨y,h3,y,h1,h2,rfl⟩
  ·exact h.elim
 case callh f args =>
  split at h
  ·obtain ⟨y,h1,h3⟩ := h
   exact ⟨y,h3,y,h1,rfl⟩
  ·exact h.elim
 case pick c a b =>
  split at h
  ·split at h
   ·rename_i hb; exact ⟨_,h,by rw [if_pos hb]⟩
   ·rename_i hb; exact ⟨_,h,by rw [if_neg hb]⟩
  ·exact h.elim
theorem zY {e e' : Env} {x : LX} (h : ∀ t ∈ x.rd,e t = e' t) : ev e x = ev e' x := by
 cases x with
 | t n => exact h n (by simp [LX.rd])
 | c _ => rfl
theorem zCz {e e' : Env} {l : List LX} (h : ∀ t ∈ rdL l,e t = e' t) : l.map (ev e) = l.map (ev e') :=
 zzaD fun x hx => zY fun t ht => h t (zzbq.2 ⟨x,hx,ht⟩)
theorem zEG {e e' : Env} {l : Option LX} (h : ∀ t ∈ rdO l,e t = e' t) : l.map (ev e) = l.map (ev e') := by
 cases l with
 | none => rfl
 | some x => exact congrArg some (zY h)
theorem zE8 {op : LOp} {e e' : Env} (h : ∀ t ∈ op.rd,e t = e' t) : zAW op e H = zAW op e' H := by
 cases op <;> simp only [LOp.rd,zZv] at h <;> simp only [zAW] <;> first | rfl | (rw [zY h]; done) | (rw [zY fun t ht => h t (.inl ht),zY fun t ht => h t (.inr ht)]; done) | skip
 case build zs ps =>
  congr 1
  exact zzaD fun p hp => by rw [zY fun t ht => h t (zzbq.2 ⟨p,hp,ht⟩)]
 case bsl imm sz len zs ps =>
  congr 1
  exact zzaD fun p hp => by rw [zY fun t ht => h t (zzbq.2 ⟨p,hp,ht⟩)]
 case ins kd m k x => rw [zY fun t ht => h t (.inl (.inl ht)),zY fun t ht => h t (.inl (.inr ht)),zY fun t ht => h t (.inr ht)]
 case mkfn f a b => rw [zCz fun t ht => h t (.inl ht),zCz fun t ht => h t (.inr ht)]
 case max3 x y z => rw [zY fun t ht => h t (.inl (.inl ht)),zY fun t ht => h t (.inl (.inr ht)),zY fun t ht => h t (.inr ht)]
 case slicev lk k x lo hi => rw [zY fun t ht => h t (.inl (.inl ht)),zEG fun t ht => h t (.inl (.inr ht)),zEG fun t ht => h t (.inr ht)]
 case slice lk k x lo hi => rw [zY fun t ht => h t (.inl (.inl ht)),zEG fun t ht => h t (.inl (.inr ht)),zEG fun t ht => h t (.inr ht)]
theorem zMc {op : LOp} {e e' : Env} {K : AV → Prop} (h : ∀ t ∈ op.rd,e t = e' t) (hk : zDb P op e H K) : zDb P op e' H K := by
 have ha := zE8 (H := H) h
 cases op <;> simp only [zDb] at hk ⊢ <;> first | (rw [← ha]; exact hk) | exact hk | skip
 case call f args =>
  simp only [LOp.rd,zZv] at h
  rw [← zY fun t ht => h t (.inl ht),← zCz fun t ht => h t (.inr ht)]
  exact hk
 case callh f args =>
  simp only [LOp.rd,zZv] at h
  rw [← zY fun t ht => h t (.inl ht),← zCz fun t ht => h t (.inr ht)]
  exact hk
 case pick c a b =>
  simp only [LOp.rd,zZv] at h
  rw [← zY fun t ht => h t (.inl (.inl ht)),← zY fun t ht => h t (.inl (.inr ht)),← zY fun t ht => h t (.inr ht)]
  exact hk
def zCO (P : Program) (o : LO) (e : Env) (H : zA) (x : AV) : Prop :=
 (zBd o.g e = some true ∧ zDb P o.op e H fun y => y = x) ∨ (zBd o.g e = some false ∧ x = zAk)
theorem zBT {g : Option (Nat × Bool)} {e e' : Env} (h : ∀ t want,g = some (t,want) → e t = e' t) : zBd g e = zBd g e' := by
 cases g with
 | none => rfl
 | some p =>
  obtain ⟨t,want⟩ := p
  simp only [zBd]
  rw [h t want rfl]
theorem zA3 {o : LO} {e e' : Env} {x : AV} (h : ∀ t ∈ o.rd,e t = e' t) (hk : zCO P o e H x) : zCO P o e' H x := by
 have hg : zBd o.g e = zBd o.g e' := zBT fun t want hg => h t (by simp [LO.rd,hg])
 rcases hk with ⟨h1,h2⟩ | ⟨h1,h2⟩
 ·exact .inl ⟨by rw [← hg]; exact h1,zMc (fun t ht => h t (by simp [LO.rd,ht])) h2⟩
 ·exact .inr ⟨by rw [← hg]; exact h1,h2⟩
theorem zB1 {o : LO} {l : List LO} {K : Env → zA → Prop} (h : (zBd o.g e = some true ∧ aop P o.op e H fun x H' => zAi P l (ups e o.d x) H' K) ∨ (zBd o.g e = some false ∧ zAi P l (ups e o.d zAk) H K)) : zAi P (o :: l) e H K := by
 simp only [zAi]
 cases hg : o.g with
 | none =>
  rw [hg] at h
  rcases h with h | h
  ·exact h.2
  ·simp [zBd] at h
 | some tw =>
  obtain ⟨t,want⟩ := tw
  rw [hg] at h
  simp only [zBd] at h
  cases het : e t with
  | v x =>
   rw [het] at h
   cases x <;> simp only [zYT,reduceCtorEq,false_and,or_self,zZn,false_or,true_and] at h ⊢ <;> first | exact h | skip
   case bool b =>
    have hu : up e t (bool b) = e := zLh het
    cases b <;> cases want <;> simp [hu,het] at h ⊢ <;> exact h
   case tuple us => rw [het]; exact h
  | _ => rw [het] at h; simp at h
theorem zC9 {o : LO} {l : List LO} {K : Env → Prop} (h : zAF P (o :: l) e H K) : ∃ x,zCO P o e H x ∧ zAF P l (ups e o.d x) H K := by
 have fin : (zBd o.g e = some true ∧ zDb P o.op e H fun x => zAF P l (ups e o.d x) H K) ∨ (zBd o.g e = some false ∧ zAF P l (ups e o.d zAk) H K) := by
  simp only [zAF] at h
  cases hg : o.g with
  | none => rw [hg] at h; exact .inl ⟨rfl,h⟩
  | some tw =>
   obtain ⟨t,want⟩ := tw
   rw [hg] at h
   simp only at h
   cases het : e t with
   | v x =>
    rw [het] at h
    cases x <;> simp only at h <;> first | exact h.elim | skip
    case bool b =>
     have hu : up e t (bool b) = e := zLh het
     cases b <;> cases want <;> simp only [hu,if_true,zZn,if_false,zBd,het] at h ⊢ <;> first | exact .inl ⟨rfl,h⟩ | exact .inr ⟨rfl,h⟩
    case tuple us => exact .inr ⟨by simp [zBd,het],h⟩
   | _ => rw [het] at h; exact h.elim
 rcases fin with ⟨h1,h2⟩ | ⟨h1,h2⟩
 ·obtain ⟨x,h3,h4⟩ := zTa h2
  exact ⟨x,.inl ⟨h1,h4⟩,h3⟩
 ·exact ⟨_,.inr ⟨h1,rfl⟩,h2⟩
def ED (hd : List LO) (xs : Nat → AV) (e : Env) (D : Nat → Bool) : Nat → Env
 | 0 => e
 | k + 1 => if D k = true then ups (ED hd xs e D k) (hd.getD k default).d (xs k) else ED hd xs e D k
theorem zBe {d : Option Nat} {x : AV} {t : Nat} (h : d ≠ some t) : ups e d x t = e t := by
 cases d with
 | none => rfl
 | some d => simp only [ups,up]; rw [if_neg fun hh => h (by rw [hh])]
theorem zAS {x : AV} {t : Nat} : ups e (some t) x t = x := by simp [ups,up]
variable {hd : List LO} {xs : Nat → AV}
theorem zAa {D D' : Nat → Bool} {t : Nat} : ∀ k,(∀ j,j < k → (hd.getD j default).d = some t → D j = D' j) → ED hd xs e D k t = ED hd xs e D' k t
 | 0,_ => rfl
 | k + 1,h => by
  have ih := zAa k fun j hj => h j (by omega)
  simp only [ED]
  by_cases hd' : (hd.getD k default).d = some t
  ·rw [h k (by omega) hd',hd']
   split
   ·rw [zAS,zAS]
   ·exact ih
  ·split <;> split <;> simp only [zBe hd',ih]
theorem zAR {D : Nat → Bool} {t i : Nat} : ∀ k,i ≤ k → (∀ j,i ≤ j → j < k → (hd.getD j default).d = some t → D j = false) → ED hd xs e D k t = ED hd xs e D i t
 | 0,hk,_ => by rw [show i = 0 by omega]
 | k + 1,hk,h => by
  by_cases hik : i = k + 1
  ·rw [hik]
  ·rw [← zAR k (by omega) fun j h1 h2 => h j h1 (by omega)]
   simp only [ED]
   by_cases hd' : (hd.getD k default).d = some t
   ·rw [h k (by omega) (by omega) hd']; simp
   ·split
    ·exact zBe hd'
    ·rfl
theorem zH3 {o : LO} {l : List LO} {x : AV} {xs : Nat → AV} : ∀ i,ED (o :: l) (fun i => match i with | 0 => x | i + 1 => xs i) e (fun _ => true) (i + 1) = ED l xs (ups e o.d x) (fun _ => true) i
 | 0 => by simp [ED]
 | i + 1 => by
  have ih := zH3 (o := o) (l := l) (x := x) (xs := xs) i
  rw [ED,ih]
  simp [ED]
theorem zBD : ∀ (hd : List LO) {e : Env} {K : Env → Prop},zAF P hd e H K → ∃ xs : Nat → AV,K (ED hd xs e (fun _ => true) hd.length) ∧ ∀ i,i < hd.length → zCO P (hd.getD i default) (ED hd xs e (fun _ => true) i) H (xs i)
 | [],e,K,h => ⟨fun _ => .any,h,fun i hi => by simp at hi⟩
 | o :: l,e,K,h => by
  obtain ⟨x,h1,h2⟩ := zC9 h
  obtain ⟨xs,h3,h4⟩ := zBD l h2
  refine ⟨fun i => match i with | 0 => x | i + 1 => xs i,?_,fun i hi => ?_⟩
  ·rw [zYZ,zH3]; exact h3
  ·cases i with
   | zero => exact h1
   | succ i =>
    rw [zH3]
    exact h4 i (by simpa using hi)
theorem zFY {t : Nat} {l : List Nat} (h : zTN (some t) l = false) : t ∉ l := by simpa [zTN] using h
theorem zEA {hs : List Hn} {reg : Nat} {ops : Array Oper} : ∀ (l : List Oper) (i : Nat) (hd : List LO),zGx P n hs reg ops i l = some hd → hd.length = l.length ∧ ∀ k o,l[k]? = some o → ∃ imm,zAy P n imm ops o = some (hd.getD k default)
 | [],i,hd,h => by
  simp only [zGx,zYT] at h
  subst h
  exact ⟨rfl,fun k o h => by simp at h⟩
 | o :: l,i,hd,h => by
  unfold zGx at h
  cases h1 : zAy P n (zAZ hs reg i) ops o with
  | none => simp [h1] at h
  | some lo =>
   cases h2 : zGx P n hs reg ops (i + 1) l with
   | none => simp [h1,h2] at h
   | some m =>
    simp only [h1,h2,zYT] at h
    subst h
    obtain ⟨g1,g2⟩ := zEA l (i + 1) m h2
    refine ⟨by simp [g1],fun k o' hk => ?_⟩
    cases k with
    | zero => simp at hk; subst hk; exact ⟨_,h1⟩
    | succ k => simpa using g2 k o' (by simpa using hk)
variable {ops : Array Oper}
theorem zD2 {hdl : List LO} {h : Nat} (hd : zG4 ops hdl h = true) {i j : Nat} (hj : j < ops.size) (hi : i < j) :
  ((Region.before ops).getD j 0).testBit i = true ∨ (j < h ∧ zZ (hdl.getD i default) (hdl.getD j default) = false) := by
 unfold zG4 at hd
 have h1 := zZb.1 hd j (zZE.2 hj)
 have h2 := zZb.1 h1 i (zZE.2 hi)
 simp only [zZM,zYX,zY5,zZL] at h2
 exact h2
theorem zCq {r : Option Nat} {m0 : Nat} {hs : List Hn} {reg h : Nat} {K : Env → zA → Prop} {Q : Exit → Act → World → Prop} (hE : zAg ops = true) (hT : ∀ i j,h ≤ i → i < j → j < ops.size → ((Region.before ops).getD j 0).testBit i = true)
  (hQ : ∀ e' H' a' w',K e' H' → St B X w0 ρ0 n0 n e' H' a' w' → Q .normal a' w') :
  ∀ (fuel k : Nat) (los : List LO) (e : Env) (H : zA) (a : Act) (w : World) (listed : Array Bool),h ≤ k → fuel + k = ops.size → listed.size = ops.size → (∀ j,j < ops.size → listed.getD j true = decide (j < k)) → Closed ops listed →
   zBi P n hs reg ops k (ops.toList.drop k) = some los → zAi P los e H K → St B X w0 ρ0 n0 n e H a w → wpAnyIn (WR r) m0 P .any ops Q fuel listed a w
 | 0,k,los,e,H,a,w,listed,hk,hf,hsz,hl,hc,hlo,h,hst => by
  rw [zzaI (by simp; omega)] at hlo
  unfold zBi at hlo
  split at hlo
  ·rename_i hg
   simp only [zYT] at hlo
   subst hlo
   obtain ⟨e',H',h',hst'⟩ := zAf (zAb hs reg k) (los := []) hg (by simpa using h) hst
   refine ⟨zZS.2 fun i hi => ?_,hQ _ _ _ _ h' hst'⟩
   obtain ⟨h1,o,h2,_⟩ := mem_ready.1 hi
   have h3 := (zY8.1 h2).1
   rw [hl i h3] at h1
   simp at h1
   omega
  ·cases hlo
 | fuel + 1,k,los,e,H,a,w,listed,hk,hf,hsz,hl,hc,hlo,h,hst => by
  have hks : k < ops.size := by omega
  rw [zZV (by simpa using hks)] at hlo
  have hop : ops[k]? = some (ops.toList[k]'(by simpa using hks)) := by simp [hks]
  generalize ops.toList[k]'(by simpa using hks) = o at hlo hop
  unfold zBi at hlo
  cases h1 : zAy P n (zAZ hs reg k) ops o with
  | none => simp [h1] at hlo
  | some lo =>
   cases h2 : zBi P n hs reg ops (k + 1) (ops.toList.drop (k + 1)) with
   | none => simp [h1,h2] at hlo
   | some m =>
    simp only [h1,h2] at hlo
    split at hlo
    ·rename_i hg
     simp only [zYT] at hlo
     subst hlo
     obtain ⟨e',H',h',hst'⟩ := zAf (zAb hs reg k) hg h hst
     have hkr : k ∈ Region.ready .any ops listed := zB4 hE hks (by rw [hl k hks]; simp) fun j hj => by rw [zP (by omega),hl j (by omega)]; simpa using hj
     refine ⟨fun h0 => by rw [h0] at hkr; simp at hkr,fun i hi => ?_⟩
     have hik : i = k := by
      obtain ⟨g1,oi,g2,g3⟩ := mem_ready.1 hi
      have g4 := (zY8.1 g2).1
      rw [hl i g4] at g1
      simp only [decide_eq_false_iff_not,Nat.not_lt] at g1
      rcases zzas k i with g5 | g5
      ·have := zJ hc i oi k g2 (hT k i hk g5 g4) g3
       rw [zP (by omega),hl k hks] at this
       simp at this
      ·omega
     subst hik
     have hnx := zA4 (r := r) (m0 := m0) h1 h' hst' (next := wpAnyIn (WR r) m0 P .any ops Q fuel (listed.setIfInBounds i true)) (Q := Q) fun e'' H'' a'' w'' hK hs'' =>
      zCq hE hT hQ fuel (i + 1) m e'' H'' a'' w'' (listed.setIfInBounds i true) (by omega) (by omega) (by simpa using hsz) (fun j hj => by
       rw [zO]
       by_cases hji : j = i
       ·rw [if_pos ⟨hji,by omega⟩]; simp; omega
       ·rw [if_neg fun hh => hji hh.1,hl j hj]
        have : (j < i) = (j < i + 1) := by simp; omega
        simp only [this]) (hc.set hi) h2 hK hs''
     unfold wpOpIn
     rw [hop]
     simp only
     exact hnx
    ·cases hlo
theorem zAT {a b : LO} (h : zZ a b = false) : (∀ t,a.d = some t → t ∉ b.rd) ∧ (∀ t,b.d = some t → t ∉ a.rd) ∧ ∀ t,a.d = some t → b.d ≠ some t := by
 simp only [zZ,Bool.or_eq_false_iff] at h
 refine ⟨fun t ht => zFY (by rw [← ht]; exact h.1.1),fun t ht => zFY (by rw [← ht]; exact h.1.2),fun t ht ht' => ?_⟩
 have := h.2
 rw [ht,ht'] at this
 simp at this
theorem zGe {hdl : List LO} {h : Nat} (hd : zG4 ops hdl h = true) : ∀ i j,h ≤ i → i < j → j < ops.size → ((Region.before ops).getD j 0).testBit i = true := fun i j h1 h2 h3 => by
 rcases zD2 hd h3 h2 with g | g
 ·exact g
 ·omega
theorem zLO {r : Option Nat} {m0 : Nat} {hs : List Hn} {reg h : Nat} {tl : List LO} {K : Env → zA → Prop} {Q : Exit → Act → World → Prop} (hE : zAg ops = true) (hD : zG4 ops hd h = true) (hh : h ≤ ops.size)
  (hlen : hd.length = h) (hget : ∀ k o,k < h → ops[k]? = some o → ∃ imm,zAy P n imm ops o = some (hd.getD k default)) (hx : ∀ i,i < h → zCO P (hd.getD i default) (ED hd xs e (fun _ => true) i) H (xs i))
  (htl : zBi P n hs reg ops h (ops.toList.drop h) = some tl) (hK : zAi P tl (ED hd xs e (fun _ => true) h) H K)
  (hQ : ∀ e' H' a' w',K e' H' → St B X w0 ρ0 n0 n e' H' a' w' → Q .normal a' w') :
  ∀ (fuel : Nat) (a : Act) (w : World) (listed : Array Bool),fuel = left listed ops.size → listed.size = ops.size → (∀ j,h ≤ j → j < ops.size → listed.getD j true = false) → Closed ops listed →
   St B X w0 ρ0 n0 n (ED hd xs e (fun j => listed.getD j false) h) H a w → wpAnyIn (WR r) m0 P .any ops Q fuel listed a w := by
 intro fuel
 induction fuel with
 | zero =>
  intro a w listed hf hsz ht hc hst
  have hall : ∀ j,j < ops.size → listed.getD j true = decide (j < h) := by
   intro j hj
   by_cases hjh : j < h
   ·cases hb : listed.getD j true with
    | true => simp [hjh]
    | false => have := zCM hb ops.size hj; omega
   ·rw [ht j (by omega) hj]; simp [hjh]
  have hE' : ED hd xs e (fun j => listed.getD j false) h = ED hd xs e (fun _ => true) h := by
   funext t
   exact zAa h fun j hj _ => by rw [zP (by omega),hall j (by omega)]; simpa using hj
  rw [hE'] at hst
  have h0 := zBt ops.size hall
  exact zCq hE (zGe hD) hQ 0 h tl _ H a w listed (zZa _) (by omega) hsz hall hc htl hK hst
 | succ fuel ih =>
  intro a w listed hf hsz ht hc hst
  by_cases hfull : ∀ j,j < h → listed.getD j true = true
  ·have hall : ∀ j,j < ops.size → listed.getD j true = decide (j < h) := by
    intro j hj
    by_cases hjh : j < h
    ·rw [hfull j hjh]; simp [hjh]
    ·rw [ht j (by omega) hj]; simp [hjh]
   have hE' : ED hd xs e (fun j => listed.getD j false) h = ED hd xs e (fun _ => true) h := by
    funext t
    exact zAa h fun j hj _ => by rw [zP (by omega),hall j (by omega)]; simpa using hj
   rw [hE'] at hst
   have h0 := zBt ops.size hall
   exact zCq hE (zGe hD) hQ (fuel + 1) h tl _ H a w listed (zZa _) (by omega) hsz hall hc htl hK hst
  ·have hun : ∃ i,i < h ∧ listed.getD i true = false := by
    refine zZo fun hno => hfull fun j hj => ?_
    cases hb : listed.getD j true with
    | true => rfl
    | false => exact absurd ⟨j,hj,hb⟩ hno
   obtain ⟨i0,hi0,hi0u,hi0l⟩ := zCo hun
   have hr0 : i0 ∈ Region.ready .any ops listed := zB4 hE (by omega) hi0u fun j hj => by rw [zP (by omega)]; exact hi0l j hj
   refine ⟨fun h0 => by rw [h0] at hr0; simp at hr0,fun i hi => ?_⟩
   obtain ⟨hiu,oi,hoi,hiall⟩ := mem_ready.1 hi
   have his : i < ops.size := (zY8.1 hoi).1
   have hih : i < h := by
    refine zZo fun hge => ?_
    rcases zD2 hD (i := i0) his (by omega) with g6 | g6
    ·have := zJ hc i oi i0 hoi g6 hiall
     rw [zP (by omega),hi0u] at this
     cases this
    ·omega
   have hidf : listed.getD i false = false := by rw [zP (by omega)]; exact hiu
   have hbef : ∀ j,j < i → zZ (hd.getD j default) (hd.getD i default) = true → listed.getD j false = true := by
    intro j hj hcf
    rcases zD2 hD his hj with g6 | g6
    ·exact zJ hc i oi j hoi g6 hiall
    ·rw [g6.2] at hcf; cases hcf
   have hbeh : ∀ j,i < j → j < h → zZ (hd.getD i default) (hd.getD j default) = true → listed.getD j false = false := by
    intro j hj hjh hcf
    rcases zD2 hD (show j < ops.size by omega) hj with g6 | g6
    ·cases hb : listed.getD j false with
     | false => rfl
     | true =>
      obtain ⟨oj,hoj⟩ : ∃ oj,ops[j]? = some oj := ⟨ops[j]'(by omega),by simp [show j < ops.size by omega]⟩
      have := zJ hc j oj i hoj g6 (hc j oj hoj hb)
      rw [hidf] at this
      cases this
    ·rw [g6.2] at hcf; cases hcf
   have hcf1 : ∀ a b : LO,∀ t,a.d = some t → t ∈ b.rd → zZ a b = true := by
    intro a b t h1 h2
    cases hb : zZ a b with
    | true => rfl
    | false => exact absurd h2 ((zAT hb).1 t h1)
   have hcf2 : ∀ a b : LO,∀ t,b.d = some t → t ∈ a.rd → zZ a b = true := by
    intro a b t h1 h2
    cases hb : zZ a b with
    | true => rfl
    | false => exact absurd h2 ((zAT hb).2.1 t h1)
   have hcf3 : ∀ a b : LO,∀ t,a.d = some t → b.d = some t → zZ a b = true := by
    intro a b t h1 h2
    cases hb : zZ a b with
    | true => rfl
    | false => exact absurd h2 ((zAT hb).2.2 t h1)
   have hA : ∀ t ∈ (hd.getD i default).rd,ED hd xs e (fun _ => true) i t = ED hd xs e (fun j => listed.getD j false) h t := by
    intro t htr
    rw [zAR (i := i) h (by omega) fun j h1 h2 h3 => by
     by_cases hji : j = i
     ·rw [hji]; exact hidf
     ·exact hbeh j (by omega) h2 (hcf2 _ _ t h3 htr)]
    exact zAa i fun j h1 h2 => (hbef j h1 (hcf1 _ _ t h2 htr)).symm
   have hB : ups (ED hd xs e (fun j => listed.getD j false) h) (hd.getD i default).d (xs i) = ED hd xs e (fun j => (listed.setIfInBounds i true).getD j false) h := by
    funext t
    by_cases hdt : (hd.getD i default).d = some t
    ·rw [zAR (i := i + 1) h (by omega) fun j h1 h2 h3 => by
      rw [zO,if_neg (by omega)]
      exact hbeh j (by omega) h2 (hcf3 _ _ t hdt h3)]
     rw [hdt,zAS]
     have hset : (listed.setIfInBounds i true).getD i false = true := by rw [zO,if_pos ⟨rfl,by omega⟩]
     simp only [ED]
     rw [if_pos hset,hdt,zAS]
    ·rw [zBe hdt]
     exact zAa h fun j h1 h2 => by
      rw [zO,if_neg]
      rintro ⟨rfl,_⟩
      exact hdt h2
   have hstep := zA3 hA (hx i hih)
   obtain ⟨imm,hlow⟩ := hget i oi hih hoi
   have hone : zAi P [hd.getD i default] (ED hd xs e (fun j => listed.getD j false) h) H fun e' H' => e' = ED hd xs e (fun j => (listed.setIfInBounds i true).getD j false) h ∧ H' = H := by
    refine zB1 ?_
    rcases hstep with ⟨g1,g2⟩ | ⟨g1,g2⟩
    ·refine .inl ⟨g1,?_⟩
     have := zB2 g2
     simp only [zAi]
     refine zBr this ?_
     rintro y H' ⟨rfl,rfl⟩
     exact ⟨hB,rfl⟩
    ·refine .inr ⟨g1,?_⟩
     rw [← g2]
     exact ⟨hB,rfl⟩
   have hnx := zA4 (r := r) (m0 := m0) hlow hone hst (next := wpAnyIn (WR r) m0 P .any ops Q fuel (listed.setIfInBounds i true)) (Q := Q) fun e'' H'' a'' w'' hK'' hs'' => by
    obtain ⟨rfl,rfl⟩ := hK''
    refine ih a'' w'' _ ?_ (by simpa using hsz) (fun j h1 h2 => by rw [zO,if_neg (by omega)]; exact ht j h1 h2) (hc.set hi) hs''
    have := zCL hiu ops.size
    rw [if_pos his] at this
    omega
   unfold wpOpIn
   rw [hoi]
   simp only
   exact hnx
theorem zL3 {r : Option Nat} {m0 : Nat} {hs : List Hn} {id h : Nat} {tl : List LO} {K : Env → zA → Prop} {Q : Exit → Act → World → Prop} (hhd : zGx P n hs id ops 0 (ops.toList.take h) = some hd) (htl : zBi P n hs id ops h (ops.toList.drop h) = some tl)
  (hD : zG4 ops hd h = true) (hE : zAg ops = true) (hm : P.follows .mixedOrders = true) (hh : h ≤ ops.size) (hK : zAF P hd e H fun e' => zAi P tl e' H K) (hst : St B X w0 ρ0 n0 n e H a w)
  (hQ : ∀ e' H' a' w',K e' H' → St B X w0 ρ0 n0 n e' H' a' w' → Q .normal a' w') : wpAnyIn (WR r) m0 P .any ops Q ops.size (Array.replicate ops.size false) a { w with drawn := w.drawn + 1 } := by
 obtain ⟨g1,g2⟩ := zEA _ _ _ hhd
 have hlen : hd.length = h := by rw [g1]; simp; omega
 obtain ⟨xs,g3,g4⟩ := zBD hd hK
 rw [hlen] at g3 g4
 have h0 : ∀ j,(Array.replicate ops.size false).getD j false = false := fun j => getD_replicate_false _ _
 have h1 : ∀ j,j < ops.size → (Array.replicate ops.size false).getD j true = false := fun j hj => by rw [← zP (by simpa using hj)]; exact h0 j
 refine zLO hE hD hh hlen (fun k o hk ho => g2 k o ?_) g4 htl g3 hQ ops.size a _ _ ?_ (by simp) (fun j _ hj => h1 j hj) ?_ ?_
 ·rw [zZP,if_pos hk]; simpa using ho
 ·have := zBt (listed := Array.replicate ops.size false) (h := 0) ops.size fun j hj => by rw [h1 j hj]; simp
  omega
 ·intro j oj hj hl
  rw [h0 j] at hl
  cases hl
 ·have : ED hd xs e (fun j => (Array.replicate ops.size false).getD j false) h = e := by
   funext t
   rw [zAR (i := 0) h (zZm _) fun j _ _ _ => h0 j]
   rfl
  rw [this]
  exact hst.still ⟨rfl,rfl,rfl,zZa _⟩ rfl
end
section
variable {B : DB} {P : Program} {w w0 : World} {X : Nat → Prop} {ρ ρ0 : Nat → Loc} {H H' ext : zA} {e : Env} {a : Act} {n n0 : Nat}
def Res.at (r : Res) (H : zA) : Res := ⟨r.ok,r.x,H⟩
theorem zSI (op : BinOp) (k k' : IntKind) (a b : Int) : iBin op k k' a b H' = (iBin op k k' a b H).at H' := by cases op <;> rfl
theorem zRZ (op : BinOp) (a b : List UInt8) : sBin op a b H' = (sBin op a b H).at H' := by cases op <;> rfl
theorem zFA (op : BinOp) (p : Prop) (b : Bool) : eqRes op p b H' = (eqRes op p b H).at H' := by cases op <;> rfl
theorem zKr (t : TypeId) (x : AV) : rMkif t x H' = (rMkif t x H).at H' := by unfold rMkif; split <;> rfl
theorem zM6 (kd : KD) (op : BinOp) (x y : AV) : rBin kd op x y H' = (rBin kd op x y H).at H' := by
 unfold rBin
 split
 ·exact zSI _ _ _ _ _
 ·exact zRZ _ _ _
 ·exact zFA _ _ _
 ·cases kd <;> first | rfl | exact zFA _ _ _
 ·exact zFA _ _ _
 ·exact zFA _ _ _
 ·rfl
theorem zMU (x : AV) : rNot x H' = (rNot x H).at H' := by unfold rNot; split <;> rfl
theorem zMW (x : AV) : rNeg x H' = (rNeg x H).at H' := by unfold rNeg; split <;> rfl
theorem zM1 (ag : Bool) (o k : Nat) (x : AV) : rFld ag o k x H' = (rFld ag o k x H).at H' := by unfold rFld; split <;> rfl
theorem zM0 (x i : AV) : rIdx x i H' = (rIdx x i H).at H' := by unfold rIdx; split <;> rfl
theorem zM2 (x : AV) (i : Nat) : rExt x i H' = (rExt x i H).at H' := by unfold rExt; split <;> rfl
theorem zMX (x y : AV) : rMin x y H' = (rMin x y H).at H' := by unfold rMin; split <;> rfl
theorem zKs (x y z : AV) : rMax3 x y z H' = (rMax3 x y z H).at H' := by unfold rMax3; split <;> rfl
theorem zMY (x y : AV) : rMax x y H' = (rMax x y H).at H' := by unfold rMax; split <;> rfl
theorem zGG (lk : LK) (n : Nat) (x : AV) (lo hi : Option AV) : zDg lk n x lo hi H' = (zDg lk n x lo hi H).at H' := by
 cases x with
 | sl a b =>
  show rSlice _ _ _ _ _ _ = (rSlice _ _ _ _ _ _).at _
  unfold rSlice
  generalize bnd 0 lo = l
  generalize bnd ((lenOf (AV.sl a b)).getD 0) hi = h
  cases l <;> cases h <;> rfl
 | v v =>
  show rSlice _ _ _ _ _ _ = (rSlice _ _ _ _ _ _).at _
  unfold rSlice
  generalize bnd 0 lo = l
  generalize bnd ((lenOf (AV.v v)).getD 0) hi = h
  cases v with
  | slice a b c => cases a <;> cases b <;> cases c <;> cases l <;> cases h <;> rfl
  | _ => cases l <;> cases h <;> rfl
 | _ => rfl
theorem zGJ (sz : Nat) (x i : AV) : zDh sz x i H' = (zDh sz x i H).at H' := by
 unfold zDh rIaddr
 split
 ·split
  ·rfl
  ·rename_i h; cases h
  ·rfl
 ·rfl
theorem zM5 (x : AV) : rBox true x H' = (rBox true x H).at H' := rfl
theorem zM4 (sz len : Nat) (zs : List AV) (ps : List (Nat × AV)) : rBsl true sz len zs ps H' = (rBsl true sz len zs ps H).at H' := rfl
theorem zE3 {r : Nat} {o : HO} (h : H[r]? = some o) : (H ++ ext)[r]? = some o := by
 rw [zY2 (zYU.1 h).1]; exact h
theorem zCx {ver r : Nat} (h : isVer ver H[r]?) : (H ++ ext)[r]? = H[r]? := by
 cases hh : H[r]? with
 | none => rw [hh] at h; exact h.elim
 | some o => exact zE3 hh
theorem zF5 {r : Nat} (h : isArr H[r]?) : (H ++ ext)[r]? = H[r]? := by
 cases hh : H[r]? with
 | none => rw [hh] at h; exact h.elim
 | some o => exact zE3 hh
def More (r r' : Res) (H H' : zA) : Prop := r'.ok ∧ r'.x = r.x ∧ (r.H = H → r'.H = H')
theorem More.of_at {r r' : Res} (h : r' = r.at H') (hok : r.ok) : More r r' H H' := by subst h; exact ⟨hok,rfl,fun _ => rfl⟩
theorem zIv (ag : Bool) (k i off : Nat) (o : Option HO) : rLoadO ag k i off H' o = (rLoadO ag k i off H o).at H' := by unfold rLoadO; split <;> rfl
theorem zGH {ag : Bool} {k : Nat} {p : AV} (h : (rLoad ag k p H).ok) : More (rLoad ag k p H) (rLoad ag k p (H ++ ext)) H (H ++ ext) := by
 cases p <;> simp only [rLoad] at h ⊢ <;> first | exact h.elim | skip
 case vp => exact ⟨h,rfl,fun _ => rfl⟩
 case ptr r ver off => rw [zCx h.1.2]; exact .of_at (by rw [zIv (H := H)]; rfl) h
 case pe r ver i off => rw [zCx h.1.2]; exact .of_at (by rw [zIv (H := H)]; rfl) h
theorem zJv {ag : Bool} {k : Nat} {p : AV} (h : (zCn ag k p H).ok) : More (zCn ag k p H) (zCn ag k p (H ++ ext)) H (H ++ ext) := by
 cases p <;> first | exact h.elim | exact zGH h
theorem zMV {x : AV} (h : (rNil x H).ok) : More (rNil x H) (rNil x (H ++ ext)) H (H ++ ext) := by
 cases x <;> simp only [rNil] at h ⊢ <;> first | exact h.elim | exact ⟨h,rfl,fun _ => rfl⟩ | skip
 case fn f a b => cases f <;> simp only [rNil] at h ⊢ <;> first | exact h.elim | exact ⟨h,rfl,fun _ => rfl⟩
 case ptr r ver off => rw [zCx h]; exact ⟨h,rfl,fun _ => rfl⟩
 case pe r ver i off => rw [zCx h]; exact ⟨h,rfl,fun _ => rfl⟩
theorem zFq {sz : Nat} {x : AV} (h : szOk H sz x) : szOk (H ++ ext) sz x ∧ rowsOf (H ++ ext) x = rowsOf H x := by
 cases x
 case os r ver off len =>
  simp only [szOk] at h ⊢
  split at h
  ·rename_i v s xs hh
   rw [zE3 hh]
   exact ⟨h,by simp only [rowsOf,osRows,hh,zE3 (ext := ext) hh]⟩
  ·exact h.elim
 case v u =>
  cases u <;> first | exact ⟨h,rfl⟩ | skip
  case slice a l c => cases a <;> cases l <;> cases c <;> first | exact ⟨h,rfl⟩ | exact h.elim
 all_goals exact ⟨h,rfl⟩
theorem zLw {c : Cv} {x : AV} (h : (rConv c x H).ok) : More (rConv c x H) (rConv c x (H ++ ext)) H (H ++ ext) := by
 have hno : ∀ {r : Res},r = .no H → r.ok → False := fun h1 h2 => by rw [h1] at h2; exact h2
 have hb : ∀ y : AV,szOk H 1 y ∧ ((rowsOf H y).bind zAH).isSome = true → szOk (H ++ ext) 1 y ∧ ((rowsOf (H ++ ext) y).bind zAH).isSome = true := fun y hy => by
  have := zFq (ext := ext) hy.1
  exact ⟨this.1,by rw [this.2]; exact hy.2⟩
 have hs : ∀ y : AV,szOk H 1 y → (rowsOf (H ++ ext) y) = rowsOf H y := fun y hy => (zFq hy).2
 cases c <;> cases x <;> simp only [rConv] at h ⊢ <;> first
  | exact h.elim
  | exact ⟨h,rfl,fun _ => rfl⟩
  | exact ⟨hb _ h,by rw [hs _ h.1],fun _ => rfl⟩
  | skip
 case sameB.os => rw [zF5 h.2.1]; exact ⟨h,rfl,fun _ => rfl⟩
 all_goals
  rename_i u
  cases u <;> simp only [rConv] at h ⊢ <;> first
   | exact h.elim
   | exact ⟨h,rfl,fun _ => rfl⟩
   | exact ⟨hb _ h,by rw [hs _ h.1],fun _ => rfl⟩
theorem zJu {lk : LK} {k : Nat} {x : AV} {lo hi : Option AV} (h : (rSlice lk k x lo hi H).ok) : More (rSlice lk k x lo hi H) (rSlice lk k x lo hi (H ++ ext)) H (H ++ ext) := by
 obtain ⟨⟨h1,h2⟩,h3⟩ := h
 have h2' := (zFq (ext := ext) h2).1
 have h4 : More (rSliceN x (bnd 0 lo) (bnd ((lenOf x).getD 0) hi) H) (rSliceN x (bnd 0 lo) (bnd ((lenOf x).getD 0) hi) (H ++ ext)) H (H ++ ext) := by
  unfold rSliceN at h3 ⊢
  split at h3
  ·exact ⟨h3,rfl,fun _ => rfl⟩
  ·exact ⟨h3,rfl,fun _ => rfl⟩
  ·rw [zF5 h3.2.2.2.1]; exact ⟨h3,rfl,fun _ => rfl⟩
  ·exact ⟨h3,rfl,fun _ => rfl⟩
  ·exact h3.elim
 exact ⟨⟨⟨h1,h2'⟩,h4.1⟩,h4.2.1,h4.2.2⟩
theorem zFU {k : Nat} {p : AV} (h : (rFaddr k p H).ok) : More (rFaddr k p H) (rFaddr k p (H ++ ext)) H (H ++ ext) := by
 cases p <;> simp only [rFaddr] at h ⊢ <;> first | exact h.elim | exact ⟨h,rfl,fun _ => rfl⟩ | skip
 case ptr r ver off => rw [zCx h.2]; exact ⟨h,rfl,fun _ => rfl⟩
 case pe r ver i off => rw [zCx h.2]; exact ⟨h,rfl,fun _ => rfl⟩
theorem zIw {k : Nat} {p : AV} (h : (zBB k p H).ok) : More (zBB k p H) (zBB k p (H ++ ext)) H (H ++ ext) := by
 cases p <;> first | exact h.elim | exact zFU h
theorem zJw {sz : Nat} {x i : AV} (h : (rIaddr sz x i H).ok) : More (rIaddr sz x i H) (rIaddr sz x i (H ++ ext)) H (H ++ ext) := by
 unfold rIaddr at h ⊢
 split at h
 ·exact ⟨h,rfl,fun _ => rfl⟩
 ·rw [zCx h.2.2.2]
  exact ⟨⟨h.1,h.2.1,(zFq h.2.2.1).1,h.2.2.2⟩,rfl,fun _ => rfl⟩
 ·exact h.elim
theorem zLt {kd : KD} {z : AV} {ok : Bool} {m k : AV} (h : (rLook kd z ok m k H).ok) : More (rLook kd z ok m k H) (rLook kd z ok m k (H ++ ext)) H (H ++ ext) := by
 unfold rLook at h ⊢
 split at h
 ·exact ⟨h,rfl,fun _ => rfl⟩
 ·split at h
  ·rename_i hh
   rw [zE3 hh]
   exact ⟨h,rfl,fun _ => rfl⟩
  ·exact h.elim
 ·exact h.elim
theorem zMZ {lk : LK} {x : AV} (h : (rLen lk x H).ok) : More (rLen lk x H) (rLen lk x (H ++ ext)) H (H ++ ext) := by
 obtain ⟨h1,h2⟩ := h
 refine ⟨⟨h1,?_⟩,rfl,fun _ => rfl⟩
 cases x <;> first | exact h2 | skip
 case os r ver off len => simp only [verOk] at h2 ⊢; rw [zF5 h2.1]; exact h2
theorem zLx {op : LOp} (hq : zDA op = true) (h : (zAW op e H).ok) : More (zAW op e H) (zAW op e (H ++ ext)) H (H ++ ext) := by
 cases op <;> simp only [zDA] at hq <;> simp only [zAW] at h ⊢ <;> first
  | exact (zzbf hq).elim
  | exact h.elim
  | exact ⟨h,rfl,fun _ => rfl⟩
  | exact .of_at (zM6 ..) h
  | exact .of_at (zMU ..) h
  | exact .of_at (zKr ..) h
  | exact .of_at (zMW ..) h
  | exact .of_at (zM1 ..) h
  | exact .of_at (zM0 ..) h
  | exact .of_at (zM2 ..) h
  | exact .of_at (zMX ..) h
  | exact .of_at (zMY ..) h
  | exact .of_at (zKs ..) h
  | exact zGH h
  | exact zJv h
  | exact zMV h
  | exact zLw h
  | exact zJu h
  | exact zFU h
  | exact zIw h
  | exact zJw h
  | exact .of_at (zGJ ..) h
  | exact .of_at (zGG ..) h
  | exact zLt h
  | exact zMZ h
  | skip
 case box imm x => rw [hq] at h ⊢; exact .of_at (zM5 ..) h
 case bsl imm sz len zs ps => rw [hq] at h ⊢; exact .of_at (zM4 ..) h
theorem zJR {op : LOp} (hq : zBc op = true) (hc : ∀ f args,op ≠ .call f args) (hp : ∀ c x y,op ≠ .pick c x y) : zAW op e H' = (zAW op e H).at H' := by
 cases op <;> simp only [zBc] at hq <;> simp only [zAW] <;> first
  | exact (zzbf hq).elim
  | rfl
  | exact zM6 ..
  | exact zMU ..
  | exact zKr ..
  | exact zMW ..
  | exact zM1 ..
  | exact zM0 ..
  | exact zM2 ..
  | exact zMX ..
  | exact zMY ..
  | exact zKs ..
  | exact absurd rfl (hc _ _)
  | exact absurd rfl (hp _ _ _)
  | exact zGJ ..
  | exact zGG ..
  | (subst hq; exact zM5 ..)
  | (subst hq; exact zM4 ..)
theorem zN5 {op : LOp} (hq : zF7 op = true) : ∃ ext,(zAW op e H).H = H ++ ext := by
 cases op <;> simp only [zF7,zZL] at hq <;> simp only [zAW] <;> first
  | exact (zzbf hq).elim
  | exact ⟨_,rfl⟩
  | skip
 case box imm x => rw [hq]; exact ⟨_,rfl⟩
 case bsl imm sz len zs ps => rw [hq]; exact ⟨_,rfl⟩
 case msl sz bytes zs len cap =>
  unfold rMsl
  split
  ·exact ⟨_,rfl⟩
  ·exact ⟨[],by simp [Res.no]⟩
theorem zGo {op : LOp} {x : AV} (hq : zDA op = true) (h : zDb P op e H fun y => y = x) : zDb P op e (H ++ ext) fun y => y = x := by
 have hh : ∀ (op : LOp),zDA op = true → ((zAW op e H).ok ∧ (zAW op e H).H = H ∧ (zAW op e H).x = x) → ((zAW op e (H ++ ext)).ok ∧ (zAW op e (H ++ ext)).H = H ++ ext ∧ (zAW op e (H ++ ext)).x = x) := fun op hq ⟨h1,h2,h3⟩ => by
  obtain ⟨g1,g2,g3⟩ := zLx (ext := ext) hq h1
  exact ⟨g1,g3 h2,g2.trans h3⟩
 cases op <;> simp only [zDb] at h ⊢ <;> first | exact h | (cases hq; done) | exact hh _ hq h
theorem zTb {op : LOp} {x : AV} (hq : zBc op = true) (h : zDb P op e H fun y => y = x) : zDb P op e H' fun y => y = x := by
 have hh : ∀ (op : LOp),zBc op = true → (∀ f args,op ≠ .call f args) → (∀ c x y,op ≠ .pick c x y) → ((zAW op e H).ok ∧ (zAW op e H).H = H ∧ (zAW op e H).x = x) → ((zAW op e H').ok ∧ (zAW op e H').H = H' ∧ (zAW op e H').x = x) := fun op hq hc hp ⟨h1,h2,h3⟩ => by
  rw [zJR (H := H) hq hc hp]
  exact ⟨h1,rfl,h3⟩
 cases op <;> simp only [zDb] at h ⊢ <;> first | exact h | (cases hq; done) | exact hh _ hq (by simp) (by simp) h
theorem zLi {o : LO} {x : AV} (hq : zDA o.op = true) (h : zCO P o e H x) : zCO P o e (H ++ ext) x := by
 rcases h with ⟨h1,h2⟩ | h
 ·exact .inl ⟨h1,zGo hq h2⟩
 ·exact .inr h
theorem zCG {o : LO} {x : AV} (hq : zBc o.op = true) (h : zCO P o e H x) : zCO P o e H' x := by
 rcases h with ⟨h1,h2⟩ | h
 ·exact .inl ⟨h1,zTb hq h2⟩
 ·exact .inr h
def wr : List (Option Nat × AV) → Env → Env
 | [],e => e
 | (d,x) :: l,e => wr l (ups e d x)
theorem zCu : ∀ (l : List (Option Nat × AV)) (e : Env) (d : Option Nat) (x : AV),wr (l ++ [(d,x)]) e = ups (wr l e) d x
 | [],_,_,_ => rfl
 | (d',x') :: l,e,d,x => zCu l (ups e d' x') d x
theorem zJe {t : Nat} : ∀ (l : List (Option Nat × AV)) (e : Env),(∀ x,(some t,x) ∉ l) → wr l e t = e t
 | [],_,_ => rfl
 | (d,x) :: l,e,h => by
  rw [wr,zJe l _ fun y hy => h y (zZN _ hy),zBe]
  intro hd; exact h x (by rw [hd]; exact List.mem_cons_self)
theorem zPe {d d' : Option Nat} {x x' : AV} (h : ∀ t,d = some t → d' ≠ some t) : ups (ups e d x) d' x' = ups (ups e d' x') d x := by
 funext t
 cases d with
 | none => rfl
 | some a =>
  cases d' with
  | none => rfl
  | some b =>
   have hab : a ≠ b := fun hh => h a rfl (by rw [hh])
   simp only [ups,up]
   by_cases h1 : t = b
   ·rw [if_pos h1,if_neg (by omega),if_pos h1]
   ·rw [if_neg h1,if_neg h1]
theorem zGB {d : Option Nat} {y : AV} : ∀ (l : List (Option Nat × AV)) (e : Env),(∀ t,d = some t → ∀ x,(some t,x) ∉ l) → ups (wr l e) d y = wr l (ups e d y)
 | [],_,_ => rfl
 | (d',x) :: l,e,h => by
  rw [wr,wr,zGB l _ fun t ht z hz => h t ht z (zZN _ hz),zPe]
  intro t ht hd
  exact h t hd x (by rw [ht]; exact List.mem_cons_self)
theorem zDR {op : LOp} {e e' : Env} {K : AV → zA → Prop} (h : ∀ t ∈ op.rd,e t = e' t) (hk : aop P op e H K) : aop P op e' H K := by
 have ha := zE8 (H := H) h
 cases op <;> simp only [aop] at hk ⊢ <;> first | (rw [← ha]; exact hk) | exact hk | skip
 case call f args =>
  simp only [LOp.rd,zZv] at h
  rw [← zY fun t ht => h t (.inl ht),← zCz fun t ht => h t (.inr ht)]
  exact hk
 case callh f args =>
  simp only [LOp.rd,zZv] at h
  rw [← zY fun t ht => h t (.inl ht),← zCz fun t ht => h t (.inr ht)]
  exact hk
 case pick c a b =>
  simp only [LOp.rd,zZv] at h
  rw [← zY fun t ht => h t (.inl (.inl ht)),← zY fun t ht => h t (.inl (.inr ht)),← zY fun t ht => h t (.inr ht)]
  exact hk
 case isnil neg x =>
  rw [← zY h]
  exact hk
 case nextm x =>
  rw [← zY h]
  exact hk
variable {ops : Array Oper} {hd : List LO} {xs : Nat → AV}
def Pr (P : Program) (n : Nat) (hs : List Hn) (reg : Nat) (ops : Array Oper) (hd : List LO) (h p1 p2 : Nat) : Prop := ∀ i j,j < ops.size → i < j →
 ((Region.before ops).getD j 0).testBit i = true ∨ (j < h ∧ zZ (hd.getD i default) (hd.getD j default) = false) ∨
  (i < h ∧ h ≤ j ∧ zAb hs reg j = [] ∧ zDA (hd.getD i default).op = true ∧ zZ (hd.getD i default) (zAn P n hs reg ops j) = false ∧ zRf (hd.getD i default).op (zAn P n hs reg ops j).op = true) ∨ (p1 ≤ i ∧ j < p2)
theorem zL7 {hs : List Hn} {reg : Nat} {hdl : List LO} {h : Nat} (hd : zJZ P n hs reg ops hdl h = true) : Pr P n hs reg ops hdl h h h := by
 intro i j hj hi
 have h1 := zZb.1 (zZb.1 hd j (by simpa using hj)) i (by simpa using hi)
 simp only [zZM,zYX,zY5,zZL,zzav] at h1
 rcases h1 with (h1 | h1) | h1
 ·exact .inl h1
 ·exact .inr (.inl h1)
 ·exact .inr (.inr (.inl ⟨h1.1.1.1.1.1,h1.1.1.1.1.2,h1.1.1.1.2,h1.1.1.2,h1.1.2,h1.2⟩))
theorem zL6 {hs : List Hn} {reg : Nat} {hdl : List LO} {h p1 p2 : Nat} (hd : zHQ P n hs reg ops hdl h p1 p2 = true) : Pr P n hs reg ops hdl h p1 p2 ∧
  ∀ j,h ≤ j → j < p2 → (zAn P n hs reg ops j).g = none ∧ (∀ o,ops[j]? = some o → zAy P n (zAZ hs reg j) ops o = some (zAn P n hs reg ops j)) ∧ (j < p1 → zF7 (zAn P n hs reg ops j).op = true) ∧ (p1 ≤ j → zHJ (zAn P n hs reg ops j).op = true ∧ (zAn P n hs reg ops j).d = none) := by
 unfold zHQ at hd
 simp only [zYX] at hd
 obtain ⟨hd1,hd2⟩ := hd
 refine ⟨fun i j hj hi => ?_,fun j h1 h2 => ?_⟩
 ·have h1 := zZb.1 (zZb.1 hd1 j (by simpa using hj)) i (by simpa using hi)
  simp only [zZM,zYX,zY5,zZL,zzav] at h1
  rcases h1 with ((h1 | h1) | h1) | h1
  ·exact .inl h1
  ·exact .inr (.inl h1)
  ·exact .inr (.inr (.inl ⟨h1.1.1.1.1.1,h1.1.1.1.1.2,h1.1.1.1.2,h1.1.1.2,h1.1.2,h1.2⟩))
  ·exact .inr (.inr (.inr h1))
 ·have h3 := zZb.1 hd2 j (by simpa using h2)
  rw [zZM] at h3
  rcases h3 with h3 | h3
  ·simp at h3; omega
  ·simp only [zYX,Option.isNone_iff_eq_none] at h3
   obtain ⟨⟨⟨g1,g2⟩,g3⟩,g4⟩ := h3
   refine ⟨g1,fun o ho => ?_,fun hp => by rw [if_pos hp] at g4; exact g4,fun hp => by rw [if_neg (by omega)] at g4; simpa using g4⟩
   rw [ho] at g3
   unfold zAn
   rw [ho]
   cases hl : zAy P n (zAZ hs reg j) ops o with
   | none => simp [hl] at g3
   | some lo => simp [hl]
theorem zLu {ag : Bool} {k r : Nat} {p : AV} {ho : HO} (hr : ¬ isBox H[r]?) (h : (zCn ag k p H).ok) : (zCn ag k p (H.set r ho)).ok ∧ (zCn ag k p (H.set r ho)).x = (zCn ag k p H).x ∧ (zCn ag k p (H.set r ho)).H = H.set r ho := by
 cases p <;> first | exact h.elim | skip
 case ptr r' ver off =>
  simp only [zCn,rLoad] at h ⊢
  have hb : isBox H[r']? := h.1.1
  have hne : r ≠ r' := fun e => by subst e; exact hr hb
  have hg : (H.set r ho)[r']? = H[r']? := by rw [zZj hne]
  rw [hg]
  obtain ⟨cs,hc⟩ : ∃ cs,H[r']? = some (.box cs) := by
   revert hb
   cases H[r']? with
   | none => intro hb; exact hb.elim
   | some o => cases o <;> intro hb <;> first | exact hb.elim | exact ⟨_,rfl⟩
  rw [hc] at h ⊢
  exact ⟨h,rfl,rfl⟩
 case vp cs off => exact ⟨h,rfl,rfl⟩
theorem zJx {k r : Nat} {p : AV} {ho : HO} (hr : ¬ isBox H[r]?) (h : (zBB k p H).ok) : (zBB k p (H.set r ho)).ok ∧ (zBB k p (H.set r ho)).x = (zBB k p H).x ∧ (zBB k p (H.set r ho)).H = H.set r ho := by
 cases p <;> first | exact h.elim | skip
 case ptr r' ver off =>
  have hne : r ≠ r' := fun e => by subst e; exact hr h.1
  refine ⟨?_,rfl,rfl⟩
  show isBox (H.set r ho)[r']? ∧ isVer ver (H.set r ho)[r']?
  rw [zZj hne]
  exact h
 case vp cs off => exact ⟨h,rfl,rfl⟩
def zXh (H H2 : zA) : Prop := (∃ ext,H2 = H ++ ext) ∨ ∃ r ho,¬ isBox H[r]? ∧ H2 = H.set r ho
theorem zP2 {kd : KD} {m k x : AV} (h : (rIns kd m k x H).ok) : zXh H (rIns kd m k x H).H := by
 unfold rIns at h ⊢
 split at h
 ·split at h
  ·rename_i hm
   exact .inr ⟨_,_,by rw [hm]; exact fun h => h,rfl⟩
  ·exact h.elim
 ·exact h.elim
theorem zQt {sz bytes : Nat} {s x : AV} (h : (rAppend sz bytes s x H).ok) : zXh H (rAppend sz bytes s x H).H := by
 unfold rAppend at h ⊢
 split at h
 ·obtain ⟨_,h⟩ := h
  unfold rAppendO at h
  simp only [Res.also]
  unfold rAppendO
  split at h
  ·rename_i hm
   split at h
   ·exact .inr ⟨_,_,by rw [hm]; exact fun h => h,rfl⟩
   ·exact h.elim
  ·exact h.elim
 ·obtain ⟨_,h⟩ := h
  unfold rAppendN at h
  simp only [Res.also]
  unfold rAppendN
  split at h
  ·exact .inl ⟨_,rfl⟩
  ·exact h.elim
 ·obtain ⟨_,h⟩ := h
  unfold rAppendC at h
  simp only [Res.also]
  unfold rAppendC
  split at h
  ·exact .inl ⟨[],by simp⟩
  ·unfold rAppendN at h ⊢
   split at h
   ·exact .inl ⟨_,rfl⟩
   ·exact h.elim
 ·exact h.elim
theorem zSu {op : LOp} (hq : (zHJ op || zLM op) = true) (h : (zAW op e H).ok) : zXh H (zAW op e H).H := by
 cases op <;> simp [zHJ,zLM] at hq
 ·exact zP2 h
 ·exact zQt h
theorem zLj {o : LO} {x : AV} {H2 : zA} (hq : zNV o.op = true) (hk : zXh H H2) (h : zCO P o e H x) : zCO P o e H2 x := by
 refine h.imp (fun ⟨h1,h2⟩ => ⟨h1,?_⟩) id
 cases hop : o.op <;> rw [hop] at hq h2 <;> first | (cases hq; done) | skip
 ·rename_i ag k p
  rcases hk with ⟨ext,rfl⟩ | ⟨r,ho,hr,rfl⟩
  ·exact zGo (by rfl) h2
  ·obtain ⟨g1,g2,g3⟩ := h2
   obtain ⟨f1,f2,f3⟩ := zLu (ho := ho) hr g1
   exact ⟨f1,f3,f2.trans g3⟩
 ·rename_i k p
  rcases hk with ⟨ext,rfl⟩ | ⟨r,ho,hr,rfl⟩
  ·exact zGo (by rfl) h2
  ·obtain ⟨g1,g2,g3⟩ := h2
   obtain ⟨f1,f2,f3⟩ := zJx (ho := ho) hr g1
   exact ⟨f1,f3,f2.trans g3⟩
def det (op : LOp) : Bool := zF7 op || zHJ op || zLM op || zW3 op
theorem zJ0 {op : LOp} (hq : det op = true) {K : AV → zA → Prop} : aop P op e H K = ((zAW op e H).ok ∧ K (zAW op e H).x (zAW op e H).H) := by
 cases op <;> first | rfl | (simp [det,zF7,zHJ,zLM,zW3] at hq)
theorem zG8 {a b : LO} {H2 : zA} (hq : zDA a.op = true) (hc : zRf a.op b.op = true) (hb : (zAW b.op e H).ok → H2 = (zAW b.op e H).H) (hok : (zAW b.op e H).ok) {e' : Env} {x : AV} (h : zCO P a e' H x) : zCO P a e' H2 x := by
 unfold zRf at hc
 simp only [zZM,zYX] at hc
 obtain rfl := hb hok
 rcases hc with ((hc | hc) | hc) | hc
 ·exact zCG hc h
 ·obtain ⟨ext,hx⟩ := zN5 (e := e) (H := H) hc
  rw [hx]; exact zLi hq h
 ·exact zLj hc.1 (zSu (by simpa using hc.2) hok) h
 ·cases hop : b.op <;> rw [hop] at hc <;> first | (cases hc; done) | skip
  exact h
theorem zFX {r : Option Nat} {m0 : Nat} {hs : List Hn} {reg h p1 p : Nat} {K : Env → zA → Prop} {Q : Exit → Act → World → Prop} (hE : zAg ops = true) (hD : Pr P n hs reg ops hd h p1 p) (hp : h ≤ p) (hp1 : h ≤ p1) (hh : h ≤ ops.size)
  (hlen : hd.length = h) (hget : ∀ k o,k < h → ops[k]? = some o → ∃ imm,zAy P n imm ops o = some (hd.getD k default))
  (hQ : ∀ e' H' a' w',K e' H' → St B X w0 ρ0 n0 n e' H' a' w' → Q .normal a' w') :
  ∀ (fuel k : Nat) (los : List LO) (ws : List (Option Nat × AV)) (H : zA) (a : Act) (w : World) (listed : Array Bool),p ≤ k → k ≤ ops.size → fuel = left listed ops.size → listed.size = ops.size →
   (∀ j,h ≤ j → j < ops.size → listed.getD j true = decide (j < k)) → Closed ops listed → zBi P n hs reg ops k (ops.toList.drop k) = some los → zAi P los (wr ws (ED hd xs e (fun _ => true) h)) H K →
   (∀ i,i < h → listed.getD i false = false → zCO P (hd.getD i default) (ED hd xs e (fun _ => true) i) H (xs i)) →
   (∀ i,i < h → listed.getD i false = false → ∀ t x,(some t,x) ∈ ws → t ∉ (hd.getD i default).rd ∧ (hd.getD i default).d ≠ some t) →
   St B X w0 ρ0 n0 n (wr ws (ED hd xs e (fun j => listed.getD j false) h)) H a w → wpAnyIn (WR r) m0 P .any ops Q fuel listed a w := by
 have hT : ∀ i j,p ≤ i → i < j → j < ops.size → ((Region.before ops).getD j 0).testBit i = true := fun i j h1 h2 h3 => by
  rcases hD i j h3 h2 with g | g | g | g
  ·exact g
  ·omega
  ·omega
  ·omega
 intro fuel
 induction fuel with
 | zero =>
  intro k los ws H a w listed hk hks hf hsz ht hc hlo hK hx hw hst
  have hall : ∀ j,j < ops.size → listed.getD j true = true := by
   intro j hj
   cases hb : listed.getD j true with
   | true => rfl
   | false => have := zCM hb ops.size hj; omega
  have hk2 : k = ops.size := by
   refine zZo fun hne => ?_
   have h1 := ht k (by omega) (by omega)
   rw [hall k (by omega)] at h1
   simp at h1
  have hE' : ED hd xs e (fun j => listed.getD j false) h = ED hd xs e (fun _ => true) h := by
   funext t
   exact zAa h fun j hj _ => by rw [zP (by omega),hall j (by omega)]
  rw [hE'] at hst
  exact zCq hE hT hQ 0 k los _ H a w listed hk (by omega) hsz (fun j hj => by rw [hall j hj]; simp; omega) hc hlo hK hst
 | succ fuel ih =>
  intro k los ws H a w listed hk hks hf hsz ht hc hlo hK hx hw hst
  by_cases hfull : ∀ j,j < h → listed.getD j true = true
  ·have hall : ∀ j,j < ops.size → listed.getD j true = decide (j < k) := by
    intro j hj
    by_cases hjh : j < h
    ·rw [hfull j hjh]; simp; omega
    ·exact ht j (by omega) hj
   have hE' : ED hd xs e (fun j => listed.getD j false) h = ED hd xs e (fun _ => true) h := by
    funext t
    exact zAa h fun j hj _ => by rw [zP (by omega),hall j (by omega)]; simp; omega
   rw [hE'] at hst
   have h0 := zBt ops.size hall
   exact zCq hE hT hQ (fuel + 1) k los _ H a w listed hk (by omega) hsz hall hc hlo hK hst
  ·have hun : ∃ i,i < h ∧ listed.getD i true = false := by
    refine zZo fun hno => hfull fun j hj => ?_
    cases hb : listed.getD j true with
    | true => rfl
    | false => exact absurd ⟨j,hj,hb⟩ hno
   obtain ⟨i0,hi0,hi0u,hi0l⟩ := zCo hun
   have hr0 : i0 ∈ Region.ready .any ops listed := zB4 hE (by omega) hi0u fun j hj => by rw [zP (by omega)]; exact hi0l j hj
   refine ⟨fun h0 => by rw [h0] at hr0; simp at hr0,fun i hi => ?_⟩
   obtain ⟨hiu,oi,hoi,hiall⟩ := mem_ready.1 hi
   have his : i < ops.size := (zY8.1 hoi).1
   have hidf : listed.getD i false = false := by rw [zP (by omega)]; exact hiu
   have hcf1 : ∀ a b : LO,∀ t,a.d = some t → t ∈ b.rd → zZ a b = true := by
    intro a b t h1 h2
    cases hb : zZ a b with
    | true => rfl
    | false => exact absurd h2 ((zAT hb).1 t h1)
   have hcf2 : ∀ a b : LO,∀ t,b.d = some t → t ∈ a.rd → zZ a b = true := by
    intro a b t h1 h2
    cases hb : zZ a b with
    | true => rfl
    | false => exact absurd h2 ((zAT hb).2.1 t h1)
   have hcf3 : ∀ a b : LO,∀ t,a.d = some t → b.d = some t → zZ a b = true := by
    intro a b t h1 h2
    cases hb : zZ a b with
    | true => rfl
    | false => exact absurd h2 ((zAT hb).2.2 t h1)
   have hcount : fuel = left (listed.setIfInBounds i true) ops.size := by
    have := zCL hiu ops.size
    rw [if_pos his] at this
    omega
   by_cases hih : i < h
   ·
    have hbef : ∀ j,j < i → zZ (hd.getD j default) (hd.getD i default) = true → listed.getD j false = true := by
     intro j hj hcf
     rcases hD j i his hj with g6 | g6 | g6 | g6
     ·exact zJ hc i oi j hoi g6 hiall
     ·rw [g6.2] at hcf; cases hcf
     ·omega
     ·omega
    have hbeh : ∀ j,i < j → j < h → zZ (hd.getD i default) (hd.getD j default) = true → listed.getD j false = false := by
     intro j hj hjh hcf
     rcases hD i j (show j < ops.size by omega) hj with g6 | g6 | g6 | g6
     ·cases hb : listed.getD j false with
      | false => rfl
      | true =>
       obtain ⟨oj,hoj⟩ : ∃ oj,ops[j]? = some oj := ⟨ops[j]'(by omega),by simp [show j < ops.size by omega]⟩
       have := zJ hc j oj i hoj g6 (hc j oj hoj hb)
       rw [hidf] at this
       cases this
     ·rw [g6.2] at hcf; cases hcf
     ·omega
     ·omega
    have hwi := hw i hih hidf
    have hA : ∀ t ∈ (hd.getD i default).rd,ED hd xs e (fun _ => true) i t = wr ws (ED hd xs e (fun j => listed.getD j false) h) t := by
     intro t htr
     rw [zJe ws _ fun x hx => (hwi t x hx).1 htr,zAR (i := i) h (by omega) fun j h1 h2 h3 => by
      by_cases hji : j = i
      ·rw [hji]; exact hidf
      ·exact hbeh j (by omega) h2 (hcf2 _ _ t h3 htr)]
     exact zAa i fun j h1 h2 => (hbef j h1 (hcf1 _ _ t h2 htr)).symm
    have hB0 : ups (ED hd xs e (fun j => listed.getD j false) h) (hd.getD i default).d (xs i) = ED hd xs e (fun j => (listed.setIfInBounds i true).getD j false) h := by
     funext t
     by_cases hdt : (hd.getD i default).d = some t
     ·rw [zAR (i := i + 1) h (by omega) fun j h1 h2 h3 => by
       rw [zO,if_neg (by omega)]
       exact hbeh j (by omega) h2 (hcf3 _ _ t hdt h3)]
      rw [hdt,zAS]
      have hset : (listed.setIfInBounds i true).getD i false = true := by rw [zO,if_pos ⟨rfl,by omega⟩]
      simp only [ED]
      rw [if_pos hset,hdt,zAS]
     ·rw [zBe hdt]
      exact zAa h fun j h1 h2 => by
       rw [zO,if_neg]
       rintro ⟨rfl,_⟩
       exact hdt h2
    have hB : ups (wr ws (ED hd xs e (fun j => listed.getD j false) h)) (hd.getD i default).d (xs i) = wr ws (ED hd xs e (fun j => (listed.setIfInBounds i true).getD j false) h) := by
     rw [zGB ws _ fun t ht x hx => (hwi t x hx).2 ht,hB0]
    have hstep := zA3 hA (hx i hih hidf)
    obtain ⟨imm,hlow⟩ := hget i oi hih hoi
    have hone : zAi P [hd.getD i default] (wr ws (ED hd xs e (fun j => listed.getD j false) h)) H fun e' H' => e' = wr ws (ED hd xs e (fun j => (listed.setIfInBounds i true).getD j false) h) ∧ H' = H := by
     refine zB1 ?_
     rcases hstep with ⟨g1,g2⟩ | ⟨g1,g2⟩
     ·refine .inl ⟨g1,?_⟩
      have := zB2 g2
      simp only [zAi]
      refine zBr this ?_
      rintro y H' ⟨rfl,rfl⟩
      exact ⟨hB,rfl⟩
     ·refine .inr ⟨g1,?_⟩
      rw [← g2]
      exact ⟨hB,rfl⟩
    have hnx := zA4 (r := r) (m0 := m0) hlow hone hst (next := wpAnyIn (WR r) m0 P .any ops Q fuel (listed.setIfInBounds i true)) (Q := Q) fun e'' H'' a'' w'' hK'' hs'' => by
     obtain ⟨rfl,rfl⟩ := hK''
     have hsub : ∀ j,j < h → (listed.setIfInBounds i true).getD j false = false → listed.getD j false = false := fun j hj hl => by
      rw [zO] at hl
      split at hl
      ·cases hl
      ·exact hl
     exact ih k los ws _ a'' w'' _ hk hks hcount (by simpa using hsz) (fun j h1 h2 => by rw [zO,if_neg (by omega)]; exact ht j h1 h2) (hc.set hi) hlo hK (fun j hj hl => hx j hj (hsub j hj hl)) (fun j hj hl => hw j hj (hsub j hj hl)) hs''
    unfold wpOpIn
    rw [hoi]
    simp only
    exact hnx
   ·
    have hik : i = k := by
     have g1 := ht i (by omega) his
     rw [hiu] at g1
     have g2 : ¬ i < k := by simpa using g1.symm
     rcases zzas k i with g5 | g5
     ·have := zJ hc i oi k hoi (hT k i hk g5 his) hiall
      rw [zP (by omega),ht k (by omega) (by omega)] at this
      simp at this
     ·omega
    subst hik
    have hfr : ∀ j,j < h → listed.getD j false = false → zAb hs reg i = [] ∧ zDA (hd.getD j default).op = true ∧ zZ (hd.getD j default) (zAn P n hs reg ops i) = false ∧ zRf (hd.getD j default).op (zAn P n hs reg ops i).op = true := by
     intro j hj hl
     rcases hD j i his (show j < i by omega) with g | g | g | g
     ·have := zJ hc i oi j hoi g hiall
      rw [hl] at this
      cases this
     ·omega
     ·exact g.2.2
     ·omega
    have hi0f : listed.getD i0 false = false := by rw [zP (by omega)]; exact hi0u
    rw [zZV (by simpa using his)] at hlo
    have hop : ops[i]? = some (ops.toList[i]'(by simpa using his)) := by simp [his]
    generalize ops.toList[i]'(by simpa using his) = o at hlo hop
    obtain rfl : oi = o := zzba (hoi.symm.trans hop)
    unfold zBi at hlo
    cases h1 : zAy P n (zAZ hs reg i) ops oi with
    | none => simp [h1] at hlo
    | some lo =>
     cases h2 : zBi P n hs reg ops (i + 1) (ops.toList.drop (i + 1)) with
     | none => simp [h1,h2] at hlo
     | some m =>
      simp only [h1,h2,(hfr i0 hi0 hi0f).1,zZk] at hlo
      split at hlo
      ·simp only [zYT] at hlo
       subst hlo
       have htl : zAn P n hs reg ops i = lo := by simp [zAn,hoi,h1]
       rw [htl] at hfr
       have hR : ∀ t ∈ lo.rd,wr ws (ED hd xs e (fun _ => true) h) t = wr ws (ED hd xs e (fun j => listed.getD j false) h) t := by
        intro t htr
        have : ∀ (l : List (Option Nat × AV)) (e1 e2 : Env),e1 t = e2 t → wr l e1 t = wr l e2 t := by
         intro l
         induction l with
         | nil => intro e1 e2 h; exact h
         | cons p l ihl =>
          intro e1 e2 h
          obtain ⟨d,x⟩ := p
          refine ihl _ _ ?_
          by_cases hdt : d = some t
          ·rw [hdt,zAS,zAS]
          ·rw [zBe hdt,zBe hdt]; exact h
        refine this ws _ _ (zAa h fun j hj hdj => ?_)
        cases hb : listed.getD j false with
        | true => rfl
        | false =>
         have := (zAT (hfr j hj hb).2.2.1).1 t hdj
         exact absurd htr this
       have hwant : zBd lo.g (wr ws (ED hd xs e (fun _ => true) h)) = zBd lo.g (wr ws (ED hd xs e (fun j => listed.getD j false) h)) := zBT fun t want hg => hR t (by simp [LO.rd,hg])
       have hnext : ∀ (x : AV) (H2 : zA),zAi P m (ups (wr ws (ED hd xs e (fun _ => true) h)) lo.d x) H2 K → (∀ j,j < h → listed.getD j false = false → zCO P (hd.getD j default) (ED hd xs e (fun _ => true) j) H2 (xs j)) →
         ∀ a'' w'',St B X w0 ρ0 n0 n (ups (wr ws (ED hd xs e (fun j => listed.getD j false) h)) lo.d x) H2 a'' w'' → wpAnyIn (WR r) m0 P .any ops Q fuel (listed.setIfInBounds i true) a'' w'' := by
        intro x H2 hK2 hH a'' w'' hs''
        have hsame : ∀ j,j < h → (listed.setIfInBounds i true).getD j false = listed.getD j false := fun j hj => by rw [zO,if_neg (by omega)]
        have hED : ED hd xs e (fun j => (listed.setIfInBounds i true).getD j false) h = ED hd xs e (fun j => listed.getD j false) h := by
         funext t
         exact zAa h fun j hj _ => hsame j hj
        refine ih (i + 1) m (ws ++ [(lo.d,x)]) H2 a'' w'' _ (by omega) (by omega) hcount (by simpa using hsz) (fun j hj1 hj2 => ?_) (hc.set hi) h2 (by rw [zCu]; exact hK2) (fun j hj hl => ?_) (fun j hj hl t y hy => ?_) (by rw [zCu,hED]; exact hs'')
        ·rw [zO]
         by_cases hji : j = i
         ·rw [if_pos ⟨hji,by omega⟩]; simp; omega
         ·rw [if_neg fun hh => hji hh.1,ht j hj1 hj2]
          have : (j < i) = (j < i + 1) := by simp; omega
          simp only [this]
        ·rw [hsame j hj] at hl
         exact hH j hj hl
        ·rw [hsame j hj] at hl
         rcases zZv.1 hy with hy | hy
         ·exact hw j hj hl t y hy
         ·simp only [zZ5,zZi] at hy
          have hcf := zAT (hfr j hj hl).2.2.1
          exact ⟨hcf.2.1 t hy.1.symm,fun hdj => hcf.2.2 t hdj hy.1.symm⟩
       have hone : zAi P [lo] (wr ws (ED hd xs e (fun j => listed.getD j false) h)) H fun e' H2 => ∃ x,e' = ups (wr ws (ED hd xs e (fun j => listed.getD j false) h)) lo.d x ∧ zAi P m (ups (wr ws (ED hd xs e (fun _ => true) h)) lo.d x) H2 K ∧ (∀ j,j < h → listed.getD j false = false → zCO P (hd.getD j default) (ED hd xs e (fun _ => true) j) H2 (xs j)) := by
        refine zB1 ?_
        rcases zCg hK with ⟨g1,g2⟩ | ⟨g1,g2⟩
        ·refine .inl ⟨by rw [← hwant]; exact g1,?_⟩
         have g3 := zDR (fun t ht => hR t (by simp [LO.rd,ht])) g2
         by_cases hdet : det lo.op = true
         ·rw [zJ0 hdet] at g3 ⊢
          refine ⟨g3.1,?_⟩
          simp only [zAi]
          exact ⟨_,rfl,g3.2,fun j hj hl => zG8 (hfr j hj hl).2.1 (hfr j hj hl).2.2.2 (fun _ => rfl) g3.1 (hx j hj hl)⟩
         ·have hnf : ((zF7 lo.op = false ∧ zHJ lo.op = false) ∧ zLM lo.op = false) ∧ zW3 lo.op = false := by
           have : det lo.op = false := by simpa using hdet
           simpa only [det,Bool.or_eq_false_iff] using this
          refine zBr g3 fun x H2 hx2 => ?_
          simp only [zAi]
          refine ⟨x,rfl,hx2,fun j hj hl => zCG ?_ (hx j hj hl)⟩
          have hc := (hfr j hj hl).2.2.2
          unfold zRf at hc
          rw [hnf.1.1.1,hnf.1.1.2,hnf.1.2,hnf.2] at hc
          simpa using hc
        ·refine .inr ⟨by rw [← hwant]; exact g1,?_⟩
         exact ⟨zAk,rfl,g2,hx⟩
       have hnx := zA4 (r := r) (m0 := m0) h1 hone hst (next := wpAnyIn (WR r) m0 P .any ops Q fuel (listed.setIfInBounds i true)) (Q := Q) fun e'' H'' a'' w'' hK'' hs'' => by
        obtain ⟨x,rfl,hK2,hH⟩ := hK''
        exact hnext x H'' hK2 hH a'' w'' hs''
       unfold wpOpIn
       rw [hoi]
       simp only
       exact hnx
      ·cases hlo
theorem zJY {r : Option Nat} {m0 : Nat} {hs : List Hn} {id h : Nat} {tl : List LO} {K : Env → zA → Prop} {Q : Exit → Act → World → Prop} (hhd : zGx P n hs id ops 0 (ops.toList.take h) = some hd) (htl : zBi P n hs id ops h (ops.toList.drop h) = some tl)
  (hD : zJZ P n hs id ops hd h = true) (hE : zAg ops = true) (hm : P.follows .mixedOrders = true) (hh : h ≤ ops.size) (hK : zAF P hd e H fun e' => zAi P tl e' H K) (hst : St B X w0 ρ0 n0 n e H a w)
  (hQ : ∀ e' H' a' w',K e' H' → St B X w0 ρ0 n0 n e' H' a' w' → Q .normal a' w') : wpAnyIn (WR r) m0 P .any ops Q ops.size (Array.replicate ops.size false) a { w with drawn := w.drawn + 1 } := by
 obtain ⟨g1,g2⟩ := zEA _ _ _ hhd
 have hlen : hd.length = h := by rw [g1]; simp; omega
 obtain ⟨xs,g3,g4⟩ := zBD hd hK
 rw [hlen] at g3 g4
 have h0 : ∀ j,(Array.replicate ops.size false).getD j false = false := fun j => getD_replicate_false _ _
 have h1 : ∀ j,j < ops.size → (Array.replicate ops.size false).getD j true = false := fun j hj => by rw [← zP (by simpa using hj)]; exact h0 j
 refine zFX hE (zL7 hD) (zZa _) (zZa _) hh hlen (fun k o hk ho => g2 k o ?_) hQ ops.size h tl [] H a _ _ (zZa _) hh ?_ (by simp) (fun j h2 hj => ?_) ?_ htl g3 (fun i hi _ => g4 i hi) (fun i _ _ t x hx => by simp at hx) ?_
 ·rw [zZP,if_pos hk]; simpa using ho
 ·have := zBt (listed := Array.replicate ops.size false) (h := 0) ops.size fun j hj => by rw [h1 j hj]; simp
  omega
 ·rw [h1 j hj]; simp; omega
 ·intro j oj hj hl
  rw [h0 j] at hl
  cases hl
 ·have : ED hd xs e (fun j => (Array.replicate ops.size false).getD j false) h = e := by
   funext t
   rw [zAR (i := 0) h (zZm _) fun j _ _ _ => h0 j]
   rfl
  show St B X w0 ρ0 n0 n (ED hd xs e (fun j => (Array.replicate ops.size false).getD j false) h) H a _
  rw [this]
  exact hst.still ⟨rfl,rfl,rfl,zZa _⟩ rfl
end
section
variable {P : Program} {π : List Nat} {ops : Array Oper} {n : Nat}
theorem zB9 (h : zCV π n = true) : π.length = n ∧ ∀ k,k < n → π.getD k 0 < n ∧ π.idxOf (π.getD k 0) = k ∧ π.idxOf k < n ∧ π.getD (π.idxOf k) 0 = k := by
 simp only [zCV,zYX,zY5,zZb,zZE] at h
 exact ⟨h.1,fun k hk => ⟨(h.2 k hk).1.1.1,(h.2 k hk).1.1.2,(h.2 k hk).1.2,(h.2 k hk).2⟩⟩
theorem zKO (h : zCV π n = true) {j : Nat} (hj : n ≤ j) : n ≤ π.idxOf j := by
 obtain ⟨hl,hp⟩ := zB9 h
 refine zZo fun hlt => ?_
 have hlt : π.idxOf j < n := by omega
 have hmem : j ∈ π := List.idxOf_lt_length_iff.1 (by omega)
 obtain ⟨k,hk,rfl⟩ := zZY.1 hmem
 have := (hp k (by omega)).1
 simp [zZd,hk] at this
 omega
theorem zDB (h : zCV π ops.size = true) : (zBV π ops).size = ops.size := by simp [zBV,(zB9 h).1]
theorem zJB (h : zCV π ops.size = true) {k : Nat} (hk : k < ops.size) : (zBV π ops)[k]? = (ops[π.getD k 0]?).map (zHv π) := by
 obtain ⟨hl,hp⟩ := zB9 h
 have h1 := (hp k hk).1
 have hkl : k < π.length := by omega
 have h2 : π[k]?.getD 0 < ops.size := by simpa [zZd] using h1
 simp [zBV,hkl] at h2 ⊢
 simp [zZq,h2]
theorem zET (h : zCV π ops.size = true) (j : Nat) : (zBV π ops)[π.idxOf j]? = (ops[j]?).map (zHv π) := by
 obtain ⟨hl,hp⟩ := zB9 h
 by_cases hj : j < ops.size
 ·rw [zJB h (hp j hj).2.2.1,(hp j hj).2.2.2]
 ·have h1 := zKO h (j := j) (by omega)
  rw [zzak (by rw [zDB h]; exact h1),zzak (by omega)]
  rfl
theorem zH7 (h : zCV π ops.size = true) (tmps : Array Value) (j : Nat) : yielded (zBV π ops) tmps (π.idxOf j) = yielded ops tmps j := by
 unfold yielded
 rw [zET h j]
 cases ops[j]? <;> rfl
theorem zJg (h : zCV π ops.size = true) (o : Oper) (tmps : Array Value) : Region.wanted (zHv π o) (yielded (zBV π ops) tmps) = Region.wanted o (yielded ops tmps) := by
 unfold Region.wanted zHv
 cases hg : o.guard with
 | none => rfl
 | some jb =>
  obtain ⟨j,b⟩ := jb
  simp only [zZt]
  rw [zH7 h]
def Alike (π : List Nat) (n : Nat) (l l' : Array Bool) : Prop := l.size = n ∧ l'.size = n ∧ ∀ k,k < n → l'.getD k false = l.getD (π.getD k 0) false
theorem Alike.at_idx {l l' : Array Bool} (h : zCV π n = true) (ha : Alike π n l l') (j : Nat) : l'.getD (π.idxOf j) false = l.getD j false := by
 obtain ⟨hl,hp⟩ := zB9 h
 by_cases hj : j < n
 ·rw [ha.2.2 _ (hp j hj).2.2.1,(hp j hj).2.2.2]
 ·have h1 := zKO h (j := j) (by omega)
  have e1 : l'.getD (π.idxOf j) false = false := by simp [zZq,zzak (show l'.size ≤ π.idxOf j by rw [ha.2.1]; exact h1)]
  have e2 : l.getD j false = false := by simp [zZq,zzak (show l.size ≤ j by rw [ha.1]; omega)]
  rw [e1,e2]
theorem Alike.set {l l' : Array Bool} (h : zCV π n = true) (ha : Alike π n l l') {i : Nat} (hi : i < n) : Alike π n (l.setIfInBounds i true) (l'.setIfInBounds (π.idxOf i) true) := by
 obtain ⟨hl,hp⟩ := zB9 h
 refine ⟨by simpa using ha.1,by simpa using ha.2.1,fun k hk => ?_⟩
 rw [zO,zO,ha.2.2 k hk]
 by_cases hki : k = π.idxOf i
 ·subst hki
  rw [if_pos ⟨rfl,by rw [ha.2.1]; exact hk⟩,if_pos ⟨(hp i hi).2.2.2,by rw [ha.1]; exact hi⟩]
 ·rw [if_neg (fun hh => hki hh.1),if_neg]
  rintro ⟨e,_⟩
  have := (hp k hk).2.1
  rw [e] at this
  exact hki this.symm
theorem zER {md : Region.Mode} {l l' : Array Bool} (h : zCV π ops.size = true) (ha : Alike π ops.size l l') {i : Nat} (hi : i < ops.size) : π.idxOf i ∈ Region.ready md (zBV π ops) l' ↔ i ∈ Region.ready md ops l := by
 obtain ⟨hl,hp⟩ := zB9 h
 rw [mem_ready,mem_ready,zET h i]
 have e1 : l'.getD (π.idxOf i) true = l.getD i true := by
  rw [← zP (by rw [ha.2.1]; exact (hp i hi).2.2.1),← zP (by rw [ha.1]; exact hi)]
  exact ha.at_idx h i
 rw [e1]
 refine and_congr Iff.rfl ⟨?_,?_⟩
 ·rintro ⟨o',ho,hall⟩
  obtain ⟨o,hoo,rfl⟩ := zzaJ.1 ho
  refine ⟨o,hoo,fun e he hb => ?_⟩
  have := hall { e with on := π.idxOf e.on } (by simp only [zHv]; exact Array.mem_map.2 ⟨e,he,rfl⟩) hb
  rw [← ha.at_idx h e.on]
  exact this
 ·rintro ⟨o,ho,hall⟩
  refine ⟨zHv π o,by rw [ho]; rfl,fun e' he' hb => ?_⟩
  simp only [zHv] at he'
  obtain ⟨e,he,rfl⟩ := Array.mem_map.1 he'
  show l'.getD (π.idxOf e.on) false = true
  rw [ha.at_idx h e.on]
  exact hall e he hb
theorem zPI {F : Fence} {m : Nat} {md : Region.Mode} {Q : Exit → Act → World → Prop} (h : zCV π ops.size = true) : ∀ (fuel : Nat) (l l' : Array Bool) (a : Act) (w : World),Alike π ops.size l l' →
  wpAnyIn F m P md (zBV π ops) Q fuel l' a w → wpAnyIn F m P md ops Q fuel l a w := by
 obtain ⟨hl,hp⟩ := zB9 h
 have emp : ∀ l l',Alike π ops.size l l' → (Region.ready md (zBV π ops) l' = [] ↔ Region.ready md ops l = []) := by
  intro l l' ha
  rw [zZS,zZS]
  refine ⟨fun hh i hi => ?_,fun hh k hk => ?_⟩
  ·have his : i < ops.size := by obtain ⟨_,o,ho,_⟩ := mem_ready.1 hi; exact (zY8.1 ho).1
   exact hh _ ((zER h ha his).2 hi)
  ·have hks : k < ops.size := by obtain ⟨_,o,ho,_⟩ := mem_ready.1 hk; have := (zY8.1 ho).1; rwa [zDB h] at this
   have := (zER (md := md) h ha (hp k hks).1)
   rw [(hp k hks).2.1] at this
   exact hh _ (this.1 hk)
 intro fuel
 induction fuel with
 | zero => exact fun l l' a w ha hh => ⟨(emp l l' ha).1 hh.1,hh.2⟩
 | succ fuel ih =>
  intro l l' a w ha hh
  refine ⟨fun h0 => hh.1 ((emp l l' ha).2 h0),fun i hi => ?_⟩
  have his : i < ops.size := by obtain ⟨_,o,ho,_⟩ := mem_ready.1 hi; exact (zY8.1 ho).1
  have h1 := hh.2 _ ((zER h ha his).2 hi)
  have hi2 : ops[i]? = some ops[i] := by simp [his]
  have hi1 : (zBV π ops)[π.idxOf i]? = some (zHv π ops[i]) := by rw [zET h i,hi2]; rfl
  unfold wpOpIn at h1 ⊢
  rw [hi1] at h1
  rw [hi2]
  simp only [zJg h] at h1 ⊢
  have hK : ∀ a w,wpAnyIn F m P md (zBV π ops) Q fuel (l'.setIfInBounds (π.idxOf i) true) a w → wpAnyIn F m P md ops Q fuel (l.setIfInBounds i true) a w := fun a w => ih _ _ a w (ha.set h his)
  split
  ·rename_i hw; rw [if_pos hw] at h1; exact Oper.wpIn_mono hK h1
  ·rename_i hw; rw [if_neg hw] at h1; exact ⟨h1.1,hK _ _ h1.2⟩
theorem zBg {F : Fence} {m : Nat} {Q : Exit → Act → World → Prop} {hs : List Hn} {id : Nat} {a : Act} {w : World} (hm : P.follows .mixedOrders = true)
  (h : wpAnyIn F m P .any (zIA hs id ops) Q (zIA hs id ops).size (Array.replicate (zIA hs id ops).size false) a { w with drawn := w.drawn + 1 }) : (Code.region id ops true).wpIn F m P Q a w := by
 refine wpIn_region_any hm ?_
 unfold zIA at h
 split at h
 ·rename_i π _
  split at h
  ·rename_i hk
   rw [zDB hk] at h
   exact zPI hk _ _ _ _ _ ⟨by simp,by simp,fun k _ => by rw [getD_replicate_false,getD_replicate_false]⟩ h
  ·exact h
 ·exact h
end
section
variable {B : DB} {P : Program} {w w0 : World} {X : Nat → Prop} {ρ ρ0 : Nat → Loc} {H H' ext : zA} {e : Env} {a : Act} {n n0 : Nat}
variable {ops : Array Oper} {hd : List LO} {xs : Nat → AV}
theorem zD9 {i : Nat} : ∀ {l : List Nat},i ∈ l → l.Nodup → (i :: l.filter (· != i)).Perm l
 | x :: l,hi,hn => by
  obtain ⟨n1,n2⟩ := zzaU.1 hn
  by_cases hx : x = i
  ·subst hx
   have : (x :: l).filter (· != x) = l := by
    rw [zzaj (by simp)]
    exact List.filter_eq_self.2 fun a ha => by simp; intro e; subst e; exact n1 ha
   rw [this]
  ·have hi' : i ∈ l := by rcases zZr.1 hi with h | h; exact absurd h.symm hx; exact h
   rw [zZ0 (by simpa using hx)]
   exact (List.Perm.swap x i _).trans (List.Perm.cons x (zD9 hi' n2))
theorem zLB {r : Option Nat} {m0 : Nat} {hs : List Hn} {reg h p1 p2 : Nat} {post : List LO} {K : Env → zA → Prop} {Q : Exit → Act → World → Prop} (hE : zAg ops = true) (hD : Pr P n hs reg ops hd h p1 p2)
  (hT : ∀ j,h ≤ j → j < p2 → (zAn P n hs reg ops j).g = none ∧ (∀ o,ops[j]? = some o → zAy P n (zAZ hs reg j) ops o = some (zAn P n hs reg ops j)) ∧ (j < p1 → zF7 (zAn P n hs reg ops j).op = true) ∧ (p1 ≤ j → zHJ (zAn P n hs reg ops j).op = true ∧ (zAn P n hs reg ops j).d = none))
  (h1 : h ≤ p1) (h2 : p1 ≤ p2) (h3 : p2 ≤ ops.size) (hlen : hd.length = h) (hget : ∀ k o,k < h → ops[k]? = some o → ∃ imm,zAy P n imm ops o = some (hd.getD k default)) (hpost : zBi P n hs reg ops p2 (ops.toList.drop p2) = some post)
  (hQ : ∀ e' H' a' w',K e' H' → St B X w0 ρ0 n0 n e' H' a' w' → Q .normal a' w') :
  ∀ (fuel k : Nat) (rm : List Nat) (ws : List (Option Nat × AV)) (H : zA) (a : Act) (w : World) (listed : Array Bool),h ≤ k → k ≤ p1 → fuel = left listed ops.size → listed.size = ops.size →
   (∀ j,h ≤ j → j < p1 → listed.getD j true = decide (j < k)) → (∀ j,p1 ≤ j → j < p2 → (listed.getD j true = false ↔ j ∈ rm)) → (∀ j,p2 ≤ j → j < ops.size → listed.getD j true = false) → (∀ j ∈ rm,p1 ≤ j ∧ j < p2) → rm.Nodup → Closed ops listed →
   (∀ σ : List Nat,σ.Perm rm → zAi P ((List.range' k (p1 - k)).map (zAn P n hs reg ops) ++ σ.map (zAn P n hs reg ops) ++ post) (wr ws (ED hd xs e (fun _ => true) h)) H K) →
   (∀ i,i < h → listed.getD i false = false → zCO P (hd.getD i default) (ED hd xs e (fun _ => true) i) H (xs i)) →
   (∀ i,i < h → listed.getD i false = false → ∀ t x,(some t,x) ∈ ws → t ∉ (hd.getD i default).rd ∧ (hd.getD i default).d ≠ some t) →
   St B X w0 ρ0 n0 n (wr ws (ED hd xs e (fun j => listed.getD j false) h)) H a w → wpAnyIn (WR r) m0 P .any ops Q fuel listed a w := by
 have hend : ∀ (fuel : Nat) (ws : List (Option Nat × AV)) (H : zA) (a : Act) (w : World) (listed : Array Bool),fuel = left listed ops.size → listed.size = ops.size →
   (∀ j,h ≤ j → j < p1 → listed.getD j true = decide (j < p1)) → (∀ j,p1 ≤ j → j < p2 → (listed.getD j true = false ↔ j ∈ ([] : List Nat))) → (∀ j,p2 ≤ j → j < ops.size → listed.getD j true = false) → Closed ops listed →
   (∀ σ : List Nat,σ.Perm [] → zAi P ((List.range' p1 (p1 - p1)).map (zAn P n hs reg ops) ++ σ.map (zAn P n hs reg ops) ++ post) (wr ws (ED hd xs e (fun _ => true) h)) H K) →
   (∀ i,i < h → listed.getD i false = false → zCO P (hd.getD i default) (ED hd xs e (fun _ => true) i) H (xs i)) →
   (∀ i,i < h → listed.getD i false = false → ∀ t x,(some t,x) ∈ ws → t ∉ (hd.getD i default).rd ∧ (hd.getD i default).d ≠ some t) →
   St B X w0 ρ0 n0 n (wr ws (ED hd xs e (fun j => listed.getD j false) h)) H a w → wpAnyIn (WR r) m0 P .any ops Q fuel listed a w := by
  intro fuel ws H a w listed hf hsz ht1 ht2 ht3 hc hK hx hw hst
  refine zFX (p1 := p1) (p := p2) hE hD (by omega) h1 (by omega) hlen hget hQ fuel p2 post ws H a w listed (zZa _) h3 hf hsz (fun j hj1 hj2 => ?_) hc hpost (by simpa using hK [] (List.Perm.refl _)) hx hw hst
  by_cases hj : j < p1
  ·rw [ht1 j hj1 hj]; simp; omega
  ·by_cases hj3 : j < p2
   ·cases hb : listed.getD j true with
    | true => simp [hj3]
    | false => have := (ht2 j (by omega) hj3).1 hb; simp at this
   ·rw [ht3 j (by omega) hj2]; simp; omega
 have hopen : ∀ (k : Nat) (rm : List Nat) (listed : Array Bool),h ≤ k → k ≤ p1 → (∀ j,h ≤ j → j < p1 → listed.getD j true = decide (j < k)) → (∀ j,p1 ≤ j → j < p2 → (listed.getD j true = false ↔ j ∈ rm)) → (∀ j ∈ rm,p1 ≤ j ∧ j < p2) → ¬ (k = p1 ∧ rm = []) →
   ∃ q,h ≤ q ∧ q < p2 ∧ listed.getD q true = false ∧ (q < p1 → q = k) := by
  intro k rm listed hk hk1 ht1 ht2 hrm hn
  by_cases hkp : k < p1
  ·exact ⟨k,hk,by omega,by rw [ht1 k hk hkp]; simp,fun _ => rfl⟩
  ·have : rm ≠ [] := fun h0 => hn ⟨by omega,h0⟩
   obtain ⟨q,l,rfl⟩ := List.exists_cons_of_ne_nil this
   have hq := hrm q (by simp)
   exact ⟨q,by omega,hq.2,(ht2 q hq.1 hq.2).2 (by simp),fun hh => by omega⟩
 intro fuel
 induction fuel with
 | zero =>
  intro k rm ws H a w listed hk hk1 hf hsz ht1 ht2 ht3 hrm hnd hc hK hx hw hst
  by_cases hdone : k = p1 ∧ rm = []
  ·obtain ⟨rfl,rfl⟩ := hdone
   exact hend 0 ws H a w listed hf hsz ht1 ht2 ht3 hc hK hx hw hst
  ·obtain ⟨q,g1,g2,g3,_⟩ := hopen k rm listed hk hk1 ht1 ht2 hrm hdone
   have := zCM g3 ops.size (by omega)
   omega
 | succ fuel ih =>
  intro k rm ws H a w listed hk hk1 hf hsz ht1 ht2 ht3 hrm hnd hc hK hx hw hst
  by_cases hdone : k = p1 ∧ rm = []
  ·obtain ⟨rfl,rfl⟩ := hdone
   exact hend (fuel + 1) ws H a w listed hf hsz ht1 ht2 ht3 hc hK hx hw hst
  ·obtain ⟨q,q1,q2,q3,q4⟩ := hopen k rm listed hk hk1 ht1 ht2 hrm hdone
   obtain ⟨i0,hi0,hi0u,hi0l⟩ := zCo ⟨q,(show q < ops.size by omega),q3⟩
   have hr0 : i0 ∈ Region.ready .any ops listed := zB4 hE (by omega) hi0u fun j hj => by rw [zP (by omega)]; exact hi0l j hj
   refine ⟨fun h0 => by rw [h0] at hr0; simp at hr0,fun i hi => ?_⟩
   obtain ⟨hiu,oi,hoi,hiall⟩ := mem_ready.1 hi
   have his : i < ops.size := (zY8.1 hoi).1
   have hidf : listed.getD i false = false := by rw [zP (by omega)]; exact hiu
   have hcf1 : ∀ a b : LO,∀ t,a.d = some t → t ∈ b.rd → zZ a b = true := by
    intro a b t h1 h2
    cases hb : zZ a b with
    | true => rfl
    | false => exact absurd h2 ((zAT hb).1 t h1)
   have hcf2 : ∀ a b : LO,∀ t,b.d = some t → t ∈ a.rd → zZ a b = true := by
    intro a b t h1 h2
    cases hb : zZ a b with
    | true => rfl
    | false => exact absurd h2 ((zAT hb).2.1 t h1)
   have hcf3 : ∀ a b : LO,∀ t,a.d = some t → b.d = some t → zZ a b = true := by
    intro a b t h1 h2
    cases hb : zZ a b with
    | true => rfl
    | false => exact absurd h2 ((zAT hb).2.2 t h1)
   have hcount : fuel = left (listed.setIfInBounds i true) ops.size := by
    have := zCL hiu ops.size
    rw [if_pos his] at this
    omega
   by_cases hih : i < h
   ·
    have hbef : ∀ j,j < i → zZ (hd.getD j default) (hd.getD i default) = true → listed.getD j false = true := by
     intro j hj hcf
     rcases hD j i his hj with g6 | g6 | g6 | g6
     ·exact zJ hc i oi j hoi g6 hiall
     ·rw [g6.2] at hcf; cases hcf
     ·omega
     ·omega
    have hbeh : ∀ j,i < j → j < h → zZ (hd.getD i default) (hd.getD j default) = true → listed.getD j false = false := by
     intro j hj hjh hcf
     rcases hD i j (show j < ops.size by omega) hj with g6 | g6 | g6 | g6
     ·cases hb : listed.getD j false with
      | false => rfl
      | true =>
       obtain ⟨oj,hoj⟩ : ∃ oj,ops[j]? = some oj := ⟨ops[j]'(by omega),by simp [show j < ops.size by omega]⟩
       have := zJ hc j oj i hoj g6 (hc j oj hoj hb)
       rw [hidf] at this
       cases this
     ·rw [g6.2] at hcf; cases hcf
     ·omega
     ·omega
    have hwi := hw i hih hidf
    have hA : ∀ t ∈ (hd.getD i default).rd,ED hd xs e (fun _ => true) i t = wr ws (ED hd xs e (fun j => listed.getD j false) h) t := by
     intro t htr
     rw [zJe ws _ fun x hx => (hwi t x hx).1 htr,zAR (i := i) h (by omega) fun j h1 h2 h3 => by
      by_cases hji : j = i
      ·rw [hji]; exact hidf
      ·exact hbeh j (by omega) h2 (hcf2 _ _ t h3 htr)]
     exact zAa i fun j h1 h2 => (hbef j h1 (hcf1 _ _ t h2 htr)).symm
    have hB0 : ups (ED hd xs e (fun j => listed.getD j false) h) (hd.getD i default).d (xs i) = ED hd xs e (fun j => (listed.setIfInBounds i true).getD j false) h := by
     funext t
     by_cases hdt : (hd.getD i default).d = some t
     ·rw [zAR (i := i + 1) h (by omega) fun j h1 h2 h3 => by
       rw [zO,if_neg (by omega)]
       exact hbeh j (by omega) h2 (hcf3 _ _ t hdt h3)]
      rw [hdt,zAS]
      have hset : (listed.setIfInBounds i true).getD i false = true := by rw [zO,if_pos ⟨rfl,by omega⟩]
      simp only [ED]
      rw [if_pos hset,hdt,zAS]
     ·rw [zBe hdt]
      exact zAa h fun j h1 h2 => by
       rw [zO,if_neg]
       rintro ⟨rfl,_⟩
       exact hdt h2
    have hB : ups (wr ws (ED hd xs e (fun j => listed.getD j false) h)) (hd.getD i default).d (xs i) = wr ws (ED hd xs e (fun j => (listed.setIfInBounds i true).getD j false) h) := by
     rw [zGB ws _ fun t ht x hx => (hwi t x hx).2 ht,hB0]
    have hstep := zA3 hA (hx i hih hidf)
    obtain ⟨imm,hlow⟩ := hget i oi hih hoi
    have hone : zAi P [hd.getD i default] (wr ws (ED hd xs e (fun j => listed.getD j false) h)) H fun e' H' => e' = wr ws (ED hd xs e (fun j => (listed.setIfInBounds i true).getD j false) h) ∧ H' = H := by
     refine zB1 ?_
     rcases hstep with ⟨g1,g2⟩ | ⟨g1,g2⟩
     ·refine .inl ⟨g1,?_⟩
      have := zB2 g2
      simp only [zAi]
      refine zBr this ?_
      rintro y H' ⟨rfl,rfl⟩
      exact ⟨hB,rfl⟩
     ·refine .inr ⟨g1,?_⟩
      rw [← g2]
      exact ⟨hB,rfl⟩
    have hnx := zA4 (r := r) (m0 := m0) hlow hone hst (next := wpAnyIn (WR r) m0 P .any ops Q fuel (listed.setIfInBounds i true)) (Q := Q) fun e'' H'' a'' w'' hK'' hs'' => by
     obtain ⟨rfl,rfl⟩ := hK''
     have hsub : ∀ j,j < h → (listed.setIfInBounds i true).getD j false = false → listed.getD j false = false := fun j hj hl => by
      rw [zO] at hl
      split at hl
      ·cases hl
      ·exact hl
     exact ih k rm ws _ a'' w'' _ hk hk1 hcount (by simpa using hsz) (fun j g1 g2 => by rw [zO,if_neg (by omega)]; exact ht1 j g1 g2) (fun j g1 g2 => by rw [zO,if_neg (by omega)]; exact ht2 j g1 g2) (fun j g1 g2 => by rw [zO,if_neg (by omega)]; exact ht3 j g1 g2) hrm hnd (hc.set hi) hK (fun j hj hl => hx j hj (hsub j hj hl)) (fun j hj hl => hw j hj (hsub j hj hl)) hs''
    unfold wpOpIn
    rw [hoi]
    simp only
    exact hnx
   ·
    have hqf : listed.getD q false = false := by rw [zP (by omega)]; exact q3
    have hip : i < p2 := by
     refine zZo fun hge => ?_
     rcases hD q i his (by omega) with g | g | g | g
     ·have := zJ hc i oi q hoi g hiall
      rw [hqf] at this; cases this
     ·omega
     ·omega
     ·omega
    have hkq : k < p1 → i = k := by
     intro hkp
     have hkf : listed.getD k false = false := by rw [zP (by omega),ht1 k hk hkp]; simp
     have hik : k ≤ i := by
      by_cases hi1 : i < p1
      ·have := ht1 i (by omega) hi1
       rw [hiu] at this
       have := this.symm
       simp at this
       exact this
      ·omega
     refine zZo fun hne => ?_
     rcases hD k i his (by omega) with g | g | g | g
     ·have := zJ hc i oi k hoi g hiall
      rw [hkf] at this; cases this
     ·omega
     ·omega
     ·omega
    obtain ⟨tg,tlow,tf,ti⟩ := hT i (by omega) hip
    have hlow := tlow oi hoi
    generalize hlo : zAn P n hs reg ops i = lo at tg tf ti hlow
    have hfr : ∀ j,j < h → listed.getD j false = false → zAb hs reg i = [] ∧ zDA (hd.getD j default).op = true ∧ zZ (hd.getD j default) lo = false ∧ zRf (hd.getD j default).op lo.op = true := by
     intro j hj hl
     rw [← hlo]
     rcases hD j i his (by omega) with g | g | g | g
     ·have := zJ hc i oi j hoi g hiall
      rw [hl] at this
      cases this
     ·omega
     ·exact g.2.2
     ·omega
    have hdet : det lo.op = true := by
     by_cases hi1 : i < p1
     ·simp [det,tf hi1]
     ·simp [det,(ti (by omega)).1]
    have hR : ∀ t ∈ lo.rd,wr ws (ED hd xs e (fun _ => true) h) t = wr ws (ED hd xs e (fun j => listed.getD j false) h) t := by
     intro t htr
     have : ∀ (l : List (Option Nat × AV)) (e1 e2 : Env),e1 t = e2 t → wr l e1 t = wr l e2 t := by
      intro l
      induction l with
      | nil => intro e1 e2 h; exact h
      | cons p l ihl =>
       intro e1 e2 h
       obtain ⟨d,x⟩ := p
       refine ihl _ _ ?_
       by_cases hdt : d = some t
       ·rw [hdt,zAS,zAS]
       ·rw [zBe hdt,zBe hdt]; exact h
     refine this ws _ _ (zAa h fun j hj hdj => ?_)
     cases hb : listed.getD j false with
     | true => rfl
     | false =>
      have := (zAT (hfr j hj hb).2.2.1).1 t hdj
      exact absurd htr this
    have hares : zAW lo.op (wr ws (ED hd xs e (fun _ => true) h)) H = zAW lo.op (wr ws (ED hd xs e (fun j => listed.getD j false) h)) H := zE8 fun t ht => hR t (by simp [LO.rd,ht])
    have go : ∀ (k' : Nat) (rm' : List Nat),rm'.Nodup → h ≤ k' → k' ≤ p1 → (∀ j,h ≤ j → j < p1 → (listed.setIfInBounds i true).getD j true = decide (j < k')) → (∀ j,p1 ≤ j → j < p2 → ((listed.setIfInBounds i true).getD j true = false ↔ j ∈ rm')) → (∀ j ∈ rm',p1 ≤ j ∧ j < p2) →
      (∀ σ : List Nat,σ.Perm rm' → zAi P (lo :: ((List.range' k' (p1 - k')).map (zAn P n hs reg ops) ++ σ.map (zAn P n hs reg ops) ++ post)) (wr ws (ED hd xs e (fun _ => true) h)) H K) →
      wpOpIn (WR r) m0 P ops Q i (wpAnyIn (WR r) m0 P .any ops Q fuel (listed.setIfInBounds i true)) a w := by
     intro k' rm' hnd' hk' hk1' ht1' ht2' hrm' hK'
     have hK2 : ∀ σ : List Nat,σ.Perm rm' → (zAW lo.op (wr ws (ED hd xs e (fun _ => true) h)) H).ok ∧ zAi P ((List.range' k' (p1 - k')).map (zAn P n hs reg ops) ++ σ.map (zAn P n hs reg ops) ++ post) (ups (wr ws (ED hd xs e (fun _ => true) h)) lo.d (zAW lo.op (wr ws (ED hd xs e (fun _ => true) h)) H).x) (zAW lo.op (wr ws (ED hd xs e (fun _ => true) h)) H).H K := by
      intro σ hσ
      have := hK' σ hσ
      simp only [zAi,tg] at this
      rwa [zJ0 hdet] at this
     have hok := (hK2 rm' (List.Perm.refl _)).1
     have hone : zAi P [lo] (wr ws (ED hd xs e (fun j => listed.getD j false) h)) H fun e' H' => e' = ups (wr ws (ED hd xs e (fun j => listed.getD j false) h)) lo.d (zAW lo.op (wr ws (ED hd xs e (fun _ => true) h)) H).x ∧ H' = (zAW lo.op (wr ws (ED hd xs e (fun _ => true) h)) H).H := by
      simp only [zAi,tg]
      rw [zJ0 hdet,← hares]
      exact ⟨hok,rfl,rfl⟩
     have hnx := zA4 (r := r) (m0 := m0) hlow hone hst (next := wpAnyIn (WR r) m0 P .any ops Q fuel (listed.setIfInBounds i true)) (Q := Q) fun e'' H'' a'' w'' hK'' hs'' => by
      obtain ⟨rfl,rfl⟩ := hK''
      have hsame : ∀ j,j < h → (listed.setIfInBounds i true).getD j false = listed.getD j false := fun j hj => by rw [zO,if_neg (by omega)]
      have hED : ED hd xs e (fun j => (listed.setIfInBounds i true).getD j false) h = ED hd xs e (fun j => listed.getD j false) h := by
       funext t
       exact zAa h fun j hj _ => hsame j hj
      refine ih k' rm' (ws ++ [(lo.d,(zAW lo.op (wr ws (ED hd xs e (fun _ => true) h)) H).x)]) _ a'' w'' _ hk' hk1' hcount (by simpa using hsz) ht1' ht2' (fun j g1 g2 => by rw [zO,if_neg (by omega)]; exact ht3 j g1 g2) hrm' hnd' (hc.set hi) (fun σ hσ => by rw [zCu]; exact (hK2 σ hσ).2) (fun j hj hl => ?_) (fun j hj hl t y hy => ?_) (by rw [zCu,hED]; exact hs'')
      ·rw [hsame j hj] at hl
       exact zG8 (hfr j hj hl).2.1 (hfr j hj hl).2.2.2 (fun _ => rfl) hok (hx j hj hl)
      ·rw [hsame j hj] at hl
       rcases zZv.1 hy with hy | hy
       ·exact hw j hj hl t y hy
       ·simp only [zZ5,zZi] at hy
        have hcf := zAT (hfr j hj hl).2.2.1
        exact ⟨hcf.2.1 t hy.1.symm,fun hdj => hcf.2.2 t hdj hy.1.symm⟩
     unfold wpOpIn
     rw [hoi]
     simp only
     exact hnx
    by_cases hi1 : i < p1
    ·have hkp : k < p1 := by
      refine zZo fun hge => ?_
      have := ht1 i (by omega) hi1
      rw [hiu] at this
      have := this.symm
      simp at this
      omega
     obtain rfl := hkq hkp
     refine go (i + 1) rm hnd (by omega) (by omega) (fun j g1 g2 => ?_) (fun j g1 g2 => by rw [zO,if_neg (by omega)]; exact ht2 j g1 g2) hrm fun σ hσ => ?_
     ·rw [zO]
      by_cases hji : j = i
      ·rw [if_pos ⟨hji,by omega⟩]; simp; omega
      ·rw [if_neg fun hh => hji hh.1,ht1 j g1 g2]
       have : (j < i) = (j < i + 1) := by simp; omega
       simp only [this]
     ·have := hK σ hσ
      rw [show p1 - i = (p1 - (i + 1)) + 1 by omega,zzaw,zZG,hlo] at this
      simpa using this
    ·have hkp : k = p1 := by
      refine zZo fun hne => ?_
      have := hkq (by omega)
      omega
     subst hkp
     have him : i ∈ rm := (ht2 i (by omega) hip).1 hiu
     refine go k (rm.filter (· != i)) (hnd.filter _) hk (zZa _) (fun j g1 g2 => by rw [zO,if_neg (by omega)]; exact ht1 j g1 g2) (fun j g1 g2 => ?_) (fun j hj => hrm j (zzah.1 hj).1) fun σ hσ => ?_
     ·rw [zO,zzah]
      by_cases hji : j = i
      ·rw [if_pos ⟨hji,by omega⟩]; simp [hji]
      ·rw [if_neg fun hh => hji hh.1,ht2 j g1 g2]; simp [hji]
     ·have hp : (i :: σ).Perm rm := by
       refine ((List.Perm.cons i hσ).trans ?_)
       exact zD9 him (hnd)
      have := hK (i :: σ) hp
      rw [zZG,hlo] at this
      simpa using this
theorem zJX {r : Option Nat} {m0 : Nat} {hs : List Hn} {id h p1 p2 : Nat} {post : List LO} {K : Env → zA → Prop} {Q : Exit → Act → World → Prop} (hhd : zGx P n hs id ops 0 (ops.toList.take h) = some hd) (hpost : zBi P n hs id ops p2 (ops.toList.drop p2) = some post)
  (hD : zHQ P n hs id ops hd h p1 p2 = true) (hE : zAg ops = true) (q1 : h ≤ p1) (q2 : p1 ≤ p2) (q3 : p2 ≤ ops.size)
  (hK : zAF P hd e H fun e' => ∀ σ : List LO,σ.Perm ((List.range' p1 (p2 - p1)).map (zAn P n hs id ops)) → zAi P ((List.range' h (p1 - h)).map (zAn P n hs id ops) ++ σ ++ post) e' H K) (hst : St B X w0 ρ0 n0 n e H a w)
  (hQ : ∀ e' H' a' w',K e' H' → St B X w0 ρ0 n0 n e' H' a' w' → Q .normal a' w') : wpAnyIn (WR r) m0 P .any ops Q ops.size (Array.replicate ops.size false) a { w with drawn := w.drawn + 1 } := by
 obtain ⟨g1,g2⟩ := zEA _ _ _ hhd
 have hlen : hd.length = h := by rw [g1]; simp; omega
 obtain ⟨xs,g3,g4⟩ := zBD hd hK
 rw [hlen] at g3 g4
 obtain ⟨d1,d2⟩ := zL6 hD
 have h0 : ∀ j,(Array.replicate ops.size false).getD j false = false := fun j => getD_replicate_false _ _
 have h1 : ∀ j,j < ops.size → (Array.replicate ops.size false).getD j true = false := fun j hj => by rw [← zP (by simpa using hj)]; exact h0 j
 refine zLB hE d1 d2 q1 q2 q3 hlen (fun k o hk ho => g2 k o ?_) hpost hQ ops.size h (List.range' p1 (p2 - p1)) [] H a _ _ (zZa _) q1 ?_ (by simp) (fun j h2 hj => ?_) (fun j h2 hj => ?_) (fun j h2 hj => h1 j hj) (fun j hj => ?_) List.nodup_range' ?_ (fun σ hσ => g3 _ (hσ.map _)) (fun i hi _ => g4 i hi) (fun i _ _ t x hx => by simp at hx) ?_
 ·rw [zZP,if_pos hk]; simpa using ho
 ·have := zBt (listed := Array.replicate ops.size false) (h := 0) ops.size fun j hj => by rw [h1 j hj]; simp
  omega
 ·rw [h1 j (by omega)]; simp; omega
 ·rw [h1 j (by omega)]; simp [zzbt]; exact ⟨j - p1,by omega,by omega⟩
 ·obtain ⟨i,hi,rfl⟩ := zzbt.1 hj; omega
 ·intro j oj hj hl
  rw [h0 j] at hl
  cases hl
 ·have : ED hd xs e (fun j => (Array.replicate ops.size false).getD j false) h = e := by
   funext t
   rw [zAR (i := 0) h (zZm _) fun j _ _ _ => h0 j]
   rfl
  show St B X w0 ρ0 n0 n (ED hd xs e (fun j => (Array.replicate ops.size false).getD j false) h) H a _
  rw [this]
  exact hst.still ⟨rfl,rfl,rfl,zZa _⟩ rfl
end
section
variable {B : DB} {P : Program} {w w0 : World} {X : Nat → Prop} {ρ ρ0 : Nat → Loc} {H H' ext : zA} {e e1 : Env} {a : Act} {n n0 : Nat}
variable {ops : Array Oper} {hd : List LO} {xs : Nat → AV} {T : List Nat} {hs : List Hn} {reg : Nat}
theorem zHM {i : Nat} (hi : i < ops.size) : (hdA P n hs reg ops T).getD i default = if T.contains i then zFj else zAn P n hs reg ops i := by
 simp [hdA,zZd,hi]
theorem zKj {q i : Nat} (h : q ≤ i) (hn : ∀ j,q ≤ j → j < i → T.contains j = false) : tlA P n hs reg ops T q = tlA P n hs reg ops T i := by
 induction i with
 | zero => rw [show q = 0 by omega]
 | succ i ih =>
  by_cases hq : q = i + 1
  ·rw [hq]
  ·rw [ih (by omega) fun j a b => hn j a (by omega)]
   unfold tlA
   by_cases hi : i < ops.size
   ·rw [show ops.size - i = (ops.size - (i + 1)) + 1 by omega,zzaw,zzaj (by rw [hn i (by omega) (by omega)]; simp)]
   ·rw [show ops.size - i = 0 by omega,show ops.size - (i + 1) = 0 by omega]
    simp
theorem zPh {i : Nat} (hi : i < ops.size) (hT : T.contains i = true) : tlA P n hs reg ops T i = prA P n hs reg ops T i :: tlA P n hs reg ops T (i + 1) := by
 unfold tlA
 rw [show ops.size - i = (ops.size - (i + 1)) + 1 by omega,zzaw,zZ0 hT,zZG]
theorem zCs {x : LO} : zZ zFj x = false ∧ zZ x zFj = false := by
 cases hx : x.d <;> simp [zZ,zFj,zTN,LO.rd,LOp.rd,LX.rd,hx]
structure OkA (P : Program) (n : Nat) (hs : List Hn) (reg : Nat) (ops : Array Oper) (T : List Nat) (hd : List LO) : Prop where
 low : ∀ i o,ops[i]? = some o → ∃ imm,zAy P n imm ops o = some (zAn P n hs reg ops i)
 hh : ∀ i j,j < ops.size → i < j → T.contains i = false → T.contains j = false → ((Region.before ops).getD j 0).testBit i = true ∨ zZ (hd.getD i default) (hd.getD j default) = false
 tt : ∀ i j,j < ops.size → i < j → T.contains i = true → T.contains j = true → ((Region.before ops).getD j 0).testBit i = true
 ht : ∀ i j,j < ops.size → i < ops.size → T.contains i = false → T.contains j = true → ((Region.before ops).getD j 0).testBit i = true ∨ zZ (hd.getD i default) (zAn P n hs reg ops j) = false
 sa : ∀ j,j < ops.size → T.contains j = false → zBc (hd.getD j default).op = true ∨ zTn hd j = true
theorem zG3 (h : zCT P n hs reg ops T = true) : OkA P n hs reg ops T (hdA P n hs reg ops T) := by
 unfold zCT at h
 simp only [zYX] at h
 obtain ⟨⟨h1,h2⟩,h3⟩ := h
 have g : ∀ i j,j < ops.size → i < j → _ := fun i j hj hi => zZb.1 (zZb.1 h2 j (zZE.2 hj)) i (zZE.2 hi)
 refine ⟨fun i o ho => ?_,fun i j hj hi a b => ?_,fun i j hj hi a b => ?_,fun i j hj hi a b => ?_,fun j hj a => ?_⟩
 ·have hi := (zY8.1 ho).1
  have := zZb.1 h1 i (zZE.2 hi)
  rw [ho] at this
  simp only [zZt,zzax,zYT,zYX] at this
  refine ⟨zAZ hs reg i,?_⟩
  unfold zAn
  rw [ho]
  simp only
  cases hl : zAy P n (zAZ hs reg i) ops o with
  | none => rw [hl] at this; simp at this
  | some lo => rfl
 ·have := g i j hj hi
  rw [a,b] at this
  simpa using this
 ·have := g i j hj hi
  rw [a,b] at this
  simpa using this
 ·rcases zzbj i j with hij | hij | hij
  ·have := g i j hj hij
   rw [a,b] at this
   simpa using this
  ·subst hij; rw [a] at b; cases b
  ·have := g j i hi hij
   rw [a,b] at this
   exact .inr (by simpa using this)
 ·have := zZb.1 h3 j (zZE.2 hj)
  rw [a] at this
  simpa using this
theorem zMA {j : Nat} (h : zTn hd j = true) (hj : j < hd.length) : (∀ t ∈ (hd.getD j default).rd,ED hd xs e (fun _ => true) hd.length t = ED hd xs e (fun _ => true) j t) ∧ ∃ t,(hd.getD j default).d = some t ∧ ED hd xs e (fun _ => true) hd.length t = xs j := by
 unfold zTn at h
 simp only [zYX,zZb,zZE,zZM,zY5,zZL,Bool.and_eq_false_iff] at h
 obtain ⟨h1,h2⟩ := h
 obtain ⟨t,ht⟩ := Option.isSome_iff_exists.1 h1
 have nw : ∀ k,j ≤ k → k < hd.length → ∀ u ∈ (hd.getD j default).rd,(hd.getD k default).d ≠ some u := by
  intro k hk hkl u hu hd'
  rcases h2 k hkl with g | g
  ·omega
  ·have := zFY (by rw [← hd']; exact g.1)
   exact this hu
 refine ⟨fun u hu => ?_,t,ht,?_⟩
 ·exact zAR (i := j) hd.length (by omega) fun k a b c => absurd c (nw k a b u hu)
 ·rw [zAR (i := j + 1) hd.length (by omega) fun k a b c => ?_]
  ·simp only [ED,if_true]
   rw [ht,zAS]
  ·rcases h2 k b with g | g
   ·omega
   ·rcases g.2 with g2 | g2
    ·omega
    ·rw [c,ht] at g2
     simp at g2
theorem zOI {r : Option Nat} {m0 : Nat} {K : Env → zA → Prop} {Q : Exit → Act → World → Prop} (hE : zAg ops = true) (hD : OkA P n hs reg ops T hd) (hlen : hd.length = ops.size) (hhd : hd = hdA P n hs reg ops T)
  (he1 : e1 = ED hd xs e (fun _ => true) ops.size)
  (hQ : ∀ e' H' a' w',K e' H' → St B X w0 ρ0 n0 n e' H' a' w' → Q .normal a' w') :
  ∀ (fuel q : Nat) (ws : List (Option Nat × AV)) (H : zA) (a : Act) (w : World) (listed : Array Bool),q ≤ ops.size → fuel = left listed ops.size → listed.size = ops.size →
   (∀ j,j < ops.size → T.contains j = true → listed.getD j true = decide (j < q)) → Closed ops listed → zDa P hd e1 (tlA P n hs reg ops T q) (wr ws e1) H K →
   (∀ i,i < ops.size → T.contains i = false → listed.getD i false = false → zCO P (hd.getD i default) (ED hd xs e (fun _ => true) i) H (xs i)) →
   (∀ i,i < ops.size → T.contains i = false → listed.getD i false = false → ∀ t x,(some t,x) ∈ ws → t ∉ (hd.getD i default).rd ∧ (hd.getD i default).d ≠ some t) →
   St B X w0 ρ0 n0 n (wr ws (ED hd xs e (fun j => listed.getD j false) ops.size)) H a w → wpAnyIn (WR r) m0 P .any ops Q fuel listed a w := by
 have hcf1 : ∀ a b : LO,∀ t,a.d = some t → t ∈ b.rd → zZ a b = true := by
  intro a b t h1 h2
  cases hb : zZ a b with
  | true => rfl
  | false => exact absurd h2 ((zAT hb).1 t h1)
 have hcf2 : ∀ a b : LO,∀ t,b.d = some t → t ∈ a.rd → zZ a b = true := by
  intro a b t h1 h2
  cases hb : zZ a b with
  | true => rfl
  | false => exact absurd h2 ((zAT hb).2.1 t h1)
 have hcf3 : ∀ a b : LO,∀ t,a.d = some t → b.d = some t → zZ a b = true := by
  intro a b t h1 h2
  cases hb : zZ a b with
  | true => rfl
  | false => exact absurd h2 ((zAT hb).2.2 t h1)
 have hnoop : ∀ j,j < ops.size → T.contains j = true → hd.getD j default = zFj := by
  intro j hj hT
  rw [hhd,zHM hj,if_pos hT]
 intro fuel
 induction fuel with
 | zero =>
  intro q ws H a w listed hq hf hsz ht hc hK hx hw hst
  have hall : ∀ j,j < ops.size → listed.getD j true = true := by
   intro j hj
   cases hb : listed.getD j true with
   | true => rfl
   | false => have := zCM hb ops.size hj; omega
  have hE' : ED hd xs e (fun j => listed.getD j false) ops.size = e1 := by
   rw [he1]
   funext t
   exact zAa ops.size fun j hj _ => by rw [zP (by omega),hall j (by omega)]
  rw [hE'] at hst
  have hnil : tlA P n hs reg ops T q = [] := by
   rw [zKj hq fun j a b => ?_]
   ·unfold tlA
    rw [zzbc]; rfl
   ·cases hT : T.contains j with
    | false => rfl
    | true =>
     have := ht j b hT
     rw [hall j b] at this
     simp at this
     omega
  rw [hnil] at hK
  refine ⟨zZS.2 fun i hi => ?_,hQ _ _ _ _ hK hst⟩
  obtain ⟨h1,o,h2,_⟩ := mem_ready.1 hi
  rw [hall i (zY8.1 h2).1] at h1
  cases h1
 | succ fuel ih =>
  intro q ws H a w listed hq hf hsz ht hc hK hx hw hst
  have hun : ∃ i,i < ops.size ∧ listed.getD i true = false := by
   refine zZo fun hno => ?_
   have := zBt (listed := listed) (h := ops.size) ops.size fun j hj => by
    cases hb : listed.getD j true with
    | true => simp [hj]
    | false => exact absurd ⟨j,hj,hb⟩ hno
   omega
  obtain ⟨i0,hi0,hi0u,hi0l⟩ := zCo hun
  have hr0 : i0 ∈ Region.ready .any ops listed := zB4 hE (by omega) hi0u fun j hj => by rw [zP (by omega)]; exact hi0l j hj
  refine ⟨fun h0 => by rw [h0] at hr0; simp at hr0,fun i hi => ?_⟩
  obtain ⟨hiu,oi,hoi,hiall⟩ := mem_ready.1 hi
  have his : i < ops.size := (zY8.1 hoi).1
  have hidf : listed.getD i false = false := by rw [zP (by omega)]; exact hiu
  have hcount : fuel = left (listed.setIfInBounds i true) ops.size := by
   have := zCL hiu ops.size
   rw [if_pos his] at this
   omega
  obtain ⟨imm,hlow⟩ := hD.low i oi hoi
  by_cases hih : T.contains i = false
  ·
   have hgi : hd.getD i default = zAn P n hs reg ops i := by rw [hhd,zHM his,if_neg (by rw [hih]; simp)]
   rw [← hgi] at hlow
   have hbef : ∀ j,j < i → zZ (hd.getD j default) (hd.getD i default) = true → listed.getD j false = true := by
    intro j hj hcf
    cases hT : T.contains j with
    | true => rw [hnoop j (by omega) hT,zCs.1] at hcf; cases hcf
    | false =>
     rcases hD.hh j i his hj hT hih with g6 | g6
     ·exact zJ hc i oi j hoi g6 hiall
     ·rw [g6] at hcf; cases hcf
   have hbeh : ∀ j,i < j → j < ops.size → zZ (hd.getD i default) (hd.getD j default) = true → listed.getD j false = false := by
    intro j hj hjh hcf
    cases hT : T.contains j with
    | true => rw [hnoop j hjh hT,zCs.2] at hcf; cases hcf
    | false =>
     rcases hD.hh i j hjh hj hih hT with g6 | g6
     ·cases hb : listed.getD j false with
      | false => rfl
      | true =>
       obtain ⟨oj,hoj⟩ : ∃ oj,ops[j]? = some oj := ⟨ops[j]'(by omega),by simp [show j < ops.size by omega]⟩
       have := zJ hc j oj i hoj g6 (hc j oj hoj hb)
       rw [hidf] at this
       cases this
     ·rw [g6] at hcf; cases hcf
   have hwi := hw i his hih hidf
   have hA : ∀ t ∈ (hd.getD i default).rd,ED hd xs e (fun _ => true) i t = wr ws (ED hd xs e (fun j => listed.getD j false) ops.size) t := by
    intro t htr
    rw [zJe ws _ fun x hx => (hwi t x hx).1 htr,zAR (i := i) ops.size (by omega) fun j h1 h2 h3 => by
     by_cases hji : j = i
     ·rw [hji]; exact hidf
     ·exact hbeh j (by omega) h2 (hcf2 _ _ t h3 htr)]
    exact zAa i fun j h1 h2 => (hbef j h1 (hcf1 _ _ t h2 htr)).symm
   have hB0 : ups (ED hd xs e (fun j => listed.getD j false) ops.size) (hd.getD i default).d (xs i) = ED hd xs e (fun j => (listed.setIfInBounds i true).getD j false) ops.size := by
    funext t
    by_cases hdt : (hd.getD i default).d = some t
    ·rw [zAR (i := i + 1) ops.size (by omega) fun j h1 h2 h3 => by
      rw [zO,if_neg (by omega)]
      exact hbeh j (by omega) h2 (hcf3 _ _ t hdt h3)]
     rw [hdt,zAS]
     have hset : (listed.setIfInBounds i true).getD i false = true := by rw [zO,if_pos ⟨rfl,by omega⟩]
     simp only [ED]
     rw [if_pos hset,hdt,zAS]
    ·rw [zBe hdt]
     exact zAa ops.size fun j h1 h2 => by
      rw [zO,if_neg]
      rintro ⟨rfl,_⟩
      exact hdt h2
   have hB : ups (wr ws (ED hd xs e (fun j => listed.getD j false) ops.size)) (hd.getD i default).d (xs i) = wr ws (ED hd xs e (fun j => (listed.setIfInBounds i true).getD j false) ops.size) := by
    rw [zGB ws _ fun t ht x hx => (hwi t x hx).2 ht,hB0]
   have hstep := zA3 hA (hx i his hih hidf)
   have hone : zAi P [hd.getD i default] (wr ws (ED hd xs e (fun j => listed.getD j false) ops.size)) H fun e' H' => e' = wr ws (ED hd xs e (fun j => (listed.setIfInBounds i true).getD j false) ops.size) ∧ H' = H := by
    refine zB1 ?_
    rcases hstep with ⟨g1,g2⟩ | ⟨g1,g2⟩
    ·refine .inl ⟨g1,?_⟩
     have := zB2 g2
     simp only [zAi]
     refine zBr this ?_
     rintro y H' ⟨rfl,rfl⟩
     exact ⟨hB,rfl⟩
    ·refine .inr ⟨g1,?_⟩
     rw [← g2]
     exact ⟨hB,rfl⟩
   have hnx := zA4 (r := r) (m0 := m0) hlow hone hst (next := wpAnyIn (WR r) m0 P .any ops Q fuel (listed.setIfInBounds i true)) (Q := Q) fun e'' H'' a'' w'' hK'' hs'' => by
    obtain ⟨rfl,rfl⟩ := hK''
    have hsub : ∀ j,(listed.setIfInBounds i true).getD j false = false → listed.getD j false = false := fun j hl => by
     rw [zO] at hl
     split at hl
     ·cases hl
     ·exact hl
    refine ih q ws _ a'' w'' _ hq hcount (by simpa using hsz) (fun j h1 h2 => ?_) (hc.set hi) hK (fun j hj hT hl => hx j hj hT (hsub j hl)) (fun j hj hT hl => hw j hj hT (hsub j hl)) hs''
    rw [zO,if_neg]
    ·exact ht j h1 h2
    ·rintro ⟨rfl,_⟩
     rw [hih] at h2; cases h2
   unfold wpOpIn
   rw [hoi]
   simp only
   exact hnx
  ·
   have hiT : T.contains i = true := by simpa using hih
   have hqi : q ≤ i := by
    have g1 := ht i his hiT
    rw [hiu] at g1
    simpa using g1.symm
   have hno : ∀ j,q ≤ j → j < i → T.contains j = false := by
    intro j h1 h2
    cases hT : T.contains j with
    | false => rfl
    | true =>
     have g1 := zJ hc i oi j hoi (hD.tt j i his h2 hT hiT) hiall
     rw [zP (by omega),ht j (by omega) hT] at g1
     simp at g1
     omega
   rw [zKj hqi hno,zPh his hiT] at hK
   generalize hlo : zAn P n hs reg ops i = lo at hlow
   have hpr : prA P n hs reg ops T i = (lo,zCc hd T ((Region.before ops).getD i 0)) := by unfold prA; rw [hlo,hhd]
   rw [hpr] at hK
   have hK : zAi P [lo] (wr ws e1) H fun e' H' => zC2 P hd e1 H' (zCc hd T ((Region.before ops).getD i 0)) ∧ zDa P hd e1 (tlA P n hs reg ops T (i + 1)) e' H' K := hK
   have hfr : ∀ j,j < ops.size → T.contains j = false → listed.getD j false = false → ((Region.before ops).getD i 0).testBit j = false ∧ zZ (hd.getD j default) lo = false := by
    intro j hj hT hl
    have hnb : ((Region.before ops).getD i 0).testBit j = false := by
     cases hb : ((Region.before ops).getD i 0).testBit j with
     | false => rfl
     | true =>
      have := zJ hc i oi j hoi hb hiall
      rw [hl] at this
      cases this
    refine ⟨hnb,?_⟩
    rcases hD.ht j i his hj hT hiT with g | g
    ·rw [hnb] at g; cases g
    ·rw [← hlo]; exact g
   have hR : ∀ t ∈ lo.rd,wr ws e1 t = wr ws (ED hd xs e (fun j => listed.getD j false) ops.size) t := by
    intro t htr
    have : ∀ (l : List (Option Nat × AV)) (e1 e2 : Env),e1 t = e2 t → wr l e1 t = wr l e2 t := by
     intro l
     induction l with
     | nil => intro e1 e2 h; exact h
     | cons p l ihl =>
      intro e1 e2 h
      obtain ⟨d,x⟩ := p
      refine ihl _ _ ?_
      by_cases hdt : d = some t
      ·rw [hdt,zAS,zAS]
      ·rw [zBe hdt,zBe hdt]; exact h
    refine this ws _ _ ?_
    rw [he1]
    refine zAa ops.size fun j hj hdj => ?_
    cases hb : listed.getD j false with
    | true => rfl
    | false =>
     cases hT : T.contains j with
     | true =>
      rw [hnoop j hj hT] at hdj
      cases hdj
     | false =>
      have := (zAT (hfr j hj hT hb).2).1 t hdj
      exact absurd htr this
   have hwant : zBd lo.g (wr ws e1) = zBd lo.g (wr ws (ED hd xs e (fun j => listed.getD j false) ops.size)) := zBT fun t want hg => hR t (by simp [LO.rd,hg])
   have hone : zAi P [lo] (wr ws (ED hd xs e (fun j => listed.getD j false) ops.size)) H fun e' H2 => ∃ x,e' = ups (wr ws (ED hd xs e (fun j => listed.getD j false) ops.size)) lo.d x ∧ zC2 P hd e1 H2 (zCc hd T ((Region.before ops).getD i 0)) ∧ zDa P hd e1 (tlA P n hs reg ops T (i + 1)) (ups (wr ws e1) lo.d x) H2 K := by
    refine zB1 ?_
    rcases zCg hK with ⟨g1,g2⟩ | ⟨g1,g2⟩
    ·refine .inl ⟨by rw [← hwant]; exact g1,?_⟩
     have g3 := zDR (fun t ht => hR t (by simp [LO.rd,ht])) g2
     refine zBr g3 fun x H2 hx2 => ?_
     simp only [zAi] at hx2 ⊢
     exact ⟨x,rfl,hx2.1,hx2.2⟩
    ·refine .inr ⟨by rw [← hwant]; exact g1,?_⟩
     simp only [zAi] at g2 ⊢
     exact ⟨zAk,rfl,g2.1,g2.2⟩
   have hnx := zA4 (r := r) (m0 := m0) hlow hone hst (next := wpAnyIn (WR r) m0 P .any ops Q fuel (listed.setIfInBounds i true)) (Q := Q) fun e'' H'' a'' w'' hK'' hs'' => by
    obtain ⟨x,rfl,hkp,hK2⟩ := hK''
    have hsame : ∀ j,j ≠ i → (listed.setIfInBounds i true).getD j false = listed.getD j false := fun j hj => by rw [zO,if_neg (by omega)]
    have hED : ED hd xs e (fun j => (listed.setIfInBounds i true).getD j false) ops.size = ED hd xs e (fun j => listed.getD j false) ops.size := by
     funext t
     refine zAa ops.size fun j hj hdj => hsame j ?_
     rintro rfl
     rw [hnoop j hj hiT] at hdj
     cases hdj
    have hne : ∀ j,T.contains j = false → j ≠ i := by
     rintro j hT rfl
     rw [hiT] at hT; cases hT
    refine ih (i + 1) (ws ++ [(lo.d,x)]) H'' a'' w'' _ (by omega) hcount (by simpa using hsz) (fun j hj1 hj2 => ?_) (hc.set hi) (by rw [zCu]; exact hK2) (fun j hj hT hl => ?_) (fun j hj hT hl t y hy => ?_) (by rw [zCu,hED]; exact hs'')
    ·rw [zO]
     by_cases hji : j = i
     ·rw [if_pos ⟨hji,by omega⟩]; simp; omega
     ·rw [if_neg fun hh => hji hh.1,ht j hj1 hj2]
      by_cases hjq : j < q
      ·simp [hjq]; omega
      ·simp [hjq]
       have : ¬ j < i := fun hlt => by rw [hno j (by omega) hlt] at hj2; cases hj2
       omega
    ·rw [hsame j (hne j hT)] at hl
     have hold := hx j hj hT hl
     rcases hD.sa j hj hT with g | g
     ·exact zCG g hold
     ·by_cases hhl : zBc (hd.getD j default).op = true
      ·exact zCG hhl hold
      ·have hmem : j ∈ zCc hd T ((Region.before ops).getD i 0) := by
        unfold zCc
        simp only [zzah,zZE,zYX,zZL]
        exact ⟨by omega,⟨hT,by simpa using hhl⟩,(hfr j hj hT hl).1⟩
       obtain ⟨y,hy1,hy2⟩ := zC9 (hkp j hmem)
       obtain ⟨s1,t,s2,s3⟩ := zMA (xs := xs) (e := e) g (by omega)
       rw [hlen,← he1] at s1 s3
       have hy2 : ups e1 (hd.getD j default).d y = e1 := hy2
       have hyx : y = xs j := by
        have := congrFun hy2 t
        rw [s2,zAS] at this
        rw [this,s3]
       rw [hyx] at hy1
       exact zA3 s1 hy1
    ·rw [hsame j (hne j hT)] at hl
     rcases zZv.1 hy with hy | hy
     ·exact hw j hj hT hl t y hy
     ·simp only [zZ5,zZi] at hy
      have hcf := zAT (hfr j hj hT hl).2
      exact ⟨hcf.2.1 t hy.1.symm,fun hdj => hcf.2.2 t hdj hy.1.symm⟩
   unfold wpOpIn
   rw [hoi]
   simp only
   exact hnx
theorem zGd {r : Option Nat} {m0 : Nat} {K : Env → zA → Prop} {Q : Exit → Act → World → Prop} (hD : zCT P n hs reg ops T = true) (hE : zAg ops = true) (hg : zC5 n (zAb hs reg ops.size) = true)
  (hK : zAF P (hdA P n hs reg ops T) e H fun e1 => zDa P (hdA P n hs reg ops T) e1 (tlA P n hs reg ops T 0) e1 H fun e' H' => zAi P (zAb hs reg ops.size) e' H' K) (hst : St B X w0 ρ0 n0 n e H a w)
  (hQ : ∀ e' H' a' w',K e' H' → St B X w0 ρ0 n0 n e' H' a' w' → Q .normal a' w') : wpAnyIn (WR r) m0 P .any ops Q ops.size (Array.replicate ops.size false) a { w with drawn := w.drawn + 1 } := by
 have hlen : (hdA P n hs reg ops T).length = ops.size := by simp [hdA]
 obtain ⟨xs,g3,g4⟩ := zBD _ hK
 rw [hlen] at g3 g4
 have h0 : ∀ j,(Array.replicate ops.size false).getD j false = false := fun j => getD_replicate_false _ _
 have h1 : ∀ j,j < ops.size → (Array.replicate ops.size false).getD j true = false := fun j hj => by rw [← zP (by simpa using hj)]; exact h0 j
 refine zOI (B := B) (X := X) (w0 := w0) (ρ0 := ρ0) (n0 := n0) hE (zG3 hD) hlen rfl rfl (K := fun e' H' => zAi P (zAb hs reg ops.size) e' H' K) (fun e' H' a' w' hk hs' => ?_) ops.size 0 [] H a _ _ (zZm _) ?_ (by simp) (fun j hj _ => by rw [h1 j hj]; simp) (fun j oj hj hl => ?_) g3 (fun i hi _ _ => g4 i hi) (fun i _ _ _ t x hx => by simp at hx) ?_
 ·obtain ⟨e2,H2,k1,k2⟩ := zAf (zAb hs reg ops.size) (los := []) hg (by simpa using hk) hs'
  exact hQ _ _ _ _ k1 k2
 ·have := zBt (listed := Array.replicate ops.size false) (h := 0) ops.size fun j hj => by rw [h1 j hj]; simp
  omega
 ·rw [h0 j] at hl
  cases hl
 ·have : ED (hdA P n hs reg ops T) xs e (fun j => (Array.replicate ops.size false).getD j false) ops.size = e := by
   funext t
   rw [zAR (i := 0) ops.size (zZm _) fun j _ _ _ => h0 j]
   rfl
  show St B X w0 ρ0 n0 n (ED _ xs e (fun j => (Array.replicate ops.size false).getD j false) ops.size) H a _
  rw [this]
  exact hst.still ⟨rfl,rfl,rfl,zZa _⟩ rfl
end
section
variable {B : DB} {P : Program} {w w0 : World} {X : Nat → Prop} {ρ ρ0 : Nat → Loc} {H H' ext : zA} {e e1 em : Env} {a : Act} {n n0 : Nat}
variable {ops : Array Oper} {hd : List LO} {xs : Nat → AV} {T : List Nat} {hs : List Hn} {reg : Nat}
theorem zGp {f : AV} {args : List AV} {K K' : AV → zA → Prop} {Z Z' : Value → zA → Prop} (h : zEc P f args H K Z) (hK : ∀ x H',K x H' → K' x H') (hZ : ∀ v H',Z v H' → Z' v H') : zEc P f args H K' Z' := by
 unfold zEc at h ⊢
 split at h
 ·exact ACallX.mono h hK hZ
 ·exact h.elim
theorem zDS {g : Option (Nat × Bool)} {A A' C C' : Prop} (h : zGr g e A C) (hA : A → A') (hC : C → C') : zGr g e A' C' := by
 unfold zGr at h ⊢
 split at h
 ·exact hA h
 ·split at h
  ·split at h
   ·rename_i hb; rw [if_pos hb]; exact hA h
   ·rename_i hb; rw [if_neg hb]; exact hC h
  ·exact hC h
  ·exact h.elim
theorem zFJ {g : Option (Nat × Bool)} {e e' : Env} {A C : Prop} (hg : ∀ t want,g = some (t,want) → e t = e' t) (h : zGr g e A C) : zGr g e' A C := by
 unfold zGr at h ⊢
 cases g with
 | none => exact h
 | some p => obtain ⟨t,want⟩ := p; simp only at h ⊢; rw [← hg t want rfl]; exact h
theorem zOL {c : Bool} {lo : LO} {e e' : Env} {G : Env → zA → Prop} {Z : Value → zA → Prop} (hR : ∀ t ∈ lo.rd,e t = e' t) (h : aTI P c lo e H G Z) :
  aTI P c lo e' H (fun e2 H2 => ∃ x,e2 = ups e' lo.d x ∧ G (ups e lo.d x) H2) Z := by
 have hgd : ∀ t want,lo.g = some (t,want) → e t = e' t := fun t want hg => hR t (by simp [LO.rd,hg])
 unfold aTI at h ⊢
 split at h
 ·rename_i f args hop
  rw [← zY fun t ht => hR t (by simp [LO.rd,hop,LOp.rd,ht]),← zCz fun t ht => hR t (by simp [LO.rd,hop,LOp.rd,ht])]
  exact zFJ hgd (zDS h (fun h => zGp h (fun x H' hx => ⟨x,rfl,hx⟩) fun _ _ hz => hz) fun h => ⟨zAk,rfl,h⟩)
 ·rename_i x hop
  rw [← zY fun t ht => hR t (by simp [LO.rd,hop,LOp.rd,ht])]
  exact zFJ hgd (zDS h id fun h => ⟨zAk,rfl,h⟩)
 ·refine zB1 ?_
  have hw : zBd lo.g e = zBd lo.g e' := zBT hgd
  rcases zCg h with ⟨g1,g2⟩ | ⟨g1,g2⟩
  ·refine .inl ⟨by rw [← hw]; exact g1,?_⟩
   have g3 := zDR (fun t ht => hR t (by simp [LO.rd,ht])) g2
   refine zBr g3 fun x H2 hx2 => ?_
   simp only [zAi] at hx2 ⊢
   exact ⟨x,rfl,hx2⟩
  ·refine .inr ⟨by rw [← hw]; exact g1,?_⟩
   simp only [zAi] at g2 ⊢
   exact ⟨zAk,rfl,g2⟩
theorem zKh {q i : Nat} (h : q ≤ i) (hn : ∀ j,q ≤ j → j < i → T.contains j = false) : tlX P n hs reg ops T q = tlX P n hs reg ops T i := by
 induction i with
 | zero => rw [show q = 0 by omega]
 | succ i ih =>
  by_cases hq : q = i + 1
  ·rw [hq]
  ·rw [ih (by omega) fun j a b => hn j a (by omega)]
   unfold tlX
   by_cases hi : i < ops.size
   ·rw [show ops.size - i = (ops.size - (i + 1)) + 1 by omega,zzaw,zzaj (by rw [hn i (by omega) (by omega)]; simp)]
   ·rw [show ops.size - i = 0 by omega,show ops.size - (i + 1) = 0 by omega]
    simp
theorem zPf {i : Nat} (hi : i < ops.size) (hT : T.contains i = true) : tlX P n hs reg ops T i = prX P n hs reg ops T i :: tlX P n hs reg ops T (i + 1) := by
 unfold tlX
 rw [show ops.size - i = (ops.size - (i + 1)) + 1 by omega,zzaw,zZ0 hT,zZG]
theorem zPU {l : List (Option Nat)} (t : Nat) : zNB e l t = .any ∨ (some t ∉ l ∧ zNB e l t = e t) := by
 unfold zNB
 by_cases h : l.contains (some t) = true
 ·rw [if_pos h]; exact .inl rfl
 ·rw [if_neg h]; exact .inr ⟨by simpa using h,rfl⟩
theorem St.weaken {e e' : Env} (h : St B X w0 ρ0 n0 n e H a w) (he : ∀ t,e' t = .any ∨ e' t = e t) : St B X w0 ρ0 n0 n e' H a w := by
 obtain ⟨h1,ρ,h2,h3,h4⟩ := h
 refine ⟨h1,ρ,h2,fun t ht => ?_,h4⟩
 rcases he t with g | g
 ·rw [g]; exact .any _ _
 ·rw [g]; exact h3 t ht
theorem zMd {r : Option Nat} {m0 : Nat} {ds : List (Option Nat)} {K : Env → zA → Prop} {Z : Value → zA → Prop} {Q : Exit → Act → World → Prop} (hE : zAg ops = true) (hD : OkA P n hs reg ops T hd) (hlen : hd.length = ops.size) (hhd : hd = hdA P n hs reg ops T)
  (he1 : e1 = ED hd xs e (fun _ => true) ops.size)
  (hQ : ∀ e' H' a' w',K e' H' → St B X w0 ρ0 n0 n e' H' a' w' → Q .normal a' w')
  (hZ : ∀ v H' a' w',Z v H' → St B X w0 ρ0 n0 n (zNB e ds) H' a' w' → Q (.panic [{ v,recovered := false }]) a' w')
  (hds : ∀ j,j < ops.size → ∀ t,(hd.getD j default).d = some t → some t ∈ ds) (hdt : ∀ j,j < ops.size → T.contains j = true → ∀ t,(zAn P n hs reg ops j).d = some t → some t ∈ ds) :
  ∀ (fuel q : Nat) (ws : List (Option Nat × AV)) (H : zA) (a : Act) (w : World) (listed : Array Bool),q ≤ ops.size → fuel = left listed ops.size → listed.size = ops.size →
   (∀ j,j < ops.size → T.contains j = true → listed.getD j true = decide (j < q)) → Closed ops listed → (∀ t x,(some t,x) ∈ ws → some t ∈ ds) → zEI P hd e1 (tlX P n hs reg ops T q) (wr ws e1) H K Z →
   (∀ i,i < ops.size → T.contains i = false → listed.getD i false = false → zCO P (hd.getD i default) (ED hd xs e (fun _ => true) i) H (xs i)) →
   (∀ i,i < ops.size → T.contains i = false → listed.getD i false = false → ∀ t x,(some t,x) ∈ ws → t ∉ (hd.getD i default).rd ∧ (hd.getD i default).d ≠ some t) →
   St B X w0 ρ0 n0 n (wr ws (ED hd xs e (fun j => listed.getD j false) ops.size)) H a w → wpAnyIn (WR r) m0 P .any ops Q fuel listed a w := by
 have hcf1 : ∀ a b : LO,∀ t,a.d = some t → t ∈ b.rd → zZ a b = true := by
  intro a b t h1 h2
  cases hb : zZ a b with
  | true => rfl
  | false => exact absurd h2 ((zAT hb).1 t h1)
 have hcf2 : ∀ a b : LO,∀ t,b.d = some t → t ∈ a.rd → zZ a b = true := by
  intro a b t h1 h2
  cases hb : zZ a b with
  | true => rfl
  | false => exact absurd h2 ((zAT hb).2.1 t h1)
 have hcf3 : ∀ a b : LO,∀ t,a.d = some t → b.d = some t → zZ a b = true := by
  intro a b t h1 h2
  cases hb : zZ a b with
  | true => rfl
  | false => exact absurd h2 ((zAT hb).2.2 t h1)
 have hnoop : ∀ j,j < ops.size → T.contains j = true → hd.getD j default = zFj := by
  intro j hj hT
  rw [hhd,zHM hj,if_pos hT]
 intro fuel
 induction fuel with
 | zero =>
  intro q ws H a w listed hq hf hsz ht hc hwd hK hx hw hst
  have hall : ∀ j,j < ops.size → listed.getD j true = true := by
   intro j hj
   cases hb : listed.getD j true with
   | true => rfl
   | false => have := zCM hb ops.size hj; omega
  have hE' : ED hd xs e (fun j => listed.getD j false) ops.size = e1 := by
   rw [he1]
   funext t
   exact zAa ops.size fun j hj _ => by rw [zP (by omega),hall j (by omega)]
  rw [hE'] at hst
  have hnil : tlX P n hs reg ops T q = [] := by
   rw [zKh hq fun j a b => ?_]
   ·unfold tlX
    rw [zzbc]; rfl
   ·cases hT : T.contains j with
    | false => rfl
    | true =>
     have := ht j b hT
     rw [hall j b] at this
     simp at this
     omega
  rw [hnil] at hK
  refine ⟨zZS.2 fun i hi => ?_,hQ _ _ _ _ hK hst⟩
  obtain ⟨h1,o,h2,_⟩ := mem_ready.1 hi
  rw [hall i (zY8.1 h2).1] at h1
  cases h1
 | succ fuel ih =>
  intro q ws H a w listed hq hf hsz ht hc hwd hK hx hw hst
  have hun : ∃ i,i < ops.size ∧ listed.getD i true = false := by
   refine zZo fun hno => ?_
   have := zBt (listed := listed) (h := ops.size) ops.size fun j hj => by
    cases hb : listed.getD j true with
    | true => simp [hj]
    | false => exact absurd ⟨j,hj,hb⟩ hno
   omega
  obtain ⟨i0,hi0,hi0u,hi0l⟩ := zCo hun
  have hr0 : i0 ∈ Region.ready .any ops listed := zB4 hE (by omega) hi0u fun j hj => by rw [zP (by omega)]; exact hi0l j hj
  refine ⟨fun h0 => by rw [h0] at hr0; simp at hr0,fun i hi => ?_⟩
  obtain ⟨hiu,oi,hoi,hiall⟩ := mem_ready.1 hi
  have his : i < ops.size := (zY8.1 hoi).1
  have hidf : listed.getD i false = false := by rw [zP (by omega)]; exact hiu
  have hcount : fuel = left (listed.setIfInBounds i true) ops.size := by
   have := zCL hiu ops.size
   rw [if_pos his] at this
   omega
  obtain ⟨imm,hlow⟩ := hD.low i oi hoi
  by_cases hih : T.contains i = false
  ·
   have hgi : hd.getD i default = zAn P n hs reg ops i := by rw [hhd,zHM his,if_neg (by rw [hih]; simp)]
   rw [← hgi] at hlow
   have hbef : ∀ j,j < i → zZ (hd.getD j default) (hd.getD i default) = true → listed.getD j false = true := by
    intro j hj hcf
    cases hT : T.contains j with
    | true => rw [hnoop j (by omega) hT,zCs.1] at hcf; cases hcf
    | false =>
     rcases hD.hh j i his hj hT hih with g6 | g6
     ·exact zJ hc i oi j hoi g6 hiall
     ·rw [g6] at hcf; cases hcf
   have hbeh : ∀ j,i < j → j < ops.size → zZ (hd.getD i default) (hd.getD j default) = true → listed.getD j false = false := by
    intro j hj hjh hcf
    cases hT : T.contains j with
    | true => rw [hnoop j hjh hT,zCs.2] at hcf; cases hcf
    | false =>
     rcases hD.hh i j hjh hj hih hT with g6 | g6
     ·cases hb : listed.getD j false with
      | false => rfl
      | true =>
       obtain ⟨oj,hoj⟩ : ∃ oj,ops[j]? = some oj := ⟨ops[j]'(by omega),by simp [show j < ops.size by omega]⟩
       have := zJ hc j oj i hoj g6 (hc j oj hoj hb)
       rw [hidf] at this
       cases this
     ·rw [g6] at hcf; cases hcf
   have hwi := hw i his hih hidf
   have hA : ∀ t ∈ (hd.getD i default).rd,ED hd xs e (fun _ => true) i t = wr ws (ED hd xs e (fun j => listed.getD j false) ops.size) t := by
    intro t htr
    rw [zJe ws _ fun x hx => (hwi t x hx).1 htr,zAR (i := i) ops.size (by omega) fun j h1 h2 h3 => by
     by_cases hji : j = i
     ·rw [hji]; exact hidf
     ·exact hbeh j (by omega) h2 (hcf2 _ _ t h3 htr)]
    exact zAa i fun j h1 h2 => (hbef j h1 (hcf1 _ _ t h2 htr)).symm
   have hB0 : ups (ED hd xs e (fun j => listed.getD j false) ops.size) (hd.getD i default).d (xs i) = ED hd xs e (fun j => (listed.setIfInBounds i true).getD j false) ops.size := by
    funext t
    by_cases hdt : (hd.getD i default).d = some t
    ·rw [zAR (i := i + 1) ops.size (by omega) fun j h1 h2 h3 => by
      rw [zO,if_neg (by omega)]
      exact hbeh j (by omega) h2 (hcf3 _ _ t hdt h3)]
     rw [hdt,zAS]
     have hset : (listed.setIfInBounds i true).getD i false = true := by rw [zO,if_pos ⟨rfl,by omega⟩]
     simp only [ED]
     rw [if_pos hset,hdt,zAS]
    ·rw [zBe hdt]
     exact zAa ops.size fun j h1 h2 => by
      rw [zO,if_neg]
      rintro ⟨rfl,_⟩
      exact hdt h2
   have hB : ups (wr ws (ED hd xs e (fun j => listed.getD j false) ops.size)) (hd.getD i default).d (xs i) = wr ws (ED hd xs e (fun j => (listed.setIfInBounds i true).getD j false) ops.size) := by
    rw [zGB ws _ fun t ht x hx => (hwi t x hx).2 ht,hB0]
   have hstep := zA3 hA (hx i his hih hidf)
   have hone : zAi P [hd.getD i default] (wr ws (ED hd xs e (fun j => listed.getD j false) ops.size)) H fun e' H' => e' = wr ws (ED hd xs e (fun j => (listed.setIfInBounds i true).getD j false) ops.size) ∧ H' = H := by
    refine zB1 ?_
    rcases hstep with ⟨g1,g2⟩ | ⟨g1,g2⟩
    ·refine .inl ⟨g1,?_⟩
     have := zB2 g2
     simp only [zAi]
     refine zBr this ?_
     rintro y H' ⟨rfl,rfl⟩
     exact ⟨hB,rfl⟩
    ·refine .inr ⟨g1,?_⟩
     rw [← g2]
     exact ⟨hB,rfl⟩
   have hnx := zA4 (r := r) (m0 := m0) hlow hone hst (next := wpAnyIn (WR r) m0 P .any ops Q fuel (listed.setIfInBounds i true)) (Q := Q) fun e'' H'' a'' w'' hK'' hs'' => by
    obtain ⟨rfl,rfl⟩ := hK''
    have hsub : ∀ j,(listed.setIfInBounds i true).getD j false = false → listed.getD j false = false := fun j hl => by
     rw [zO] at hl
     split at hl
     ·cases hl
     ·exact hl
    refine ih q ws _ a'' w'' _ hq hcount (by simpa using hsz) (fun j h1 h2 => ?_) (hc.set hi) hwd hK (fun j hj hT hl => hx j hj hT (hsub j hl)) (fun j hj hT hl => hw j hj hT (hsub j hl)) hs''
    rw [zO,if_neg]
    ·exact ht j h1 h2
    ·rintro ⟨rfl,_⟩
     rw [hih] at h2; cases h2
   unfold wpOpIn
   rw [hoi]
   simp only
   exact hnx
  ·
   have hiT : T.contains i = true := by simpa using hih
   have hqi : q ≤ i := by
    have g1 := ht i his hiT
    rw [hiu] at g1
    simpa using g1.symm
   have hno : ∀ j,q ≤ j → j < i → T.contains j = false := by
    intro j h1 h2
    cases hT : T.contains j with
    | false => rfl
    | true =>
     have g1 := zJ hc i oi j hoi (hD.tt j i his h2 hT hiT) hiall
     rw [zP (by omega),ht j (by omega) hT] at g1
     simp at g1
     omega
   rw [zKh hqi hno,zPf his hiT] at hK
   generalize hlo : zAn P n hs reg ops i = lo at hlow
   have hpr : prX P n hs reg ops T i = (lo,zKP hs reg i,zCc hd T ((Region.before ops).getD i 0)) := by unfold prX; rw [hlo,hhd]
   rw [hpr] at hK
   generalize zKP hs reg i = cu at hpr hK
   have hK : aTI P cu lo (wr ws e1) H (fun e' H' => zC2 P hd e1 H' (zCc hd T ((Region.before ops).getD i 0)) ∧ zEI P hd e1 (tlX P n hs reg ops T (i + 1)) e' H' K Z) Z := hK
   have hfr : ∀ j,j < ops.size → T.contains j = false → listed.getD j false = false → ((Region.before ops).getD i 0).testBit j = false ∧ zZ (hd.getD j default) lo = false := by
    intro j hj hT hl
    have hnb : ((Region.before ops).getD i 0).testBit j = false := by
     cases hb : ((Region.before ops).getD i 0).testBit j with
     | false => rfl
     | true =>
      have := zJ hc i oi j hoi hb hiall
      rw [hl] at this
      cases this
    refine ⟨hnb,?_⟩
    rcases hD.ht j i his hj hT hiT with g | g
    ·rw [hnb] at g; cases g
    ·rw [← hlo]; exact g
   have hR : ∀ t ∈ lo.rd,wr ws e1 t = wr ws (ED hd xs e (fun j => listed.getD j false) ops.size) t := by
    intro t htr
    have : ∀ (l : List (Option Nat × AV)) (e1 e2 : Env),e1 t = e2 t → wr l e1 t = wr l e2 t := by
     intro l
     induction l with
     | nil => intro e1 e2 h; exact h
     | cons p l ihl =>
      intro e1 e2 h
      obtain ⟨d,x⟩ := p
      refine ihl _ _ ?_
      by_cases hdt : d = some t
      ·rw [hdt,zAS,zAS]
      ·rw [zBe hdt,zBe hdt]; exact h
    refine this ws _ _ ?_
    rw [he1]
    refine zAa ops.size fun j hj hdj => ?_
    cases hb : listed.getD j false with
    | true => rfl
    | false =>
     cases hT : T.contains j with
     | true =>
      rw [hnoop j hj hT] at hdj
      cases hdj
     | false =>
      have := (zAT (hfr j hj hT hb).2).1 t hdj
      exact absurd htr this
   have hone := zOL hR hK
   have hnx := zMy (r := r) (m0 := m0) hlow hone hst (next := wpAnyIn (WR r) m0 P .any ops Q fuel (listed.setIfInBounds i true)) (Q := Q) (fun e'' H'' a'' w'' hK'' hs'' => by
    obtain ⟨x,rfl,hkp,hK2⟩ := hK''
    have hsame : ∀ j,j ≠ i → (listed.setIfInBounds i true).getD j false = listed.getD j false := fun j hj => by rw [zO,if_neg (by omega)]
    have hED : ED hd xs e (fun j => (listed.setIfInBounds i true).getD j false) ops.size = ED hd xs e (fun j => listed.getD j false) ops.size := by
     funext t
     refine zAa ops.size fun j hj hdj => hsame j ?_
     rintro rfl
     rw [hnoop j hj hiT] at hdj
     cases hdj
    have hne : ∀ j,T.contains j = false → j ≠ i := by
     rintro j hT rfl
     rw [hiT] at hT; cases hT
    refine ih (i + 1) (ws ++ [(lo.d,x)]) H'' a'' w'' _ (by omega) hcount (by simpa using hsz) (fun j hj1 hj2 => ?_) (hc.set hi) (fun t y hy => ?_) (by rw [zCu]; exact hK2) (fun j hj hT hl => ?_) (fun j hj hT hl t y hy => ?_) (by rw [zCu,hED]; exact hs'')
    ·rw [zO]
     by_cases hji : j = i
     ·rw [if_pos ⟨hji,by omega⟩]; simp; omega
     ·rw [if_neg fun hh => hji hh.1,ht j hj1 hj2]
      by_cases hjq : j < q
      ·simp [hjq]; omega
      ·simp [hjq]
       have : ¬ j < i := fun hlt => by rw [hno j (by omega) hlt] at hj2; cases hj2
       omega
    ·rcases zZv.1 hy with hy | hy
     ·exact hwd t y hy
     ·simp only [zZ5,zZi] at hy
      exact hdt i his hiT t (by rw [hlo]; exact hy.1.symm)
    ·rw [hsame j (hne j hT)] at hl
     have hold := hx j hj hT hl
     rcases hD.sa j hj hT with g | g
     ·exact zCG g hold
     ·by_cases hhl : zBc (hd.getD j default).op = true
      ·exact zCG hhl hold
      ·have hmem : j ∈ zCc hd T ((Region.before ops).getD i 0) := by
        unfold zCc
        simp only [zzah,zZE,zYX,zZL]
        exact ⟨by omega,⟨hT,by simpa using hhl⟩,(hfr j hj hT hl).1⟩
       obtain ⟨y,hy1,hy2⟩ := zC9 (hkp j hmem)
       obtain ⟨s1,t,s2,s3⟩ := zMA (xs := xs) (e := e) g (by omega)
       rw [hlen,← he1] at s1 s3
       have hy2 : ups e1 (hd.getD j default).d y = e1 := hy2
       have hyx : y = xs j := by
        have := congrFun hy2 t
        rw [s2,zAS] at this
        rw [this,s3]
       rw [hyx] at hy1
       exact zA3 s1 hy1
    ·rw [hsame j (hne j hT)] at hl
     rcases zZv.1 hy with hy | hy
     ·exact hw j hj hT hl t y hy
     ·simp only [zZ5,zZi] at hy
      have hcf := zAT (hfr j hj hT hl).2
      exact ⟨hcf.2.1 t hy.1.symm,fun hdj => hcf.2.2 t hdj hy.1.symm⟩)
    fun v H'' a'' w'' hz hs'' => hZ v H'' a'' w'' hz (hs''.weaken fun t => by
     rcases zPU (e := e) (l := ds) t with g | ⟨g1,g2⟩
     ·exact .inl g
     ·refine .inr ?_
      rw [g2,zJe ws _ fun x hx => g1 (hwd t x hx),zAR (i := 0) ops.size (zZm _) fun j _ hj hdj => absurd (hds j hj t hdj) g1]
      rfl)
   unfold wpOpIn
   rw [hoi]
   simp only
   exact hnx
theorem zGb {r : Option Nat} {m0 : Nat} {K : Env → zA → Prop} {Z : Value → zA → Prop} {Q : Exit → Act → World → Prop} (hD : zCT P n hs reg ops T = true) (hE : zAg ops = true) (hg : zC5 n (zAb hs reg ops.size) = true)
  (hK : zAF P (hdA P n hs reg ops T) e H fun e1 => zEI P (hdA P n hs reg ops T) e1 (tlX P n hs reg ops T 0) e1 H (fun e' H' => zAi P (zAb hs reg ops.size) e' H' K) Z) (hst : St B X w0 ρ0 n0 n e H a w)
  (hQ : ∀ e' H' a' w',K e' H' → St B X w0 ρ0 n0 n e' H' a' w' → Q .normal a' w')
  (hZ : ∀ v H' a' w',Z v H' → St B X w0 ρ0 n0 n (zPT e (hdA P n hs reg ops T) (tlX P n hs reg ops T 0)) H' a' w' → Q (.panic [{ v,recovered := false }]) a' w') : wpAnyIn (WR r) m0 P .any ops Q ops.size (Array.replicate ops.size false) a { w with drawn := w.drawn + 1 } := by
 have hlen : (hdA P n hs reg ops T).length = ops.size := by simp [hdA]
 obtain ⟨xs,g3,g4⟩ := zBD _ hK
 rw [hlen] at g3 g4
 have h0 : ∀ j,(Array.replicate ops.size false).getD j false = false := fun j => getD_replicate_false _ _
 have h1 : ∀ j,j < ops.size → (Array.replicate ops.size false).getD j true = false := fun j hj => by rw [← zP (by simpa using hj)]; exact h0 j
 refine zMd (B := B) (X := X) (w0 := w0) (ρ0 := ρ0) (n0 := n0) hE (zG3 hD) hlen rfl rfl (K := fun e' H' => zAi P (zAb hs reg ops.size) e' H' K) (fun e' H' a' w' hk hs' => ?_) hZ ?_ ?_ ops.size 0 [] H a _ _ (zZm _) ?_ (by simp) (fun j hj _ => by rw [h1 j hj]; simp) (fun j oj hj hl => ?_) (fun t x hx => by simp at hx) g3 (fun i hi _ _ => g4 i hi) (fun i _ _ _ t x hx => by simp at hx) ?_
 ·obtain ⟨e2,H2,k1,k2⟩ := zAf (zAb hs reg ops.size) (los := []) hg (by simpa using hk) hs'
  exact hQ _ _ _ _ k1 k2
 ·intro j hj t hd
  refine zZv.2 (.inl (zZK.2 ⟨_,?_,hd⟩))
  rw [zZd,zZe (by omega)]
  exact zzaO _
 ·intro j hj hT t hd
  refine zZv.2 (.inr (zZK.2 ⟨prX P n hs reg ops T j,?_,hd⟩))
  unfold tlX
  exact zZK.2 ⟨j,zzah.2 ⟨by simp [zzbt]; omega,hT⟩,rfl⟩
 ·have := zBt (listed := Array.replicate ops.size false) (h := 0) ops.size fun j hj => by rw [h1 j hj]; simp
  omega
 ·rw [h0 j] at hl
  cases hl
 ·have : ED (hdA P n hs reg ops T) xs e (fun j => (Array.replicate ops.size false).getD j false) ops.size = e := by
   funext t
   rw [zAR (i := 0) ops.size (zZm _) fun j _ _ _ => h0 j]
   rfl
  show St B X w0 ρ0 n0 n (ED _ xs e (fun j => (Array.replicate ops.size false).getD j false) ops.size) H a _
  rw [this]
  exact hst.still ⟨rfl,rfl,rfl,zZa _⟩ rfl
end
end Go.Ax
