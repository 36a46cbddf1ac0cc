/- Operations whose order is drawn: whatever order, the same values. -/
import Derived.Test.YtdgmlepakippmaaAx19
import Derived.StillTail
namespace Go.Ax
open Go Go.RowKit

section edges
variable {ops : Array Oper}

def stp (acc : Array Nat) (o : Oper) : Nat := o.after.foldl (fun s e => if Region.binds .any e then s ||| 2 ^ e.on ||| acc.getD e.on 0 else s) 0

theorem stp_bits (acc : Array Nat) (i : Nat) : ∀ (l : List Edge) (s : Nat), (l.foldl (fun s e => if Region.binds .any e then s ||| 2 ^ e.on ||| acc.getD e.on 0 else s) s).testBit i = true →
    s.testBit i = true ∨ ∃ e ∈ l, Region.binds .any e = true ∧ (e.on = i ∨ (acc.getD e.on 0).testBit i = true)
  | [], s, h => .inl h
  | e :: l, s, h => by
    simp only [List.foldl_cons] at h
    rcases stp_bits acc i l _ h with h1 | ⟨e', h1, h2⟩
    · split at h1
      · rename_i hb
        rw [Nat.testBit_or, Nat.testBit_or, Nat.testBit_two_pow] at h1
        simp only [Bool.or_eq_true, decide_eq_true_eq] at h1
        rcases h1 with (h1 | h1) | h1
        · exact .inl h1
        · exact .inr ⟨e, by simp, hb, .inl h1⟩
        · exact .inr ⟨e, by simp, hb, .inr h1⟩
      · exact .inl h1
    · exact .inr ⟨e', by simp [h1], h2⟩

theorem fold_spec : ∀ (l : List Oper) (acc : Array Nat),
    (l.foldl (fun acc o => acc.push (stp acc o)) acc).size = acc.size + l.length ∧ (∀ k, k < acc.size → (l.foldl (fun acc o => acc.push (stp acc o)) acc).getD k 0 = acc.getD k 0) ∧
    ∀ k o, l[k]? = some o → ∃ acc' : Array Nat, acc'.size = acc.size + k ∧ (∀ m, m < acc.size + k → acc'.getD m 0 = (l.foldl (fun acc o => acc.push (stp acc o)) acc).getD m 0) ∧ (l.foldl (fun acc o => acc.push (stp acc o)) acc).getD (acc.size + k) 0 = stp acc' o
  | [], acc => ⟨rfl, fun _ _ => rfl, fun k o h => by simp at h⟩
  | x :: l, acc => by
    obtain ⟨h1, h2, h3⟩ := fold_spec l (acc.push (stp acc x))
    simp only [List.foldl_cons, Array.size_push] at h1 h2 h3 ⊢
    have hp : ∀ k, k < acc.size → (acc.push (stp acc x)).getD k 0 = acc.getD k 0 := by
      intro k hk
      simp only [Array.getD_eq_getD_getElem?, Array.getElem?_push]
      rw [if_neg (by omega)]
    refine ⟨by rw [h1]; simp; omega, fun k hk => by rw [h2 k (by omega), hp k hk], fun k o ho => ?_⟩
    cases k with
    | zero =>
      simp at ho
      subst ho
      refine ⟨acc, rfl, fun m hm => by rw [h2 m (by omega), hp m (by omega)], ?_⟩
      rw [Nat.add_zero, h2 _ (by omega)]
      simp [Array.getD_eq_getD_getElem?]
    | succ k =>
      obtain ⟨acc', g1, g2, g3⟩ := h3 k o (by simpa using ho)
      exact ⟨acc', by omega, fun m hm => g2 m (by omega), by rw [show acc.size + (k + 1) = acc.size + 1 + k by omega]; exact g3⟩

theorem before_spec {j : Nat} {oj : Oper} (hj : ops[j]? = some oj) {i : Nat} (h : ((Region.before ops).getD j 0).testBit i = true) :
    ∃ e ∈ oj.after, Region.binds .any e = true ∧ (e.on = i ∨ (e.on < j ∧ ((Region.before ops).getD e.on 0).testBit i = true)) := by
  have hb : Region.before ops = ops.toList.foldl (fun acc o => acc.push (stp acc o)) #[] := by
    unfold Region.before
    rw [← Array.foldl_toList]
    rfl
  obtain ⟨_, _, h3⟩ := fold_spec ops.toList #[]
  obtain ⟨acc', g1, g2, g3⟩ := h3 j oj (by simpa using hj)
  simp only [List.size_toArray, List.length_nil, Nat.zero_add] at g1 g2 g3
  rw [hb] at h ⊢
  rw [g3] at h
  unfold stp at h
  rw [← Array.foldl_toList] at h
  rcases stp_bits acc' i _ _ h with h1 | ⟨e, he, hbd, h1⟩
  · simp at h1
  · refine ⟨e, by simpa using he, hbd, ?_⟩
    rcases h1 with h1 | h1
    · exact .inl h1
    · have hlt : e.on < j := by
        rcases Nat.lt_or_ge e.on acc'.size with h2 | h2
        · omega
        · simp [Array.getD_eq_getD_getElem?, Array.getElem?_eq_none h2] at h1
      rw [g2 _ hlt] at h1
      exact .inr ⟨hlt, h1⟩

/-- What is listed has what it waits for listed. -/
def Closed (ops : Array Oper) (listed : Array Bool) : Prop := ∀ j oj, ops[j]? = some oj → listed.getD j false = true → ∀ e ∈ oj.after, Region.binds .any e = true → listed.getD e.on false = true

theorem closed_before {listed : Array Bool} (hc : Closed ops listed) : ∀ (j : Nat) (oj : Oper) (i : Nat), ops[j]? = some oj → ((Region.before ops).getD j 0).testBit i = true → (∀ e ∈ oj.after, Region.binds .any e = true → listed.getD e.on false = true) → listed.getD i false = true := by
  intro j
  induction j using Nat.strongRecOn with
  | _ j ih =>
    intro oj i hj hb hall
    obtain ⟨e, he, hbd, h1⟩ := before_spec hj hb
    rcases h1 with h1 | ⟨hlt, h1⟩
    · rw [← h1]; exact hall e he hbd
    · have hjlt := (Array.getElem?_eq_some_iff.1 hj).1
      have ho : ops[e.on]? = some ops[e.on] := by simp [show e.on < ops.size by omega]
      exact ih e.on hlt _ i ho h1 (hc _ _ ho (hall e he hbd))

theorem set_get (listed : Array Bool) (i k : Nat) (b : Bool) : (listed.setIfInBounds i true).getD k b = if k = i ∧ i < listed.size then true else listed.getD k b := by
  simp only [Array.getD_eq_getD_getElem?]
  by_cases h : k = i
  · subst h
    by_cases h2 : k < listed.size
    · simp [h2]
    · simp [h2]
  · rw [Array.getElem?_setIfInBounds_ne (fun e => h e.symm), if_neg (fun hh => h hh.1)]

theorem Closed.set {listed : Array Bool} (hc : Closed ops listed) {i : Nat} (hi : i ∈ Region.ready .any ops listed) : Closed ops (listed.setIfInBounds i true) := by
  obtain ⟨_, oi, hoi, hall⟩ := mem_ready.1 hi
  intro j oj hj hl e he hb
  rw [set_get] at hl ⊢
  split
  · rfl
  · split at hl
    · rename_i h1
      obtain ⟨rfl, _⟩ := h1
      have : oj = oi := Option.some.inj (hj.symm.trans hoi)
      subst this
      exact hall e he hb
    · exact hc j oj hj hl e he hb

/-- How many of the first k are not listed. -/
def left (listed : Array Bool) : Nat → Nat
  | 0 => 0
  | k + 1 => left listed k + if listed.getD k true = true then 0 else 1
theorem left_set {listed : Array Bool} {i : Nat} (hi : listed.getD i true = false) : ∀ k, left (listed.setIfInBounds i true) k + (if i < k then 1 else 0) = left listed k
  | 0 => by simp [left]
  | k + 1 => by
    have ih := left_set hi k
    have hil : i < listed.size := by
      rcases Nat.lt_or_ge i listed.size with h | h
      · exact h
      · simp [Array.getElem?_eq_none h] at hi
    simp only [left]
    rw [set_get]
    by_cases hk : k = i
    · subst hk
      rw [if_neg (by omega)] at ih
      have h2 : k < k + 1 := by omega
      have h3 : (if k = k ∧ k < listed.size then true else listed.getD k true) = true := if_pos ⟨rfl, hil⟩
      rw [if_pos h2, if_pos h3, hi, if_neg (by simp)]
      omega
    · have h3 : (if k = i ∧ i < listed.size then true else listed.getD k true) = listed.getD k true := if_neg fun hh => hk hh.1
      rw [h3]
      generalize (if listed.getD k true = true then 0 else 1) = z
      by_cases h2 : i < k
      · rw [if_pos h2] at ih; rw [if_pos (show i < k + 1 by omega)]; omega
      · rw [if_neg h2] at ih; rw [if_neg (show ¬ i < k + 1 by omega)]; omega
theorem left_pos {listed : Array Bool} {i : Nat} (hi : listed.getD i true = false) : ∀ k, i < k → 0 < left listed k
  | 0, h => by omega
  | k + 1, h => by
    simp only [left]
    by_cases hk : i = k
    · subst hk; rw [hi]; simp
    · have := left_pos hi k (by omega); omega

/-- If something is not listed, something is ready. -/
theorem ready_of {listed : Array Bool} (he : edgesOk ops = true) {i : Nat} (hi : i < ops.size) (hun : listed.getD i true = false) (hall : ∀ j, j < i → listed.getD j false = true) : i ∈ Region.ready .any ops listed := by
  refine mem_ready.2 ⟨hun, ops[i], by simp [hi], fun e hee hb => ?_⟩
  unfold edgesOk at he
  have h1 := List.all_eq_true.1 he i (List.mem_range.2 hi)
  simp only [Array.getElem?_eq_getElem hi, Option.map_some, Option.getD_some] at h1
  have h2 := Array.all_eq_true'.1 h1 e hee
  simp only [hb, Bool.not_true, Bool.false_or, decide_eq_true_eq] at h2
  exact hall _ h2
theorem least_un {listed : Array Bool} {n : Nat} (h : ∃ i, i < n ∧ listed.getD i true = false) : ∃ i, i < n ∧ listed.getD i true = false ∧ ∀ j, j < i → listed.getD j true = true := by
  obtain ⟨i, hi, hun⟩ := h
  induction i using Nat.strongRecOn with
  | _ i ih =>
    by_cases hx : ∃ j, j < i ∧ listed.getD j true = false
    · obtain ⟨j, hj, hj2⟩ := hx
      exact ih j hj (by omega) hj2
    · refine ⟨i, hi, hun, fun j hj => ?_⟩
      cases hb : listed.getD j true with
      | true => rfl
      | false => exact absurd ⟨j, hj, hb⟩ hx
end edges

theorem getD_ft {l : Array Bool} {i : Nat} (hi : i < l.size) : l.getD i false = l.getD i true := by
  simp [hi]
theorem left_eq {listed : Array Bool} {h : Nat} : ∀ k, (∀ j, j < k → listed.getD j true = decide (j < h)) → left listed k = k - h
  | 0, _ => by simp [left]
  | k + 1, hh => by
    simp only [left]
    rw [left_eq k fun j hj => hh j (by omega), hh k (by omega)]
    by_cases hk : k < h
    · simp [hk]; omega
    · simp [hk]; omega

section
variable {P : Program} {w w0 : World} {X : Nat → Prop} {ρ ρ0 : Nat → Loc} {H : AHeap} {e : Env} {a : Act} {n n0 : Nat}

/-- A world whose memory and streams are the same. -/
theorem St.still {w' : World} (hst : St X w0 ρ0 n0 n e H a w) (hs : Same w w') (hh : w'.heap = w.heap) : St X w0 ρ0 n0 n e H a w' := by
  obtain ⟨h1, h2, ρ, h3, h4, h5⟩ := hst
  obtain ⟨g1, g2⟩ := h3.more hs fun b _ => by rw [hh]
  exact ⟨h1, h2, ρ, g1, fun t ht => (h4 t ht).nextN g2, h5.trans g2⟩

/-- The frame: what computes out of values alone does so beside any objects. -/
theorem APure.frame {k : FuncId} {args : List AV} {x : AV} (h : APure P k args x) (hc : clL args = true) (H : AHeap) : ACall P k args H fun y H' => y = x ∧ H' = H := by
  refine ⟨h.1, fun X ρ w vs hrel hargs => ?_⟩
  have hno : ∀ (ρ : Nat → Loc) b, ¬ Own ρ 0 b := fun ρ b ⟨r, o, hr, _⟩ => by omega
  have hm : ∀ (ρ' : Nat → Loc) b, Mut (Mut X ρ H.length) ρ' 0 b ↔ Mut X ρ H.length b := fun ρ' b => ⟨fun hb => hb.elim id fun ho => absurd ho (hno _ _), .inl⟩
  refine (h.2 (Mut X ρ H.length) (fun _ => {}) w vs ⟨?_, ?_, ?_, ?_, fun g hg => ⟨fun ⟨r, o, hr, _⟩ => by simp at hr, (hrel.gl g hg).2⟩⟩ ⟨hargs.1, ?_⟩).mono ?_
  · intro r o hr; simp at hr
  · intro r r' b o b' o' hr; simp at hr
  · intro r b o hr; simp at hr
  · intro b hb
    rcases hb with hb | hb
    · exact hrel.xlt b hb
    · exact hb.lt hrel
  · intro i x u hx hu
    have h1 := ((hargs.2 i x u hx hu).of_cl (clL_all hc hx)).closed rfl (fun _ => {}) 0
    exact h1.fut (n0 := 0) (Fut.refl _ _ _) (fun b _ hb hb' => hb ((hm _ b).1 hb')) (fun b _ => hno _ b) (Nat.le_refl _)
  · rintro en w' ⟨v, y, H', ρ', rfl, ⟨rfl, rfl⟩, g1, g2, g3⟩
    have hkeep : ∀ b, b < w.heap.size → w'.heap[b]? = w.heap[b]? := fun b hb => g3.keep b hb (hno _ b)
    obtain ⟨f1, f2⟩ := hrel.more ⟨g3.os, g3.tape, g3.output, g3.size⟩ hkeep
    refine ⟨v, y, H, ρ, rfl, ⟨rfl, rfl⟩, f1, ?_, f2⟩
    have h1 : Rep w' (Mut X ρ H.length) ρ' 0 y v := g2.fut (n0 := 0) (Fut.refl _ _ _) (fun b _ hb hb' => hb ((hm _ b).2 hb')) (fun b _ => hno _ b) (Nat.le_refl _)
    exact h1.closed rfl ρ H.length

theorem aop_mono {op : LOp} {K K' : AV → AHeap → Prop} (h : aop P op e H K) (hK : ∀ x H', K x H' → K' x H') : aop P op e H K' := by
  cases op <;> simp only [aop] at h ⊢ <;> first | exact ⟨h.1, hK _ _ h.2⟩ | exact ⟨h.1, fun b hb => hK _ _ (h.2 b hb)⟩ | skip
  case call f args =>
    unfold acall at h ⊢
    split at h
    · exact h.mono hK
    · exact h.elim
  case pick c a b =>
    split at h
    · split at h
      · rename_i hb; rw [if_pos hb]; exact hK _ _ h
      · rename_i hb; rw [if_neg hb]; exact hK _ _ h
    · exact h.elim

theorem aop_of_aopq {op : LOp} {x : AV} (h : aopq P op e H fun y => y = x) : aop P op e H fun y H' => y = x ∧ H' = H := by
  cases op <;> simp only [aopq, aop] at h ⊢ <;> first | exact ⟨h.1, h.2.2, h.2.1⟩ | exact h.elim | skip
  case call f args =>
    split at h
    · rename_i k first caps hf
      obtain ⟨y, h1, h2, rfl⟩ := h
      rw [hf]
      exact h1.frame h2 H
    · exact h.elim
  case pick c a b =>
    split at h
    · split at h
      · rename_i hb; rw [if_pos hb]; exact ⟨h, trivial⟩
      · rename_i hb; rw [if_neg hb]; exact ⟨h, trivial⟩
    · exact h.elim

theorem aopq_ex {op : LOp} {K : AV → Prop} (h : aopq P op e H K) : ∃ x, K x ∧ aopq P op e H fun y => y = x := by
  cases op <;> simp only [aopq] at h ⊢ <;> first | exact ⟨_, h.2.2, h.1, h.2.1, rfl⟩ | exact h.elim | skip
  case call f args =>
    split at h
    · obtain ⟨y, h1, h2, h3⟩ := h
      exact ⟨y, h3, y, h1, h2, rfl⟩
    · exact h.elim
  case pick c a b =>
    split at h
    · split at h
      · rename_i hb; exact ⟨_, h, by rw [if_pos hb]⟩
      · rename_i hb; exact ⟨_, h, by rw [if_neg hb]⟩
    · exact h.elim

theorem ev_congr {e e' : Env} {x : LX} (h : ∀ t ∈ x.rd, e t = e' t) : ev e x = ev e' x := by
  cases x with
  | t n => exact h n (by simp [LX.rd])
  | c _ => rfl
theorem evL_congr {e e' : Env} {l : List LX} (h : ∀ t ∈ rdL l, e t = e' t) : l.map (ev e) = l.map (ev e') :=
  List.map_congr_left fun x hx => ev_congr fun t ht => h t (List.mem_flatMap.2 ⟨x, hx, ht⟩)
theorem evO_congr {e e' : Env} {l : Option LX} (h : ∀ t ∈ rdO l, e t = e' t) : l.map (ev e) = l.map (ev e') := by
  cases l with
  | none => rfl
  | some x => exact congrArg some (ev_congr h)

theorem ares_congr {op : LOp} {e e' : Env} (h : ∀ t ∈ op.rd, e t = e' t) : ares op e H = ares op e' H := by
  cases op <;> simp only [LOp.rd, List.mem_append] at h <;> simp only [ares] <;> first | rfl | (rw [ev_congr h]; done) | (rw [ev_congr fun t ht => h t (.inl ht), ev_congr fun t ht => h t (.inr ht)]; done) | skip
  case build zs ps =>
    congr 1
    exact List.map_congr_left fun p hp => by rw [ev_congr fun t ht => h t (List.mem_flatMap.2 ⟨p, hp, ht⟩)]
  case bsl imm sz len zs ps =>
    congr 1
    exact List.map_congr_left fun p hp => by rw [ev_congr fun t ht => h t (List.mem_flatMap.2 ⟨p, hp, ht⟩)]
  case ins kd m k x => rw [ev_congr fun t ht => h t (.inl (.inl ht)), ev_congr fun t ht => h t (.inl (.inr ht)), ev_congr fun t ht => h t (.inr ht)]
  case mkfn f a b => rw [evL_congr fun t ht => h t (.inl ht), evL_congr fun t ht => h t (.inr ht)]
  case slice lk k x lo hi => rw [ev_congr fun t ht => h t (.inl (.inl ht)), evO_congr fun t ht => h t (.inl (.inr ht)), evO_congr fun t ht => h t (.inr ht)]

theorem aopq_congr {op : LOp} {e e' : Env} {K : AV → Prop} (h : ∀ t ∈ op.rd, e t = e' t) (hk : aopq P op e H K) : aopq P op e' H K := by
  have ha := ares_congr (H := H) h
  cases op <;> simp only [aopq] at hk ⊢ <;> first | (rw [← ha]; exact hk) | exact hk | skip
  case call f args =>
    simp only [LOp.rd, List.mem_append] at h
    rw [← ev_congr fun t ht => h t (.inl ht), ← evL_congr fun t ht => h t (.inr ht)]
    exact hk
  case pick c a b =>
    simp only [LOp.rd, List.mem_append] at h
    rw [← ev_congr fun t ht => h t (.inl (.inl ht)), ← ev_congr fun t ht => h t (.inl (.inr ht)), ← ev_congr fun t ht => h t (.inr ht)]
    exact hk

/-- One operation of a drawn region comes to x. -/
def stepQ (P : Program) (o : LO) (e : Env) (H : AHeap) (x : AV) : Prop :=
  (wantA o.g e = some true ∧ aopq P o.op e H fun y => y = x) ∨ (wantA o.g e = some false ∧ x = undefA)

theorem wantA_congr {g : Option (Nat × Bool)} {e e' : Env} (h : ∀ t want, g = some (t, want) → e t = e' t) : wantA g e = wantA g e' := by
  cases g with
  | none => rfl
  | some p =>
    obtain ⟨t, want⟩ := p
    simp only [wantA]
    rw [h t want rfl]

theorem stepQ_congr {o : LO} {e e' : Env} {x : AV} (h : ∀ t ∈ o.rd, e t = e' t) (hk : stepQ P o e H x) : stepQ P o e' H x := by
  have hg : wantA o.g e = wantA o.g e' := wantA_congr fun t want hg => h t (by simp [LO.rd, hg])
  rcases hk with ⟨h1, h2⟩ | ⟨h1, h2⟩
  · exact .inl ⟨by rw [← hg]; exact h1, aopq_congr (fun t ht => h t (by simp [LO.rd, ht])) h2⟩
  · exact .inr ⟨by rw [← hg]; exact h1, h2⟩

theorem aops_of {o : LO} {l : List LO} {K : Env → AHeap → Prop} (h : (wantA o.g e = some true ∧ aop P o.op e H fun x H' => aops P l (ups e o.d x) H' K) ∨ (wantA o.g e = some false ∧ aops P l (ups e o.d undefA) H K)) : aops P (o :: l) e H K := by
  simp only [aops]
  cases hg : o.g with
  | none =>
    rw [hg] at h
    rcases h with h | h
    · exact h.2
    · simp [wantA] at h
  | some tw =>
    obtain ⟨t, want⟩ := tw
    rw [hg] at h
    simp only [wantA] at h
    cases het : e t with
    | v x =>
      rw [het] at h
      cases x <;> simp only [Option.some.injEq, reduceCtorEq, false_and, or_self, Bool.false_eq_true, false_or, true_and] at h ⊢ <;> first | exact h | skip
      case bool b =>
        have hu : up e t (bool b) = e := up_eq het
        cases b <;> cases want <;> simp [hu, het] at h ⊢ <;> exact h
      case tuple us => rw [het]; exact h
    | _ => rw [het] at h; simp at h

theorem aopsq_cons {o : LO} {l : List LO} {K : Env → Prop} (h : aopsq P (o :: l) e H K) : ∃ x, stepQ P o e H x ∧ aopsq P l (ups e o.d x) H K := by
  have fin : (wantA o.g e = some true ∧ aopq P o.op e H fun x => aopsq P l (ups e o.d x) H K) ∨ (wantA o.g e = some false ∧ aopsq P l (ups e o.d undefA) H K) := by
    simp only [aopsq] at h
    cases hg : o.g with
    | none => rw [hg] at h; exact .inl ⟨rfl, h⟩
    | some tw =>
      obtain ⟨t, want⟩ := tw
      rw [hg] at h
      simp only at h
      cases het : e t with
      | v x =>
        rw [het] at h
        cases x <;> simp only at h <;> first | exact h.elim | skip
        case bool b =>
          have hu : up e t (bool b) = e := up_eq het
          cases b <;> cases want <;> simp only [hu, if_true, Bool.false_eq_true, if_false, wantA, het] at h ⊢ <;> first | exact .inl ⟨rfl, h⟩ | exact .inr ⟨rfl, h⟩
        case tuple us => exact .inr ⟨by simp [wantA, het], h⟩
      | _ => rw [het] at h; exact h.elim
  rcases fin with ⟨h1, h2⟩ | ⟨h1, h2⟩
  · obtain ⟨x, h3, h4⟩ := aopq_ex h2
    exact ⟨x, .inl ⟨h1, h4⟩, h3⟩
  · exact ⟨_, .inr ⟨h1, rfl⟩, h2⟩

/-- The slots after those of the first k operations that D says. -/
def ED (hd : List LO) (xs : Nat → AV) (e : Env) (D : Nat → Bool) : Nat → Env
  | 0 => e
  | k + 1 => if D k = true then ups (ED hd xs e D k) (hd.getD k default).d (xs k) else ED hd xs e D k

theorem ups_ne {d : Option Nat} {x : AV} {t : Nat} (h : d ≠ some t) : ups e d x t = e t := by
  cases d with
  | none => rfl
  | some d => simp only [ups, up]; rw [if_neg fun hh => h (by rw [hh])]
theorem ups_eq {x : AV} {t : Nat} : ups e (some t) x t = x := by simp [ups, up]

variable {hd : List LO} {xs : Nat → AV}

theorem ED_congr {D D' : Nat → Bool} {t : Nat} : ∀ k, (∀ j, j < k → (hd.getD j default).d = some t → D j = D' j) → ED hd xs e D k t = ED hd xs e D' k t
  | 0, _ => rfl
  | k + 1, h => by
    have ih := ED_congr k fun j hj => h j (by omega)
    simp only [ED]
    by_cases hd' : (hd.getD k default).d = some t
    · rw [h k (by omega) hd', hd']
      split
      · rw [ups_eq, ups_eq]
      · exact ih
    · split <;> split <;> simp only [ups_ne hd', ih]
theorem ED_skip {D : Nat → Bool} {t i : Nat} : ∀ k, i ≤ k → (∀ j, i ≤ j → j < k → (hd.getD j default).d = some t → D j = false) → ED hd xs e D k t = ED hd xs e D i t
  | 0, hk, _ => by rw [show i = 0 by omega]
  | k + 1, hk, h => by
    by_cases hik : i = k + 1
    · rw [hik]
    · rw [← ED_skip k (by omega) fun j h1 h2 => h j h1 (by omega)]
      simp only [ED]
      by_cases hd' : (hd.getD k default).d = some t
      · rw [h k (by omega) (by omega) hd']; simp
      · split
        · exact ups_ne hd'
        · rfl

theorem ED_shift {o : LO} {l : List LO} {x : AV} {xs : Nat → AV} : ∀ i, ED (o :: l) (fun i => match i with | 0 => x | i + 1 => xs i) e (fun _ => true) (i + 1) = ED l xs (ups e o.d x) (fun _ => true) i
  | 0 => by simp [ED]
  | i + 1 => by
    have ih := ED_shift (o := o) (l := l) (x := x) (xs := xs) i
    rw [ED, ih]
    simp [ED]

theorem aopsq_chain : ∀ (hd : List LO) {e : Env} {K : Env → Prop}, aopsq P hd e H K → ∃ xs : Nat → AV, K (ED hd xs e (fun _ => true) hd.length) ∧ ∀ i, i < hd.length → stepQ P (hd.getD i default) (ED hd xs e (fun _ => true) i) H (xs i)
  | [], e, K, h => ⟨fun _ => .any, h, fun i hi => by simp at hi⟩
  | o :: l, e, K, h => by
    obtain ⟨x, h1, h2⟩ := aopsq_cons h
    obtain ⟨xs, h3, h4⟩ := aopsq_chain l h2
    refine ⟨fun i => match i with | 0 => x | i + 1 => xs i, ?_, fun i hi => ?_⟩
    · rw [List.length_cons, ED_shift]; exact h3
    · cases i with
      | zero => exact h1
      | succ i =>
        rw [ED_shift]
        exact h4 i (by simpa using hi)

theorem memO_some {t : Nat} {l : List Nat} (h : memO (some t) l = false) : t ∉ l := by simpa [memO] using h

theorem lowHd_get {hs : List Hn} {reg : Nat} {ops : Array Oper} : ∀ (l : List Oper) (i : Nat) (hd : List LO), lowHd P n hs reg ops i l = some hd → hd.length = l.length ∧ ∀ k o, l[k]? = some o → ∃ imm, lowOne P n imm ops o = some (hd.getD k default)
  | [], i, hd, h => by
    simp only [lowHd, Option.some.injEq] at h
    subst h
    exact ⟨rfl, fun k o h => by simp at h⟩
  | o :: l, i, hd, h => by
    unfold lowHd at h
    cases h1 : lowOne P n (hasImm hs reg i) ops o with
    | none => simp [h1] at h
    | some lo =>
      cases h2 : lowHd P n hs reg ops (i + 1) l with
      | none => simp [h1, h2] at h
      | some m =>
        simp only [h1, h2, Option.some.injEq] at h
        subst h
        obtain ⟨g1, g2⟩ := lowHd_get l (i + 1) m h2
        refine ⟨by simp [g1], fun k o' hk => ?_⟩
        cases k with
        | zero => simp at hk; subst hk; exact ⟨_, h1⟩
        | succ k => simpa using g2 k o' (by simpa using hk)

variable {ops : Array Oper}

theorem drawOk_get {hdl : List LO} {h : Nat} (hd : drawOk ops hdl h = true) {i j : Nat} (hj : j < ops.size) (hi : i < j) :
    ((Region.before ops).getD j 0).testBit i = true ∨ (j < h ∧ confl (hdl.getD i default) (hdl.getD j default) = false) := by
  unfold drawOk at hd
  have h1 := List.all_eq_true.1 hd j (List.mem_range.2 hj)
  have h2 := List.all_eq_true.1 h1 i (List.mem_range.2 hi)
  simp only [Bool.or_eq_true, Bool.and_eq_true, decide_eq_true_eq, Bool.not_eq_true'] at h2
  exact h2

theorem tail_sound {hs : List Hn} {reg h : Nat} {K : Env → AHeap → Prop} {Q : Exit → Act → World → Prop} (hE : edgesOk ops = true) (hT : ∀ i j, h ≤ i → i < j → j < ops.size → ((Region.before ops).getD j 0).testBit i = true)
    (hQ : ∀ e' H' a' w', K e' H' → St X w0 ρ0 n0 n e' H' a' w' → Q .normal a' w') :
    ∀ (fuel k : Nat) (los : List LO) (e : Env) (H : AHeap) (a : Act) (w : World) (listed : Array Bool), h ≤ k → fuel + k = ops.size → listed.size = ops.size → (∀ j, j < ops.size → listed.getD j true = decide (j < k)) → Closed ops listed →
      lowOps P n hs reg ops k (ops.toList.drop k) = some los → aops P los e H K → St X w0 ρ0 n0 n e H a w → wpAny P .any ops Q fuel listed a w
  | 0, k, los, e, H, a, w, listed, hk, hf, hsz, hl, hc, hlo, h, hst => by
    rw [List.drop_eq_nil_of_le (by simp; omega)] at hlo
    unfold lowOps at hlo
    split at hlo
    · rename_i hg
      simp only [Option.some.injEq] at hlo
      subst hlo
      obtain ⟨e', H', h', hst'⟩ := ghosts_sound (presAt hs reg k) (los := []) hg (by simpa using h) hst
      refine ⟨List.eq_nil_iff_forall_not_mem.2 fun i hi => ?_, hQ _ _ _ _ h' hst'⟩
      obtain ⟨h1, o, h2, _⟩ := mem_ready.1 hi
      have h3 := (Array.getElem?_eq_some_iff.1 h2).1
      rw [hl i h3] at h1
      simp at h1
      omega
    · cases hlo
  | fuel + 1, k, los, e, H, a, w, listed, hk, hf, hsz, hl, hc, hlo, h, hst => by
    have hks : k < ops.size := by omega
    rw [List.drop_eq_getElem_cons (by simpa using hks)] at hlo
    have hop : ops[k]? = some (ops.toList[k]'(by simpa using hks)) := by simp [hks]
    generalize ops.toList[k]'(by simpa using hks) = o at hlo hop
    unfold lowOps at hlo
    cases h1 : lowOne P n (hasImm hs reg k) ops o with
    | none => simp [h1] at hlo
    | some lo =>
      cases h2 : lowOps P n hs reg ops (k + 1) (ops.toList.drop (k + 1)) with
      | none => simp [h1, h2] at hlo
      | some m =>
        simp only [h1, h2] at hlo
        split at hlo
        · rename_i hg
          simp only [Option.some.injEq] at hlo
          subst hlo
          obtain ⟨e', H', h', hst'⟩ := ghosts_sound (presAt hs reg k) hg h hst
          have hkr : k ∈ Region.ready .any ops listed := ready_of hE hks (by rw [hl k hks]; simp) fun j hj => by rw [getD_ft (by omega), hl j (by omega)]; simpa using hj
          refine ⟨fun h0 => by rw [h0] at hkr; simp at hkr, fun i hi => ?_⟩
          have hik : i = k := by
            obtain ⟨g1, oi, g2, g3⟩ := mem_ready.1 hi
            have g4 := (Array.getElem?_eq_some_iff.1 g2).1
            rw [hl i g4] at g1
            simp only [decide_eq_false_iff_not, Nat.not_lt] at g1
            rcases Nat.lt_or_ge k i with g5 | g5
            · have := closed_before hc i oi k g2 (hT k i hk g5 g4) g3
              rw [getD_ft (by omega), hl k hks] at this
              simp at this
            · omega
          subst hik
          have hnx := op_step h1 h' hst' (next := wpAny P .any ops Q fuel (listed.setIfInBounds i true)) (Q := Q) fun e'' H'' a'' w'' hK hs'' =>
            tail_sound hE hT hQ fuel (i + 1) m e'' H'' a'' w'' (listed.setIfInBounds i true) (by omega) (by omega) (by simpa using hsz) (fun j hj => by
              rw [set_get]
              by_cases hji : j = i
              · rw [if_pos ⟨hji, by omega⟩]; simp; omega
              · rw [if_neg fun hh => hji hh.1, hl j hj]
                have : (j < i) = (j < i + 1) := by simp; omega
                simp only [this]) (hc.set hi) h2 hK hs''
          unfold wpOp
          rw [hop]
          simp only
          split
          · rename_i hw; rw [if_pos hw] at hnx; exact .inl hnx
          · rename_i hw; rw [if_neg hw] at hnx; exact hnx
        · cases hlo

theorem conflF {a b : LO} (h : confl a b = false) : (∀ t, a.d = some t → t ∉ b.rd) ∧ (∀ t, b.d = some t → t ∉ a.rd) ∧ ∀ t, a.d = some t → b.d ≠ some t := by
  simp only [confl, Bool.or_eq_false_iff] at h
  refine ⟨fun t ht => memO_some (by rw [← ht]; exact h.1.1), fun t ht => memO_some (by rw [← ht]; exact h.1.2), fun t ht ht' => ?_⟩
  have := h.2
  rw [ht, ht'] at this
  simp at this

theorem drawOk_tail {hdl : List LO} {h : Nat} (hd : drawOk ops hdl h = true) : ∀ i j, h ≤ i → i < j → j < ops.size → ((Region.before ops).getD j 0).testBit i = true := fun i j h1 h2 h3 => by
  rcases drawOk_get hd h3 h2 with g | g
  · exact g
  · omega

theorem head_sound {hs : List Hn} {reg h : Nat} {tl : List LO} {K : Env → AHeap → Prop} {Q : Exit → Act → World → Prop} (hE : edgesOk ops = true) (hD : drawOk ops hd h = true) (hh : h ≤ ops.size)
    (hlen : hd.length = h) (hget : ∀ k o, k < h → ops[k]? = some o → ∃ imm, lowOne P n imm ops o = some (hd.getD k default)) (hx : ∀ i, i < h → stepQ P (hd.getD i default) (ED hd xs e (fun _ => true) i) H (xs i))
    (htl : lowOps P n hs reg ops h (ops.toList.drop h) = some tl) (hK : aops P tl (ED hd xs e (fun _ => true) h) H K)
    (hQ : ∀ e' H' a' w', K e' H' → St X w0 ρ0 n0 n e' H' a' w' → Q .normal a' w') :
    ∀ (fuel : Nat) (a : Act) (w : World) (listed : Array Bool), fuel = left listed ops.size → listed.size = ops.size → (∀ j, h ≤ j → j < ops.size → listed.getD j true = false) → Closed ops listed →
      St X w0 ρ0 n0 n (ED hd xs e (fun j => listed.getD j false) h) H a w → wpAny P .any ops Q fuel listed a w := by
  intro fuel
  induction fuel with
  | zero =>
    intro a w listed hf hsz ht hc hst
    have hall : ∀ j, j < ops.size → listed.getD j true = decide (j < h) := by
      intro j hj
      by_cases hjh : j < h
      · cases hb : listed.getD j true with
        | true => simp [hjh]
        | false => have := left_pos hb ops.size hj; omega
      · rw [ht j (by omega) hj]; simp [hjh]
    have hE' : ED hd xs e (fun j => listed.getD j false) h = ED hd xs e (fun _ => true) h := by
      funext t
      exact ED_congr h fun j hj _ => by rw [getD_ft (by omega), hall j (by omega)]; simpa using hj
    rw [hE'] at hst
    have h0 := left_eq ops.size hall
    exact tail_sound hE (drawOk_tail hD) hQ 0 h tl _ H a w listed (Nat.le_refl _) (by omega) hsz hall hc htl hK hst
  | succ fuel ih =>
    intro a w listed hf hsz ht hc hst
    by_cases hfull : ∀ j, j < h → listed.getD j true = true
    · have hall : ∀ j, j < ops.size → listed.getD j true = decide (j < h) := by
        intro j hj
        by_cases hjh : j < h
        · rw [hfull j hjh]; simp [hjh]
        · rw [ht j (by omega) hj]; simp [hjh]
      have hE' : ED hd xs e (fun j => listed.getD j false) h = ED hd xs e (fun _ => true) h := by
        funext t
        exact ED_congr h fun j hj _ => by rw [getD_ft (by omega), hall j (by omega)]; simpa using hj
      rw [hE'] at hst
      have h0 := left_eq ops.size hall
      exact tail_sound hE (drawOk_tail hD) hQ (fuel + 1) h tl _ H a w listed (Nat.le_refl _) (by omega) hsz hall hc htl hK hst
    · have hun : ∃ i, i < h ∧ listed.getD i true = false := by
        refine Classical.byContradiction fun hno => hfull fun j hj => ?_
        cases hb : listed.getD j true with
        | true => rfl
        | false => exact absurd ⟨j, hj, hb⟩ hno
      obtain ⟨i0, hi0, hi0u, hi0l⟩ := least_un hun
      have hr0 : i0 ∈ Region.ready .any ops listed := ready_of hE (by omega) hi0u fun j hj => by rw [getD_ft (by omega)]; exact hi0l j hj
      refine ⟨fun h0 => by rw [h0] at hr0; simp at hr0, fun i hi => ?_⟩
      obtain ⟨hiu, oi, hoi, hiall⟩ := mem_ready.1 hi
      have his : i < ops.size := (Array.getElem?_eq_some_iff.1 hoi).1
      have hih : i < h := by
        refine Classical.byContradiction fun hge => ?_
        rcases drawOk_get hD (i := i0) his (by omega) with g6 | g6
        · have := closed_before hc i oi i0 hoi g6 hiall
          rw [getD_ft (by omega), hi0u] at this
          cases this
        · omega
      have hidf : listed.getD i false = false := by rw [getD_ft (by omega)]; exact hiu
      -- what comes before it in the text and meets it, is listed; what comes behind it, is not
      have hbef : ∀ j, j < i → confl (hd.getD j default) (hd.getD i default) = true → listed.getD j false = true := by
        intro j hj hcf
        rcases drawOk_get hD his hj with g6 | g6
        · exact closed_before hc i oi j hoi g6 hiall
        · rw [g6.2] at hcf; cases hcf
      have hbeh : ∀ j, i < j → j < h → confl (hd.getD i default) (hd.getD j default) = true → listed.getD j false = false := by
        intro j hj hjh hcf
        rcases drawOk_get hD (show j < ops.size by omega) hj with g6 | g6
        · cases hb : listed.getD j false with
          | false => rfl
          | true =>
            obtain ⟨oj, hoj⟩ : ∃ oj, ops[j]? = some oj := ⟨ops[j]'(by omega), by simp [show j < ops.size by omega]⟩
            have := closed_before hc j oj i hoj g6 (hc j oj hoj hb)
            rw [hidf] at this
            cases this
        · rw [g6.2] at hcf; cases hcf
      have hcf1 : ∀ a b : LO, ∀ t, a.d = some t → t ∈ b.rd → confl a b = true := by
        intro a b t h1 h2
        cases hb : confl a b with
        | true => rfl
        | false => exact absurd h2 ((conflF hb).1 t h1)
      have hcf2 : ∀ a b : LO, ∀ t, b.d = some t → t ∈ a.rd → confl a b = true := by
        intro a b t h1 h2
        cases hb : confl a b with
        | true => rfl
        | false => exact absurd h2 ((conflF hb).2.1 t h1)
      have hcf3 : ∀ a b : LO, ∀ t, a.d = some t → b.d = some t → confl a b = true := by
        intro a b t h1 h2
        cases hb : confl a b with
        | true => rfl
        | false => exact absurd h2 ((conflF hb).2.2 t h1)
      have hA : ∀ t ∈ (hd.getD i default).rd, ED hd xs e (fun _ => true) i t = ED hd xs e (fun j => listed.getD j false) h t := by
        intro t htr
        rw [ED_skip (i := i) h (by omega) fun j h1 h2 h3 => by
          by_cases hji : j = i
          · rw [hji]; exact hidf
          · exact hbeh j (by omega) h2 (hcf2 _ _ t h3 htr)]
        exact ED_congr i fun j h1 h2 => (hbef j h1 (hcf1 _ _ t h2 htr)).symm
      have hB : ups (ED hd xs e (fun j => listed.getD j false) h) (hd.getD i default).d (xs i) = ED hd xs e (fun j => (listed.setIfInBounds i true).getD j false) h := by
        funext t
        by_cases hdt : (hd.getD i default).d = some t
        · rw [ED_skip (i := i + 1) h (by omega) fun j h1 h2 h3 => by
            rw [set_get, if_neg (by omega)]
            exact hbeh j (by omega) h2 (hcf3 _ _ t hdt h3)]
          rw [hdt, ups_eq]
          have hset : (listed.setIfInBounds i true).getD i false = true := by rw [set_get, if_pos ⟨rfl, by omega⟩]
          simp only [ED]
          rw [if_pos hset, hdt, ups_eq]
        · rw [ups_ne hdt]
          exact ED_congr h fun j h1 h2 => by
            rw [set_get, if_neg]
            rintro ⟨rfl, _⟩
            exact hdt h2
      have hstep := stepQ_congr hA (hx i hih)
      obtain ⟨imm, hlow⟩ := hget i oi hih hoi
      have hone : aops P [hd.getD i default] (ED hd xs e (fun j => listed.getD j false) h) H fun e' H' => e' = ED hd xs e (fun j => (listed.setIfInBounds i true).getD j false) h ∧ H' = H := by
        refine aops_of ?_
        rcases hstep with ⟨g1, g2⟩ | ⟨g1, g2⟩
        · refine .inl ⟨g1, ?_⟩
          have := aop_of_aopq g2
          simp only [aops]
          refine aop_mono this ?_
          rintro y H' ⟨rfl, rfl⟩
          exact ⟨hB, rfl⟩
        · refine .inr ⟨g1, ?_⟩
          rw [← g2]
          exact ⟨hB, rfl⟩
      have hnx := op_step hlow hone hst (next := wpAny P .any ops Q fuel (listed.setIfInBounds i true)) (Q := Q) fun e'' H'' a'' w'' hK'' hs'' => by
        obtain ⟨rfl, rfl⟩ := hK''
        refine ih a'' w'' _ ?_ (by simpa using hsz) (fun j h1 h2 => by rw [set_get, if_neg (by omega)]; exact ht j h1 h2) (hc.set hi) hs''
        have := left_set hiu ops.size
        rw [if_pos his] at this
        omega
      unfold wpOp
      rw [hoi]
      simp only
      split
      · rename_i hw; rw [if_pos hw] at hnx; exact .inl hnx
      · rename_i hw; rw [if_neg hw] at hnx; exact hnx

theorem draw_sound {hs : List Hn} {id h : Nat} {tl : List LO} {K : Env → AHeap → Prop} {Q : Exit → Act → World → Prop} (hhd : lowHd P n hs id ops 0 (ops.toList.take h) = some hd) (htl : lowOps P n hs id ops h (ops.toList.drop h) = some tl)
    (hD : drawOk ops hd h = true) (hE : edgesOk ops = true) (hm : P.follows .mixedOrders = true) (hh : h ≤ ops.size) (hK : aopsq P hd e H fun e' => aops P tl e' H K) (hst : St X w0 ρ0 n0 n e H a w)
    (hQ : ∀ e' H' a' w', K e' H' → St X w0 ρ0 n0 n e' H' a' w' → Q .normal a' w') : (Code.region id ops true).wp P Q a w := by
  refine wp_region_any hm ?_
  obtain ⟨g1, g2⟩ := lowHd_get _ _ _ hhd
  have hlen : hd.length = h := by rw [g1]; simp; omega
  obtain ⟨xs, g3, g4⟩ := aopsq_chain hd hK
  rw [hlen] at g3 g4
  have h0 : ∀ j, (Array.replicate ops.size false).getD j false = false := fun j => getD_replicate_false _ _
  have h1 : ∀ j, j < ops.size → (Array.replicate ops.size false).getD j true = false := fun j hj => by rw [← getD_ft (by simpa using hj)]; exact h0 j
  refine head_sound hE hD hh hlen (fun k o hk ho => g2 k o ?_) g4 htl g3 hQ ops.size a _ _ ?_ (by simp) (fun j _ hj => h1 j hj) ?_ ?_
  · rw [List.getElem?_take, if_pos hk]; simpa using ho
  · have := left_eq (listed := Array.replicate ops.size false) (h := 0) ops.size fun j hj => by rw [h1 j hj]; simp
    omega
  · intro j oj hj hl
    rw [h0 j] at hl
    cases hl
  · have : ED hd xs e (fun j => (Array.replicate ops.size false).getD j false) h = e := by
      funext t
      rw [ED_skip (i := 0) h (Nat.zero_le _) fun j _ _ _ => h0 j]
      rfl
    rw [this]
    exact hst.still ⟨rfl, rfl, rfl, Nat.le_refl _⟩ rfl
end
end Go.Ax
