/- That an operation does what is said of it: those that compute. -/
import Derived.Test.YtdgmlepakippmaaAx6
namespace Go.Ax
open Go Go.RowKit

section
variable {P : Program} {w : World} {X : Nat → Prop} {ρ : Nat → Loc} {H : AHeap}

abbrev Rp (w : World) (X : Nat → Prop) (ρ : Nat → Loc) (H : AHeap) (x : AV) (u : Value) : Prop := Rep w (Mut X ρ H.length) ρ H.length x u

theorem rep_v {x u : Value} (h : Rp w X ρ H (.v x) u) : u = x := by cases h; rfl
theorem rep_fn {f : Fn} {a b : List AV} {u : Value} (h : Rp w X ρ H (.fn f a b) u) : ∃ fs us, u = .func f fs us := by cases h; exact ⟨_, _, rfl⟩

theorem toList_bs (s : ByteArray) : s.toList = bs s := by rw [ByteArray.toList_eq]; rfl
theorem append_bs (a b : ByteArray) : a ++ b = mkS (bs a ++ bs b) := by
  apply ByteArray.ext
  simp [mkS, bs, ByteArray.data_append]

theorem gives_v {s : Sem Value} {p : Prop} {x : Value} (h : HRel w X ρ H) (f : p → s.run P w = .ok x w) : Gives P s w X ρ H ⟨p, .v x, H⟩ :=
  gives_pure h fun hp => ⟨x, f hp, .v _ _⟩

theorem snd_not {x : AV} {u : Value} (h : HRel w X ρ H) (hx : Rp w X ρ H x u) : Gives P (Op.unary .not u) w X ρ H (rNot x H) := by
  cases x with
  | v x =>
    have := rep_v hx; subst this
    cases u <;> first | exact gives_no | exact gives_v h fun _ => rfl
  | _ => exact gives_no
theorem snd_neg {x : AV} {u : Value} (h : HRel w X ρ H) (hx : Rp w X ρ H x u) : Gives P (Op.unary .neg u) w X ρ H (rNeg x H) := by
  cases x with
  | v x =>
    have := rep_v hx; subst this
    cases u <;> first | exact gives_no | exact gives_v h fun _ => rfl
  | _ => exact gives_no

theorem snd_min {x y : AV} {u v : Value} {ts : Array TypeId} {ty : TypeId} (h : HRel w X ρ H) (hx : Rp w X ρ H x u) (hy : Rp w X ρ H y v) : Gives P (Builtin.min_ ts ty #[u, v]) w X ρ H (rMin x y H) := by
  cases x with
  | v x =>
    have := rep_v hx; subst this
    cases y with
    | v y =>
      have := rep_v hy; subst this
      cases u <;> first | exact gives_no | skip
      cases v <;> first | exact gives_no | exact gives_v h fun _ => rfl
    | _ => cases u <;> exact gives_no
  | _ => exact gives_no
theorem snd_max {x y : AV} {u v : Value} {ts : Array TypeId} {ty : TypeId} (h : HRel w X ρ H) (hx : Rp w X ρ H x u) (hy : Rp w X ρ H y v) : Gives P (Builtin.max_ ts ty #[u, v]) w X ρ H (rMax x y H) := by
  cases x with
  | v x =>
    have := rep_v hx; subst this
    cases y with
    | v y =>
      have := rep_v hy; subst this
      cases u <;> first | exact gives_no | skip
      cases v <;> first | exact gives_no | exact gives_v h fun _ => rfl
    | _ => cases u <;> exact gives_no
  | _ => exact gives_no

theorem snd_idx {t : TypeId} {x i : AV} {u v : Value} (ht : P.underlying t = some .string) (h : HRel w X ρ H) (hx : Rp w X ρ H x u) (hi : Rp w X ρ H i v) : Gives P (Instr.index t u v) w X ρ H (rIdx x i H) := by
  cases x with
  | v x =>
    have := rep_v hx; subst this
    cases i with
    | v i =>
      have := rep_v hi; subst this
      cases u <;> first | exact gives_no | skip
      cases v <;> first | exact gives_no | skip
      rename_i s k n
      refine gives_v h fun ⟨h0, h1⟩ => ?_
      have hlt : n.toNat < s.size := by have : (bs s).length = s.size := by cases s; rfl
                                        omega
      simp [Instr.index, asIntOf, run_underlying ht, h0, hlt, bs, List.getD]
      rfl
    | _ => cases u <;> exact gives_no
  | _ => exact gives_no

theorem snd_ibin {op : BinOp} {t : TypeId} {ox oy : Operand} {k k' : IntKind} {a b : Int} (h : HRel w X ρ H) :
    Gives P (do eqGuard op t ox oy (.int k a) (.int k' b); binOp op t (.int k a) (.int k' b)) w X ρ H (iBin op k k' a b H) := by
  simp only [eqGuard_at_int, pure_bind]
  have hne : ∀ k : IntKind, (k ≠ k) = False := fun k => by simp
  cases op <;> simp only [iBin] <;> first
    | exact gives_no
    | (refine gives_v h fun hk => ?_
       subst hk
       simp only [binOp, hne, if_false]
       rfl)
    | (refine gives_v h fun ⟨hk, hb⟩ => ?_
       subst hk
       simp only [binOp, hne, if_false, Op.intDiv, hb]
       rfl)
    | (refine gives_v h fun hb => ?_
       simp only [binOp, Op.shift, Int.not_lt.2 hb, if_false]
       rfl)

theorem snd_sbin {op : BinOp} {t : TypeId} {ox oy : Operand} {a b : ByteArray} (h : HRel w X ρ H) :
    Gives P (do eqGuard op t ox oy (.string a) (.string b); binOp op t (.string a) (.string b)) w X ρ H (sBin op (bs a) (bs b) H) := by
  simp only [eqGuard_at_string, pure_bind]
  have hs : ∀ s : ByteArray, (bs s).length = s.size := fun s => by cases s; rfl
  have hd : ∀ a b : List UInt8, (a == b) = decide (a = b) := fun a b => by rw [Bool.eq_iff_iff]; simp
  cases op <;> simp only [sBin] <;> first
    | exact gives_no
    | (refine gives_v h fun hk => ?_
       have h1 : ¬ IntKind.i64.max < ((a.size : Int) + (b.size : Int)) := by
         rw [IntKind.max_i64]
         rw [hs, hs] at hk
         omega
       simp [binOp, Op.stringOp, append_bs]
       simpa using h1)
    | (refine gives_v h fun _ => ?_
       simp [binOp, Op.stringOp, toList_bs, hd]
       done)

theorem gives_eq {op : BinOp} {t : TypeId} {ox oy : Operand} {u v : Value} {p : Prop} {b : Bool} (h : HRel w X ρ H) (hg : eqGuard op t ox oy u v = pure ())
    (he : binOp .eql t u v = do pure (.bool (← Op.equal t u v))) (hn : binOp .neq t u v = do pure (.bool (!(← Op.equal t u v)))) (f : p → (Op.equal t u v).run P w = .ok b w) :
    Gives P (do eqGuard op t ox oy u v; binOp op t u v) w X ρ H (eqRes op p b H) := by
  rw [hg]
  cases op <;> simp only [eqRes] <;> first
    | exact gives_no
    | (refine gives_v h fun hk => ?_
       simp [he, f hk]
       done)
    | (refine gives_v h fun hk => ?_
       simp [hn, f hk]
       done)

theorem eq_bool {t : TypeId} {a b : Bool} (ht : P.underlying t = some .bool) : (Op.equal t (.bool a) (.bool b)).run P w = .ok (decide (a = b)) w := by
  have h1 : Op.equal t (.bool a) (.bool b) = Op.equalIn (9999 + 1) t (.bool a) (.bool b) := rfl
  rw [h1, run_equalIn_bool' w 9999 t a b ht]
  rfl
theorem eqIn_fn {d : Nat} {t : TypeId} {p q : Array TypeId} {c : Bool} {f : Fn} {a b : Array Value} (ht : P.underlying t = some (.func p q c)) : (Op.equalIn (d + 1) t (.func f a b) .nilFunc).run P w = .ok false w := by
  simp [Op.equalIn, run_underlying ht]
theorem eqIn_nilFn {d : Nat} {t : TypeId} {p q : Array TypeId} {c : Bool} (ht : P.underlying t = some (.func p q c)) : (Op.equalIn (d + 1) t .nilFunc .nilFunc).run P w = .ok true w := by
  simp [Op.equalIn, run_underlying ht]

theorem snd_bin0 {kd : KD} {op : BinOp} {t : TypeId} {ox oy : Operand} {x y : AV} {u v : Value} (hk : tyKD P t = some kd) (h : HRel w X ρ H) (hx : Rp w X ρ H x u) (hy : Rp w X ρ H y v)
    (hagg : ∀ ks cs ds us vs, kd = .agg ks → x = .agg cs → y = .agg ds → u = .agg us → v = .agg vs → Gives P (do eqGuard op t ox oy u v; binOp op t u v) w X ρ H (eqRes op (cEq ks cs ds).1 (cEq ks cs ds).2 H)) :
    Gives P (do eqGuard op t ox oy u v; binOp op t u v) w X ρ H (rBin kd op x y H) := by
  have hkb : isKD kd .bool = true → P.underlying t = some .bool := by
    intro hb
    unfold tyKD at hk
    cases hd : P.underlying t with
    | none => simp [hd] at hk
    | some d => cases d <;> simp [hd] at hk <;> first | rfl | (subst hk; simp [isKD] at hb; done) | (obtain ⟨_, _, _, rfl⟩ := hk; simp [isKD] at hb)
  have hkf : isKD kd .fn = true → ∃ a b c, P.underlying t = some (.func a b c) := by
    intro hb
    unfold tyKD at hk
    cases hd : P.underlying t with
    | none => simp [hd] at hk
    | some d => cases d <;> simp [hd] at hk <;> first | exact ⟨_, _, _, rfl⟩ | (subst hk; simp [isKD] at hb; done) | (obtain ⟨_, _, _, rfl⟩ := hk; simp [isKD] at hb)
  cases x with
  | v x =>
    have := rep_v hx; subst this
    cases y with
    | v y =>
      have := rep_v hy; subst this
      cases u <;> cases v <;> simp only [rBin] <;> first
        | exact gives_no
        | exact snd_ibin h
        | exact snd_sbin h
        | (refine gives_eq h (by simp [eqGuard_at_bool]) rfl rfl fun hp => ?_
           exact eq_bool (hkb hp))
        | (refine gives_eq h (by simp [eqGuard_at_nilFunc]) rfl rfl fun hp => ?_
           obtain ⟨a, b, c, hd⟩ := hkf hp
           exact eqIn_nilFn (d := 9999) hd)
    | _ => cases u <;> exact gives_no
  | agg cs =>
    cases y with
    | agg ds =>
      cases hx with
      | agg _ _ us hl hr =>
        cases hy with
        | agg _ _ vs hl' hr' =>
          simp only [rBin]
          cases kd <;> first | exact gives_no | exact hagg _ cs ds us vs rfl rfl rfl rfl rfl
    | _ => exact gives_no
  | fn f a b =>
    obtain ⟨fs, us, rfl⟩ := rep_fn hx
    cases y with
    | v y =>
      have := rep_v hy; subst this
      cases v <;> simp only [rBin] <;> first
        | exact gives_no
        | (refine gives_eq h (by simp [eqGuard_at_func]) rfl rfl fun hp => ?_
           obtain ⟨a, b, c, hd⟩ := hkf hp
           exact eqIn_fn (d := 9999) hd)
    | _ => exact gives_no
  | _ => exact gives_no
end
end Go.Ax
