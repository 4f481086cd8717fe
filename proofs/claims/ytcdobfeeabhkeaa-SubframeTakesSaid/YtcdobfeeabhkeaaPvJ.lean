/- The operations that only read: what the model does is what the reading says. -/
import Derived.Test.YtcdobfeeabhkeaaPvI
set_option autoImplicit false
set_option linter.unusedVariables false
set_option linter.unusedSimpArgs false
namespace Go.Pv

def Did (E : Env) (Z : Nat → Prop) (B : Nat → Option Nat) (st : St) (a : Act) (w : World) (o : Oper) (v : AV) (st' : St) : Prop :=
  ∃ val B' w', ((execOp a.eval o).run E.P w = .ok (.value val) w' ∨ ((execOp a.eval o).run E.P w = .ok .skip w' ∧ val = undef)) ∧
    Rel Z B' st' a.tmps w' ∧ Stay w w' (Owned Z B st) (Owned Z B' st') B B' st st' ∧ Tr (L B st) w w' ∧ VR w' (Owned Z B' st') B' st' v val

theorem tyOf_some {P : Program} {t : TypeId} {ty : Ty} (h : tyOf P t = some ty) : tyAux P 12 t = some ty ∧ ∃ i, P.info? t = some i ∧ i.size = ty.size := by
  unfold tyOf at h
  split at h
  · rename_i ty' i h1 h2
    split at h
    · rename_i h3
      cases h
      exact ⟨h1, i, h2, Nat.eq_of_beq_eq_true h3⟩
    · cases h
  · cases h

theorem tyAux_agg {P : Program} {t : TypeId} {ty : Ty} {n : Nat} (h : tyAux P n t = some ty) : ∃ d, P.underlying t = some d ∧
    ((ty.isAgg = true ∧ ((∃ fs, d = .struct fs) ∨ ∃ m e, d = .array m e)) ∨ (ty.isAgg = false ∧ (∀ fs, d ≠ .struct fs) ∧ ∀ m e, d ≠ .array m e)) := by
  cases n with
  | zero => cases h
  | succ n =>
    unfold tyAux at h
    split at h
    · rename_i hu; cases h; exact ⟨_, hu, .inr ⟨rfl, fun _ h => by (cases h), fun _ _ h => by (cases h)⟩⟩
    · rename_i hu; cases h; exact ⟨_, hu, .inr ⟨rfl, fun _ h => by (cases h), fun _ _ h => by (cases h)⟩⟩
    · rename_i hu; cases h; exact ⟨_, hu, .inr ⟨rfl, fun _ h => by (cases h), fun _ _ h => by (cases h)⟩⟩
    · rename_i e hu
      cases he : tyAux P n e with
      | none => rw [he] at h; cases h
      | some u => rw [he] at h; cases h; exact ⟨_, hu, .inr ⟨rfl, fun _ h => by (cases h), fun _ _ h => by (cases h)⟩⟩
    · rename_i fs hu
      refine ⟨_, hu, .inl ⟨?_, .inl ⟨fs, rfl⟩⟩⟩
      revert h
      generalize fs.toList = l
      intro h
      cases l with
      | nil => cases h; rfl
      | cons f l =>
        simp only [List.foldr_cons] at h
        cases h1 : tyAux P n f.type with
        | none => rw [h1] at h; cases h
        | some a =>
          rw [h1, Option.bind_some] at h
          generalize List.foldr _ _ l = q at h
          cases q with
          | none => cases h
          | some b => cases h; rfl
    · rename_i m e hu
      cases he : tyAux P n e with
      | none => rw [he] at h; cases h
      | some u => rw [he] at h; cases h; exact ⟨_, hu, .inl ⟨rfl, .inr ⟨m, e, rfl⟩⟩⟩
    · rename_i k e hu
      split at h
      · cases he : tyAux P n e with
        | none => rw [he] at h; cases h
        | some u => rw [he] at h; cases h; exact ⟨_, hu, .inr ⟨rfl, fun _ h => by (cases h), fun _ _ h => by (cases h)⟩⟩
      · cases h
    · cases h

theorem run_isAgg {P : Program} {t : TypeId} {ty : Ty} (h : tyOf P t = some ty) (w : World) : (isAgg t).run P w = .ok ty.isAgg w := by
  obtain ⟨d, hu, hd⟩ := tyAux_agg (tyOf_some h).1
  unfold isAgg
  simp only [Sem.run_bind, run_underlying hu, Result.andThen_ok]
  rcases hd with ⟨e, ⟨fs, rfl⟩ | ⟨m, e', rfl⟩⟩ | ⟨e, h1, h2⟩
  · rw [e]; rfl
  · rw [e]; rfl
  · rw [e]
    cases d <;> first | rfl | exact absurd rfl (h1 _) | exact absurd rfl (h2 _ _)

theorem run_sizeOf {P : Program} {t : TypeId} {ty : Ty} (h : tyOf P t = some ty) (w : World) : (sizeOf t).run P w = .ok ty.size w := by
  obtain ⟨i, hi, hs⟩ := (tyOf_some h).2
  simp [sizeOf, typeInfo, hi, hs]

theorem tyOf_slice {P : Program} {t e : TypeId} {u : Ty} (hu : P.underlying t = some (.slice e)) (h : tyOf P t = some (.slice u)) : tyAux P 11 e = some u := by
  have := (tyOf_some h).1
  unfold tyAux at this
  rw [hu] at this
  simp only at this
  cases he : tyAux P 11 e with
  | none => rw [he] at this; cases this
  | some v => rw [he] at this; cases this; rfl

theorem asI_some {v : AV} {st st' : St} {p : IntKind × Int} (h : run (asI v) st = some (p, st')) : st' = st ∧ v = .val (.int p.1) p.2 := by
  cases v with
  | val t x =>
    cases t with
    | int k => obtain ⟨rfl, rfl⟩ := run_ret h; exact ⟨rfl, rfl⟩
    | _ => cases h
  | _ => cases h

theorem asB_some {v : AV} {st st' : St} {b : Bool} (h : run (asB v) st = some (b, st')) : st' = st ∧ v = .val .bool b := by
  cases v with
  | val t x =>
    cases t with
    | bool => obtain ⟨rfl, rfl⟩ := run_ret h; exact ⟨rfl, rfl⟩
    | _ => cases h
  | _ => cases h

theorem idx_some {α : Type} {l : List α} {i : Int} {x : α} (h : idx l i = some x) : 0 ≤ i ∧ l[i.toNat]? = some x ∧ i.toNat < l.length := by
  unfold idx at h
  split at h
  · rename_i h0
    refine ⟨h0, h, ?_⟩
    rcases Nat.lt_or_ge i.toNat l.length with h1 | h1
    · exact h1
    · rw [List.getElem?_eq_none h1] at h; cases h
  · cases h

section
variable {E : Env} {Z : Nat → Prop} {B : Nat → Option Nat} {st st' : St} {a : Act} {w : World}

theorem VR.int {k : IntKind} {n : Int} {v : Value} {O : Nat → Prop} (h : VR w O B st (.val (.int k) n) v) : v = .int k n := by
  obtain ⟨cs, rfl, rfl⟩ := h; rfl
theorem VR.bool {b : Bool} {v : Value} {O : Nat → Prop} (h : VR w O B st (.val .bool b) v) : v = .bool b := by
  obtain ⟨cs, rfl, rfl⟩ := h; rfl
theorem VR.str {s : ByteArray} {v : Value} {O : Nat → Prop} (h : VR w O B st (.val .str s) v) : v = .string s := by
  obtain ⟨cs, rfl, rfl⟩ := h; rfl
theorem VR.ofInt {O : Nat → Prop} (k : IntKind) (n : Int) : VR w O B st (.val (.int k) n) (.int k n) := ⟨[_], rfl, rfl⟩
theorem VR.ofBool {O : Nat → Prop} (b : Bool) : VR w O B st (.val .bool b) (.bool b) := ⟨[_], rfl, rfl⟩

/-- an operation that only reads -/
theorem Did.pure {o : Oper} {v : AV} (r : Rel Z B st a.tmps w) {val : Value} (h : (execOp a.eval o).run E.P w = .ok (.value val) w) (hv : VR w (Owned Z B st) B st v val) : Did E Z B st a w o v st :=
  ⟨val, B, w, .inl h, r, Stay.refl, Tr.refl _ _, hv⟩

/-! ### numbers -/
theorem binInt_sound {op : BinOp} {k : IntKind} {x y : Int} {v : AV} (e : run (binInt op k x y) st = some (v, st')) (hs : isShift op = false) :
    st' = st ∧ ∃ val, (binOp op 0 (.int k x) (.int k y)).run E.P w = .ok val w ∧ ∀ O, VR w O B st v val := by
  cases op <;> simp only [isShift, Bool.true_eq_false] at hs <;> simp only [binInt] at e
  case add => obtain ⟨rfl, rfl⟩ := run_ret e; exact ⟨rfl, _, by (simp only [binOp, ne_eq, not_true_eq_false, if_false]; rfl), fun O => VR.ofInt _ _⟩
  case sub => obtain ⟨rfl, rfl⟩ := run_ret e; exact ⟨rfl, _, by (simp only [binOp, ne_eq, not_true_eq_false, if_false]; rfl), fun O => VR.ofInt _ _⟩
  case mul => obtain ⟨rfl, rfl⟩ := run_ret e; exact ⟨rfl, _, by (simp only [binOp, ne_eq, not_true_eq_false, if_false]; rfl), fun O => VR.ofInt _ _⟩
  case quo =>
    obtain ⟨n, st1, h1, h2⟩ := run_some e
    obtain ⟨h3, rfl⟩ := run_ask h1
    obtain ⟨rfl, rfl⟩ := run_pure h2
    unfold quoI at h3
    split at h3
    · cases h3
    · rename_i hy
      cases h3
      exact ⟨rfl, _, by simp [binOp, Op.intDiv, hy], fun O => VR.ofInt _ _⟩
  case rem =>
    obtain ⟨n, st1, h1, h2⟩ := run_some e
    obtain ⟨h3, rfl⟩ := run_ask h1
    obtain ⟨rfl, rfl⟩ := run_pure h2
    unfold remI at h3
    split at h3
    · cases h3
    · rename_i hy
      cases h3
      exact ⟨rfl, _, by simp [binOp, Op.intDiv, hy], fun O => VR.ofInt _ _⟩
  case and => obtain ⟨rfl, rfl⟩ := run_ret e; exact ⟨rfl, _, by (simp only [binOp, ne_eq, not_true_eq_false, if_false]; rfl), fun O => VR.ofInt _ _⟩
  case or => obtain ⟨rfl, rfl⟩ := run_ret e; exact ⟨rfl, _, by (simp only [binOp, ne_eq, not_true_eq_false, if_false]; rfl), fun O => VR.ofInt _ _⟩
  case xor => obtain ⟨rfl, rfl⟩ := run_ret e; exact ⟨rfl, _, by (simp only [binOp, ne_eq, not_true_eq_false, if_false]; rfl), fun O => VR.ofInt _ _⟩
  case andNot => obtain ⟨rfl, rfl⟩ := run_ret e; exact ⟨rfl, _, by (simp only [binOp, ne_eq, not_true_eq_false, if_false]; rfl), fun O => VR.ofInt _ _⟩
  case eql => obtain ⟨rfl, rfl⟩ := run_ret e; exact ⟨rfl, _, by (simp only [binOp, ne_eq, not_true_eq_false, if_false]; rfl), fun O => VR.ofBool _⟩
  case neq => obtain ⟨rfl, rfl⟩ := run_ret e; exact ⟨rfl, _, by (simp only [binOp, ne_eq, not_true_eq_false, if_false]; rfl), fun O => VR.ofBool _⟩
  case lss => obtain ⟨rfl, rfl⟩ := run_ret e; exact ⟨rfl, _, by (simp only [binOp, ne_eq, not_true_eq_false, if_false]; rfl), fun O => VR.ofBool _⟩
  case leq => obtain ⟨rfl, rfl⟩ := run_ret e; exact ⟨rfl, _, by (simp only [binOp, ne_eq, not_true_eq_false, if_false]; rfl), fun O => VR.ofBool _⟩
  case gtr => obtain ⟨rfl, rfl⟩ := run_ret e; exact ⟨rfl, _, by (simp only [binOp, ne_eq, not_true_eq_false, if_false]; rfl), fun O => VR.ofBool _⟩
  case geq => obtain ⟨rfl, rfl⟩ := run_ret e; exact ⟨rfl, _, by (simp only [binOp, ne_eq, not_true_eq_false, if_false]; rfl), fun O => VR.ofBool _⟩

theorem run_eqGuard {op : BinOp} {t : TypeId} {x y : Operand} {u v : Value} (h1 : u ≠ .nilIface) (h2 : ∀ c, u ≠ .agg c) : (eqGuard op t x y u v).run E.P w = .ok () w := by
  unfold eqGuard
  cases u <;> first | exact absurd rfl h1 | exact absurd rfl (h2 _) | (cases op <;> rfl)

theorem binOp_type {op : BinOp} {t : TypeId} {k : IntKind} {x y : Int} : binOp op t (.int k x) (.int k y) = binOp op 0 (.int k x) (.int k y) := by cases op <;> rfl

theorem exec_binOp {o : Oper} {op : BinOp} {t t' : TypeId} {x y : Operand} (ho : o.op = .binOp op t x y t') {val : Value} (hg : (eqGuard op t x y (a.eval x) (a.eval y)).run E.P w = .ok () w) (hb : (binOp op t (a.eval x) (a.eval y)).run E.P w = .ok val w) :
    (execOp a.eval o).run E.P w = .ok (.value val) w := by
  unfold execOp
  simp only [ho, Sem.run_bind, hg, hb, Result.andThen_ok, Sem.run_pure]

theorem run_equalIn_bool {t : TypeId} (hu : E.P.underlying t = some .bool) (d : Nat) (p q : Bool) : (Op.equalIn (d + 1) t (.bool p) (.bool q)).run E.P w = .ok (p == q) w := by
  unfold Op.equalIn; simp [run_underlying hu]
theorem run_equal_bool {t : TypeId} (hu : E.P.underlying t = some .bool) (p q : Bool) : (Op.equal t (.bool p) (.bool q)).run E.P w = .ok (p == q) w := run_equalIn_bool hu 9999 p q
theorem run_equalIn_ptr {t u : TypeId} (hu : E.P.underlying t = some (.pointer u)) (d : Nat) (p : Addr) : (Op.equalIn (d + 1) t (.pointer (some p)) (.pointer none)).run E.P w = .ok false w := by
  unfold Op.equalIn; simp [run_underlying hu]
theorem run_equal_ptr {t u : TypeId} (hu : E.P.underlying t = some (.pointer u)) (p : Addr) : (Op.equal t (.pointer (some p)) (.pointer none)).run E.P w = .ok false w := run_equalIn_ptr hu 9999 p
theorem run_eql {t : TypeId} {x y : Value} {b : Bool} (h : (Op.equal t x y).run E.P w = .ok b w) : (do pure (Value.bool (← Op.equal t x y)) : Sem Value).run E.P w = .ok (.bool b) w := by
  simp only [Sem.run_bind, h, Result.andThen_ok, Sem.run_pure]
theorem run_neq {t : TypeId} {x y : Value} {b : Bool} (h : (Op.equal t x y).run E.P w = .ok b w) : (do pure (Value.bool (!(← Op.equal t x y))) : Sem Value).run E.P w = .ok (.bool (!b)) w := by
  simp only [Sem.run_bind, h, Result.andThen_ok, Sem.run_pure]

theorem unOp_sound {o : Oper} {op : UnOp} {t : TypeId} {x : Operand} (ho : o.op = .unOp op t x) (r : Rel Z B st a.tmps w) {v : AV} (e : run (opP E o) st = some (v, st')) : Did E Z B st a w o v st' := by
  unfold opP at e
  simp only [ho] at e
  obtain ⟨u1, st1, h1, ea⟩ := run_some e
  obtain ⟨rfl, v1⟩ := opd_sound r h1
  have hx : ∀ val, (Op.unary op (a.eval x)).run E.P w = .ok val w → (execOp a.eval o).run E.P w = .ok (.value val) w := fun val h => by
    unfold execOp
    simp only [ho, Sem.run_bind, h, Result.andThen_ok, Sem.run_pure]
  unfold unP at ea
  split at ea
  · obtain ⟨rfl, rfl⟩ := run_ret ea
    have e1 := v1.int
    exact .pure r (hx _ (by rw [e1]; rfl)) (VR.ofInt _ _)
  · obtain ⟨rfl, rfl⟩ := run_ret ea
    have e1 := v1.int
    exact .pure r (hx _ (by rw [e1]; rfl)) (VR.ofInt _ _)
  · obtain ⟨rfl, rfl⟩ := run_ret ea
    have e1 := v1.bool
    exact .pure r (hx _ (by rw [e1]; rfl)) (VR.ofBool _)
  · cases ea

theorem move_sound {o : Oper} {x : Operand} (ho : o.op = .move x) (r : Rel Z B st a.tmps w) {v : AV} (e : run (opP E o) st = some (v, st')) : Did E Z B st a w o v st' := by
  unfold opP at e
  simp only [ho] at e
  obtain ⟨rfl, v1⟩ := opd_sound r e
  exact .pure r (by unfold execOp; rw [ho]; rfl) v1

theorem pick_sound {o : Oper} {c x y : Operand} (ho : o.op = .pick c x y) (r : Rel Z B st a.tmps w) {v : AV} (e : run (opP E o) st = some (v, st')) : Did E Z B st a w o v st' := by
  unfold opP at e
  simp only [ho] at e
  obtain ⟨u1, st1, h1, ea⟩ := run_some e
  obtain ⟨rfl, v1⟩ := opd_sound r h1
  obtain ⟨cb, st2, h2, eb⟩ := run_some ea
  obtain ⟨rfl, rfl⟩ := asB_some h2
  obtain ⟨u2, st3, h3, ec⟩ := run_some eb
  obtain ⟨rfl, v2⟩ := opd_sound r h3
  obtain ⟨u3, st4, h4, ed⟩ := run_some ec
  obtain ⟨rfl, v3⟩ := opd_sound r h4
  have e1 := v1.bool
  cases cb with
  | true =>
    simp only [run, if_true, Option.some.injEq, Prod.mk.injEq] at ed
    obtain ⟨rfl, rfl⟩ := ed
    exact .pure r (by unfold execOp; simp only [ho, e1]; rfl) v2
  | false =>
    simp only [run, Bool.false_eq_true, if_false, Option.some.injEq, Prod.mk.injEq] at ed
    obtain ⟨rfl, rfl⟩ := ed
    exact .pure r (by unfold execOp; simp only [ho, e1]; rfl) v3

theorem nilCheck_sound {o : Oper} {x : Operand} (ho : o.op = .nilCheck x) (r : Rel Z B st a.tmps w) {v : AV} (e : run (opP E o) st = some (v, st')) : Did E Z B st a w o v st' := by
  unfold opP at e
  simp only [ho] at e
  obtain ⟨u1, st1, h1, ea⟩ := run_some e
  obtain ⟨rfl, v1⟩ := opd_sound r h1
  cases u1 with
  | ptr h g k i =>
    obtain ⟨c, st2, h2, eb⟩ := run_some ea
    obtain ⟨rfl, _, rfl⟩ := run_home h2
    obtain ⟨rfl, rfl⟩ := run_pure eb
    have v1' := v1
    obtain ⟨b, hb, e1⟩ := v1.2 rfl
    exact .pure r (val := a.eval x) (by unfold execOp; simp only [ho, e1]; rfl) v1'
  | eptr t y k =>
    obtain ⟨rfl, rfl⟩ := run_pure ea
    have v1' := v1
    obtain ⟨b, _, _, e1, _⟩ := v1
    exact .pure r (val := a.eval x) (by unfold execOp; simp only [ho, e1]; rfl) v1'
  | _ => cases ea

theorem convert_sound {o : Oper} {s t : TypeId} {x : Operand} (ho : o.op = .convert s t x) (r : Rel Z B st a.tmps w) {v : AV} (e : run (opP E o) st = some (v, st')) : Did E Z B st a w o v st' := by
  unfold opP at e
  simp only [ho] at e
  obtain ⟨u1, st1, h1, ea⟩ := run_some e
  obtain ⟨rfl, v1⟩ := opd_sound r h1
  split at ea
  · rename_i hs ht
    obtain ⟨rfl, rfl⟩ := run_pure ea
    have e1 := v1.int
    exact .pure r (by unfold execOp; simp [ho, e1, convert, run_underlying hs, run_underlying ht, Conv.intToInt]) (VR.ofInt _ _)
  · cases ea

/-! ### the fields of a thing -/
theorem F1.size {O : Nat → Prop} {f : AV} {cs : List Value} (h : F1 w O B st f cs) : cs.length = asize f := by
  cases f <;> first
    | exact Cells.len h
    | (obtain ⟨v, rfl, _⟩ := h; rfl)

theorem dropAt_sound {O : Nat → Prop} : ∀ {fs : List AV} {k : Nat} {r : List AV} {cs : List Value}, dropAt k fs = some r → Fs w O B st fs cs → ∃ c1 c2, cs = c1 ++ c2 ∧ c1.length = k ∧ Fs w O B st r c2
  | fs, 0, r, cs, h, hf => by
    have : r = fs := by cases fs <;> (simp only [dropAt, Option.some.injEq] at h; exact h.symm)
    subst this
    exact ⟨[], cs, rfl, rfl, hf⟩
  | [], k + 1, r, cs, h, hf => by simp [dropAt] at h
  | f :: fs, k + 1, r, cs, h, hf => by
    obtain ⟨c1, c2, rfl, h1, h2⟩ := hf
    simp only [dropAt] at h
    split at h
    · rename_i hb
      have hle := Nat.le_of_ble_eq_true hb
      obtain ⟨d1, d2, rfl, hd, hr⟩ := dropAt_sound h h2
      exact ⟨c1 ++ d1, d2, by simp, by rw [List.length_append, hd, h1.size]; omega, hr⟩
    · cases h

theorem takeAt_sound {O : Nat → Prop} : ∀ {fs : List AV} {k : Nat} {s : List AV} {cs : List Value}, takeAt k fs = some s → Fs w O B st fs cs → ∃ c1 c2 r, fs = s ++ r ∧ cs = c1 ++ c2 ∧ c1.length = k ∧ Fs w O B st s c1 ∧ Fs w O B st r c2
  | fs, 0, s, cs, h, hf => by
    have : s = [] := by cases fs <;> (simp only [takeAt, Option.some.injEq] at h; exact h.symm)
    subst this
    exact ⟨[], cs, fs, rfl, rfl, rfl, rfl, hf⟩
  | [], k + 1, s, cs, h, hf => by simp [takeAt] at h
  | f :: fs, k + 1, s, cs, h, hf => by
    obtain ⟨c1, c2, rfl, h1, h2⟩ := hf
    simp only [takeAt] at h
    split at h
    · rename_i hb
      have hle := Nat.le_of_ble_eq_true hb
      cases h' : takeAt (k + 1 - asize f) fs with
      | none => rw [h'] at h; cases h
      | some s' =>
        rw [h'] at h
        cases h
        obtain ⟨d1, d2, r, rfl, rfl, hd, hs, hr⟩ := takeAt_sound h' h2
        exact ⟨c1 ++ d1, d2, r, rfl, by simp, by rw [List.length_append, hd, h1.size]; omega, ⟨c1, d1, rfl, h1, hs⟩, hr⟩
    · cases h

theorem fits_leaf {O : Nat → Prop} {t : Ty} {f : AV} (hf : fits t f = true) (ht : isLeafTy t = true) {cs : List Value} (h : F1 w O B st f cs) : VR w O B st f (toV t cs) ∧ cs.length = t.size ∧ (t.isAgg = false → ∃ v, cs = [v]) := by
  cases f with
  | val s x =>
    simp only [fits, Bool.and_eq_true, decide_eq_true_eq] at hf
    obtain ⟨rfl, _⟩ := hf
    refine ⟨⟨cs, h, rfl⟩, Cells.len h, fun ha => ?_⟩
    have hl := Cells.len h
    cases s <;> simp [Ty.isAgg] at ha <;> exact List.length_eq_one_iff.1 hl
  | nils =>
    cases t <;> simp [fits] at hf
    obtain ⟨v, rfl, _, hv⟩ := h
    exact ⟨hv, rfl, fun _ => ⟨v, rfl⟩⟩
  | lref hh g s =>
    cases t <;> simp [fits] at hf
    obtain ⟨v, rfl, _, hv⟩ := h
    exact ⟨hv, rfl, fun _ => ⟨v, rfl⟩⟩
  | mref hh g =>
    cases t <;> simp [fits] at hf
    obtain ⟨v, rfl, _, hv⟩ := h
    exact ⟨hv, rfl, fun _ => ⟨v, rfl⟩⟩
  | _ => simp [fits] at hf

theorem partEl_sound {O : Nat → Prop} : ∀ {t : Ty} {x : El t} {j : Nat} {u : Ty} {y : El u} {cs : List Value}, partEl t x j u = some y → Cells w O t x cs → ∃ c1 d c2, cs = c1 ++ d ++ c2 ∧ c1.length = j ∧ Cells w O u y d := by
  intro t
  induction t with
  | pair p q ihp ihq =>
    intro x j u y cs h hc
    have h2 : (match Nat.blt j p.size with
      | true => partEl p x.1 j u
      | false => partEl q x.2 (j - p.size) u) = some y → ∃ c1 d c2, cs = c1 ++ d ++ c2 ∧ c1.length = j ∧ Cells w O u y d := by
      intro h
      obtain ⟨c1, c2, rfl, h1, h2⟩ := hc
      split at h
      · obtain ⟨d1, d, d2, rfl, hd, hy⟩ := ihp h h1
        exact ⟨d1, d, d2 ++ c2, by simp, hd, hy⟩
      · rename_i hb
        have hle : p.size ≤ j := by
          rcases Nat.lt_or_ge j p.size with h' | h'
          · have : Nat.blt j p.size = true := by rw [Nat.blt_eq]; exact h'
            rw [this] at hb; cases hb
          · exact h'
        obtain ⟨d1, d, d2, rfl, hd, hy⟩ := ihq h h2
        exact ⟨c1 ++ d1, d, d2, by simp, by rw [List.length_append, hd, h1.len]; omega, hy⟩
    unfold partEl at h
    split at h
    · rename_i hj hcst
      cases h
      obtain ⟨e, h3⟩ := castEl_some hcst
      subst e; subst h3
      have := Nat.eq_of_beq_eq_true hj
      subst this
      exact ⟨[], cs, [], by simp, rfl, hc⟩
    · exact h2 h
  | _ =>
    intro x j u y cs h hc
    unfold partEl at h
    split at h
    · rename_i hj
      obtain ⟨e, h3⟩ := castEl_some h
      subst e; subst h3
      have := Nat.eq_of_beq_eq_true hj
      subst this
      exact ⟨[], cs, [], by simp, rfl, hc⟩
    · cases h

/-- what lies at a place, loaded -/
theorem run_loadVar {t : TypeId} {ty : Ty} (ht : tyOf E.P t = some ty) {b o : Nat} {cs : List Value} (hl : Lies w b o cs) (hlen : cs.length = ty.size) (h1 : ty.isAgg = false → ∃ v, cs = [v]) :
    (loadVar t ⟨b, o, none⟩).run E.P w = .ok (toV ty cs) w := by
  unfold loadVar
  simp only [Sem.run_bind, run_isAgg ht, Result.andThen_ok]
  cases hg : ty.isAgg with
  | true =>
    simp only [if_true, Sem.run_bind, run_sizeOf ht, Result.andThen_ok]
    rw [← hlen, run_loadCells_list w ⟨b, o, none⟩ cs fun j v hj => by rw [Addr.add_lit]; exact hl j v hj]
    simp [toV, hg]
  | false =>
    obtain ⟨v, rfl⟩ := h1 hg
    have := hl 0 v rfl
    simp only [Nat.add_zero] at this
    simp [toV, hg, this]
end
end Go.Pv
