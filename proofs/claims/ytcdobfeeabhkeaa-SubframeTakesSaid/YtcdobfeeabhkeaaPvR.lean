/- Regions: one after another, and in any order. -/
import Derived.Test.YtcdobfeeabhkeaaPvQ
set_option autoImplicit false
set_option linter.unusedVariables false
set_option linter.unusedSimpArgs false
namespace Go.Pv

section
variable {E : Env} {Z M : Nat → Prop} {B : Nat → Option Nat} {st st' : St} {a : Act} {w w0 : World} {n : Nat} {pn : Nat → Option Nat}

theorem put_size (a : Act) (d : Option Tmp) (v : Value) : (a.put d v).tmps.size = a.tmps.size := by cases d <;> simp [Act.put]
theorem put_defers (a : Act) (d : Option Tmp) (v : Value) : (a.put d v).defers = a.defers := by cases d <;> rfl

theorem putDst_sound (hE : E.n = n) (i : Inv n pn Z M w0 B st a.tmps w) {d : Option Nat} {v : AV} {val : Value} (hv : VR w (Owned Z B st) B st v val) (e : run (putDst E d v) st = some ((), st')) : Inv n pn Z M w0 B st' (a.put d val).tmps w := by
  cases d with
  | none => obtain ⟨_, rfl⟩ := run_ret e; exact i
  | some t =>
    obtain ⟨_, st1, h1, h2⟩ := run_some e
    obtain ⟨hb, rfl⟩ := run_guard h1
    simp only [run, Option.some.injEq, Prod.mk.injEq, true_and] at h2
    subst h2
    have hlt : t < a.tmps.size := by rw [i.size, ← hE]; rw [Nat.blt_eq] at hb; exact hb
    exact ⟨i.rel.set hlt hv, i.tr, i.own, i.hz, by rw [put_size]; exact i.size, i.pin⟩

theorem guarded_wp (G : Good E) (hE : E.n = n) (i : Inv n pn Z M w0 B st a.tmps w) {o : Oper} (e : run (guarded E o true) st = some ((), st')) {K : Act → World → Prop} {Q : Exit → Act → World → Prop}
    (h : ∀ a' B' w', a'.defers = a.defers → Inv n pn Z M w0 B' st' a'.tmps w' → K a' w') : o.wp E.P a w K Q := by
  obtain ⟨v, st1, h1, h2⟩ := run_some e
  refine opP_wp G i.rel i.zlt h1 fun val B' w' hr hs ht hv => ?_
  have i' := i.next hr hs ht rfl
  exact h _ B' w' (put_defers _ _ _) (putDst_sound hE i' hv h2)

theorem undef_get {w : World} {O : Nat → Prop} : VR w O B st (.tup []) undef := ⟨#[], rfl, trivial⟩

theorem yielded_of (ops : Array Oper) (tm : Array Value) {j g : Nat} (hg : dstOf ops j = some g) {b : Bool} (h : tm.getD g undef = .bool b) : yielded ops tm j = some b := by
  unfold yielded
  unfold dstOf at hg
  rw [hg, Option.bind_some]
  rw [Array.getD_eq_getD_getElem?] at h
  cases ht : tm[g]? with
  | none => rw [ht] at h; cases h
  | some v => rw [ht, Option.getD_some] at h; rw [h]

theorem stepP_wp (G : Good E) (hE : E.n = n) (i : Inv n pn Z M w0 B st a.tmps w) {ops : Array Oper} {k : Nat} (e : run (stepP E ops k) st = some ((), st')) {K : Act → World → Prop} {Q : Exit → Act → World → Prop}
    (h : ∀ a' B' w', a'.defers = a.defers → Inv n pn Z M w0 B' st' a'.tmps w' → K a' w') : wpOp E.P ops Q k K a w := by
  unfold stepP at e
  unfold wpOp
  cases ho : ops[k]? with
  | none =>
    rw [ho] at e
    obtain ⟨_, rfl⟩ := run_ret e
    exact h a B w rfl i
  | some o =>
    rw [ho] at e
    dsimp only at e ⊢
    cases hg : o.guard with
    | none =>
      rw [hg] at e
      have hw : Region.wanted o (yielded ops a.tmps) = true := by unfold Region.wanted; rw [hg]
      rw [if_pos hw]
      exact .inl (guarded_wp G hE i e h)
    | some jw =>
      obtain ⟨j, want⟩ := jw
      rw [hg] at e
      dsimp only at e
      cases hd : dstOf ops j with
      | none => rw [hd] at e; cases e
      | some g =>
        rw [hd] at e
        simp only [run] at e
        have hvr := i.rel.vr g
        cases hgg : st.get g with
        | val t x =>
          cases t with
          | bool =>
            rw [hgg] at e hvr
            have hb := hvr.bool
            have e : (if (x : Bool) = true then run (guarded E o want) (st.set g (.val .bool true)) else run (guarded E o (!want)) (st.set g (.val .bool false))) = some ((), st') := e
            have hy := yielded_of ops a.tmps hd hb
            have hwt : Region.wanted o (yielded ops a.tmps) = (x == want) := by
              unfold Region.wanted; rw [hg]; dsimp only; rw [hy]; rfl
            have hin : Inv n pn Z M w0 B (st.set g (.val .bool x)) a.tmps w := ⟨i.rel.retell hvr, i.tr, i.own, i.hz, i.size, i.pin⟩
            have fin : ∀ go, go = (x == want) → run (guarded E o go) (st.set g (.val .bool x)) = some ((), st') → (if Region.wanted o (yielded ops a.tmps) = true then o.wp E.P a w K Q ∨ (o.asks E.P a w ∧ LetsOut Q) else K (a.put o.dst undef) w) := fun go hgo e => by
              rw [hwt, ← hgo]
              cases go with
              | true => rw [if_pos rfl]; exact .inl (guarded_wp G hE hin e h)
              | false =>
                rw [if_neg (by simp)]
                exact h _ B w (put_defers _ _ _) (putDst_sound hE hin undef_get e)
            cases x with
            | true => rw [if_pos rfl] at e; exact fin want (by cases want <;> rfl) e
            | false => rw [if_neg (by simp)] at e; exact fin (!want) (by cases want <;> rfl) e
          | _ => rw [hgg] at e; cases e
        | tup vs =>
          cases vs with
          | nil =>
            rw [hgg] at e hvr
            have e : run (guarded E o false) st = some ((), st') := e
            obtain ⟨arr, h1, h2⟩ := hvr
            have hy : yielded ops a.tmps j = none := by
              unfold yielded
              unfold dstOf at hd
              rw [hd, Option.bind_some]
              rw [Array.getD_eq_getD_getElem?] at h1
              cases ht : a.tmps[g]? with
              | none => rfl
              | some v => rw [ht, Option.getD_some] at h1; subst h1; rfl
            have hwt : Region.wanted o (yielded ops a.tmps) = false := by
              unfold Region.wanted; rw [hg]; dsimp only; rw [hy]; rfl
            rw [hwt, if_neg (by simp)]
            exact h _ B w (put_defers _ _ _) (putDst_sound hE i undef_get e)
          | cons _ _ => rw [hgg] at e; cases e
        | _ => rw [hgg] at e; cases e

/-- a list of operations, one after another -/
def Runs (E : Env) (ops : Array Oper) : List Nat → St → St → Prop
  | [], st, st' => st' = st
  | i :: l, st, st' => ∃ st1, run (stepP E ops i) st = some ((), st1) ∧ Runs E ops l st1 st'

theorem stepsP_runs {ops : Array Oper} : ∀ {l : List Nat} {st st' : St}, run (stepsP E ops l) st = some ((), st') → Runs E ops l st st'
  | [], _, _, e => (run_ret e).2
  | i :: l, _, _, e => by
    obtain ⟨_, st1, h1, h2⟩ := run_some e
    exact ⟨st1, h1, stepsP_runs h2⟩

theorem Runs.wp (G : Good E) (hE : E.n = n) {ops : Array Oper} {Q : Exit → Act → World → Prop} : ∀ {l : List Nat} {B : Nat → Option Nat} {st st' : St} {a : Act} {w : World} (i : Inv n pn Z M w0 B st a.tmps w) (e : Runs E ops l st st')
    (h : ∀ a' B' w', a'.defers = a.defers → Inv n pn Z M w0 B' st' a'.tmps w' → Q .normal a' w'), wpOps E.P ops Q l a w
  | [], B, _, _, a, w, i, e, h => by
    have e : _ = _ := e
    subst e
    exact h a B w rfl i
  | k :: l, _, _, _, _, _, i, ⟨st1, h1, h2⟩, h => by
    rw [wpOps_cons]
    exact stepP_wp G hE i h1 fun a' B' w' hd i' => Runs.wp G hE i' h2 fun a'' B'' w'' hd' i'' => h a'' B'' w'' (hd'.trans hd) i''

theorem Inv.drew (i : Inv n pn Z M w0 B st a.tmps w) : Inv n pn Z M w0 B st a.tmps { w with drawn := w.drawn + 1 } := by
  have t : Tr (fun _ => False) w { w with drawn := w.drawn + 1 } := ⟨Nat.le_refl _, fun _ _ _ => rfl, ⟨rfl, rfl, rfl⟩, fun _ _ _ _ h => h.elim⟩
  exact ⟨i.rel.grow t, i.tr.trans t (fun _ h => h) (fun _ _ h => h.elim), i.own, i.hz, i.size, i.pin⟩
end

/-! ### any order -/
def runL {α : Type} : Pr α → St → List Nat → List Nat → Option (α × St × List Nat × List Nat)
  | .ret a, st, rs, ws => some (a, st, rs, ws)
  | .fail, _, _, _ => none
  | .rd t k, st, rs, ws => runL (k (st.get t)) st ((2 * t) :: rs) ws
  | .wr t v k, st, rs, ws => runL k (st.set t v) rs ((2 * t) :: ws)
  | .rh h k, st, rs, ws => runL (k (st.gen h) (st.cont h)) st ((2 * h + 1) :: rs) ws
  | .wh h g c k, st, rs, ws => runL k (st.seth h g c) rs ((2 * h + 1) :: ws)
  | .opt o k, st, rs, ws => o.bind fun b => runL (k b) st rs ws
  | .br b x y, st, rs, ws => if b = true then runL x st rs ws else runL y st rs ws

theorem execL_runL {α R : Type} (p : Pr α) (st : St) (rs ws : List Nat) (K : α → St → List Nat → List Nat → Option R) : execL p st rs ws K = (runL p st rs ws).bind fun q => K q.1 q.2.1 q.2.2.1 q.2.2.2 := by
  induction p generalizing st rs ws with
  | ret a => rfl
  | fail => rfl
  | rd t k ih => exact ih _ _ _ _
  | wr t v k ih => exact ih _ _ _
  | rh h k ih => exact ih _ _ _ _ _
  | wh h g c k ih => exact ih _ _ _
  | opt o k ih => cases o with
    | none => rfl
    | some b => exact ih b _ _ _
  | br b x y ih1 ih2 =>
    simp only [execL, runL]
    cases b with
    | true => exact ih1 _ _ _
    | false => exact ih2 _ _ _

theorem runL_run {α : Type} (p : Pr α) (st : St) (rs ws : List Nat) : run p st = (runL p st rs ws).map fun q => (q.1, q.2.1) := by
  induction p generalizing st rs ws with
  | ret a => rfl
  | fail => rfl
  | rd t k ih => exact ih _ _ _ _
  | wr t v k ih => exact ih _ _ _
  | rh h k ih => exact ih _ _ _ _ _
  | wh h g c k ih => exact ih _ _ _
  | opt o k ih => cases o with
    | none => rfl
    | some b => exact ih b _ _ _
  | br b x y ih1 ih2 =>
    simp only [run, runL]
    cases b with
    | true => exact ih1 _ _ _
    | false => exact ih2 _ _ _

def agree (st st' : St) (x : Nat) : Prop := (∀ t, x = 2 * t → st.get t = st'.get t) ∧ (∀ h, x = 2 * h + 1 → st.gen h = st'.gen h ∧ st.cont h = st'.cont h)

theorem agree.refl (st : St) (x : Nat) : agree st st x := ⟨fun _ _ => rfl, fun _ _ => ⟨rfl, rfl⟩⟩
theorem agree.symm {st st' : St} {x : Nat} (h : agree st st' x) : agree st' st x := ⟨fun t e => (h.1 t e).symm, fun k e => ⟨(h.2 k e).1.symm, (h.2 k e).2.symm⟩⟩
theorem agree.trans {st st1 st' : St} {x : Nat} (h : agree st st1 x) (g : agree st1 st' x) : agree st st' x :=
  ⟨fun t e => (h.1 t e).trans (g.1 t e), fun k e => ⟨(h.2 k e).1.trans (g.2 k e).1, (h.2 k e).2.trans (g.2 k e).2⟩⟩

theorem agree.set {st st' : St} {x : Nat} (t : Nat) (v : AV) (h : x ≠ 2 * t → agree st st' x) : agree (st.set t v) (st'.set t v) x := by
  refine ⟨fun u e => ?_, fun k e => ?_⟩
  · rw [get_set, get_set]
    by_cases e1 : t = u
    · simp [e1]
    · simp only [e1, if_false]; exact (h (by omega)).1 u e
  · exact (h (by omega)).2 k e
theorem agree.seth {st st' : St} {x : Nat} (k g : Nat) (c : AV) (h : x ≠ 2 * k + 1 → agree st st' x) : agree (st.seth k g c) (st'.seth k g c) x := by
  refine ⟨fun u e => ?_, fun k' e => ?_⟩
  · exact (h (by omega)).1 u e
  · rw [gen_seth, gen_seth, cont_seth, cont_seth]
    by_cases e1 : k = k'
    · simp [e1]
    · simp only [e1, if_false]; exact (h (by omega)).2 k' e
theorem agree.set_off (st : St) {x : Nat} (t : Nat) (v : AV) (h : x ≠ 2 * t) : agree st (st.set t v) x := by
  refine ⟨fun u e => ?_, fun k e => ⟨rfl, rfl⟩⟩
  rw [get_set, if_neg (by omega)]
theorem agree.seth_off (st : St) {x : Nat} (k g : Nat) (c : AV) (h : x ≠ 2 * k + 1) : agree st (st.seth k g c) x := by
  refine ⟨fun u e => rfl, fun k' e => ?_⟩
  rw [gen_seth, cont_seth, if_neg (by omega), if_neg (by omega)]
  exact ⟨rfl, rfl⟩

theorem loc {α : Type} {p : Pr α} : ∀ {st : St} {rs ws : List Nat} {a : α} {st1 : St} {rs1 ws1 : List Nat}, runL p st rs ws = some (a, st1, rs1, ws1) →
    (∀ x ∈ rs, x ∈ rs1) ∧ (∀ x ∈ ws, x ∈ ws1) ∧ (∀ x, x ∉ ws1 → agree st st1 x) ∧
      ∀ st', (∀ x ∈ rs1, agree st st' x) → ∃ st1', runL p st' rs ws = some (a, st1', rs1, ws1) ∧ (∀ x, agree st st' x → agree st1 st1' x) ∧ (∀ x, x ∉ ws1 → agree st' st1' x) ∧ (∀ x ∈ ws1, (x ∈ ws → agree st st' x) → agree st1 st1' x) := by
  induction p with
  | ret a =>
    intro st rs ws b st1 rs1 ws1 e
    simp only [runL, Option.some.injEq, Prod.mk.injEq] at e
    obtain ⟨rfl, rfl, rfl, rfl⟩ := e
    exact ⟨fun _ h => h, fun _ h => h, fun x _ => .refl _ x, fun st' h => ⟨st', rfl, fun _ h => h, fun x _ => .refl _ x, fun x hx hw => hw hx⟩⟩
  | fail => intro st rs ws b st1 rs1 ws1 e; cases e
  | rd t k ih =>
    intro st rs ws b st1 rs1 ws1 e
    obtain ⟨h1, h2, h3, h4⟩ := ih _ e
    refine ⟨fun x hx => h1 x (List.mem_cons_of_mem _ hx), h2, h3, fun st' h => ?_⟩
    have ht : st.get t = st'.get t := (h (2 * t) (h1 _ List.mem_cons_self)).1 t rfl
    obtain ⟨st1', g1, g2⟩ := h4 st' h
    exact ⟨st1', by simp only [runL]; rw [← ht]; exact g1, g2⟩
  | wr t v k ih =>
    intro st rs ws b st1 rs1 ws1 e
    obtain ⟨h1, h2, h3, h4⟩ := ih e
    have hin := h2 (2 * t) List.mem_cons_self
    refine ⟨h1, fun x hx => h2 x (List.mem_cons_of_mem _ hx), fun x hx => (agree.set_off st t v fun (e : x = _) => hx (by rw [e]; exact hin)).trans (h3 x hx), fun st' h => ?_⟩
    obtain ⟨st1', g1, g2, g3, g4⟩ := h4 (st'.set t v) fun x hx => agree.set t v fun _ => h x hx
    refine ⟨st1', g1, fun x hx => g2 x (agree.set t v fun _ => hx), fun x hx => (agree.set_off st' t v fun (e : x = _) => hx (by rw [e]; exact hin)).trans (g3 x hx), fun x hx hw => g4 x hx fun hm => ?_⟩
    exact agree.set t v fun hne => hw ((List.mem_cons.1 hm).resolve_left hne)
  | rh k f ih =>
    intro st rs ws b st1 rs1 ws1 e
    obtain ⟨h1, h2, h3, h4⟩ := ih _ _ e
    refine ⟨fun x hx => h1 x (List.mem_cons_of_mem _ hx), h2, h3, fun st' h => ?_⟩
    have ht := (h (2 * k + 1) (h1 _ List.mem_cons_self)).2 k rfl
    obtain ⟨st1', g1, g2⟩ := h4 st' h
    exact ⟨st1', by simp only [runL]; rw [← ht.1, ← ht.2]; exact g1, g2⟩
  | wh k g c f ih =>
    intro st rs ws b st1 rs1 ws1 e
    obtain ⟨h1, h2, h3, h4⟩ := ih e
    have hin := h2 (2 * k + 1) List.mem_cons_self
    refine ⟨h1, fun x hx => h2 x (List.mem_cons_of_mem _ hx), fun x hx => (agree.seth_off st k g c fun (e : x = _) => hx (by rw [e]; exact hin)).trans (h3 x hx), fun st' h => ?_⟩
    obtain ⟨st1', g1, g2, g3, g4⟩ := h4 (st'.seth k g c) fun x hx => agree.seth k g c fun _ => h x hx
    refine ⟨st1', g1, fun x hx => g2 x (agree.seth k g c fun _ => hx), fun x hx => (agree.seth_off st' k g c fun (e : x = _) => hx (by rw [e]; exact hin)).trans (g3 x hx), fun x hx hw => g4 x hx fun hm => ?_⟩
    exact agree.seth k g c fun hne => hw ((List.mem_cons.1 hm).resolve_left hne)
  | opt o k ih =>
    intro st rs ws b st1 rs1 ws1 e
    cases o with
    | none => cases e
    | some c => exact ih c e
  | br c x y ih1 ih2 =>
    intro st rs ws b st1 rs1 ws1 e
    cases c with
    | true => simp only [runL, if_true] at e ⊢; exact ih1 e
    | false => simp only [runL, Bool.false_eq_true, if_false] at e ⊢; exact ih2 e

/-- one operation, with its places -/
def stepR (E : Env) (ops : Array Oper) (i : Nat) (st : St) : Option (St × List Nat × List Nat) :=
  stepL E ops i st fun st' rs ws => some (st', rs, ws)

theorem stepL_R {R : Type} (E : Env) (ops : Array Oper) (i : Nat) (st : St) (K : St → List Nat → List Nat → Option R) : stepL E ops i st K = (stepR E ops i st).bind fun q => K q.1 q.2.1 q.2.2 := by
  unfold stepR stepL
  cases ops[i]? with
  | none => rfl
  | some o =>
    dsimp only
    cases o.guard with
    | none =>
      dsimp only
      rw [execL_runL, execL_runL]
      cases runL (guarded E o true) st [] [] <;> rfl
    | some jw =>
      dsimp only
      cases dstOf ops jw.1 with
      | none => rfl
      | some g =>
        dsimp only
        split
        · split
          · rw [execL_runL, execL_runL]
            cases runL (guarded E o _) _ _ [] <;> rfl
          · rw [execL_runL, execL_runL]
            cases runL (guarded E o _) _ _ [] <;> rfl
        · rw [execL_runL, execL_runL]
          cases runL (guarded E o _) _ _ [] <;> rfl
        · rfl

theorem stepR_run {E : Env} {ops : Array Oper} {i : Nat} {st st' : St} {rs ws : List Nat} (h : stepR E ops i st = some (st', rs, ws)) : run (stepP E ops i) st = some ((), st') := by
  unfold stepR stepL at h
  unfold stepP
  cases ho : ops[i]? with
  | none =>
    rw [ho] at h
    simp only [Option.some.injEq, Prod.mk.injEq] at h
    obtain ⟨rfl, _⟩ := h
    rfl
  | some o =>
    rw [ho] at h
    dsimp only at h ⊢
    cases hg : o.guard with
    | none =>
      rw [hg] at h
      dsimp only at h ⊢
      rw [execL_runL] at h
      obtain ⟨q, h1, h2⟩ := Option.bind_eq_some_iff.1 h
      simp only [Option.some.injEq, Prod.mk.injEq] at h2
      rw [runL_run _ _ [] [], h1]
      obtain ⟨rfl, _⟩ := h2
      rfl
    | some jw =>
      obtain ⟨j, want⟩ := jw
      rw [hg] at h
      dsimp only at h ⊢
      cases hd : dstOf ops j with
      | none => rw [hd] at h; cases h
      | some g =>
        rw [hd] at h
        dsimp only at h ⊢
        simp only [run]
        cases hgg : st.get g with
        | val t x =>
          cases t with
          | bool =>
            rw [hgg] at h
            dsimp only at h ⊢
            simp only [run]
            cases x with
            | true =>
              rw [if_pos rfl] at h ⊢
              rw [execL_runL] at h
              obtain ⟨q, h1, h2⟩ := Option.bind_eq_some_iff.1 h
              simp only [Option.some.injEq, Prod.mk.injEq] at h2
              rw [runL_run _ _ [2 * g] [], h1]
              obtain ⟨rfl, _⟩ := h2
              rfl
            | false =>
              rw [if_neg (by simp)] at h ⊢
              rw [execL_runL] at h
              obtain ⟨q, h1, h2⟩ := Option.bind_eq_some_iff.1 h
              simp only [Option.some.injEq, Prod.mk.injEq] at h2
              rw [runL_run _ _ [2 * g] [], h1]
              obtain ⟨rfl, _⟩ := h2
              rfl
          | _ => rw [hgg] at h; cases h
        | tup vs =>
          cases vs with
          | nil =>
            rw [hgg] at h
            dsimp only at h ⊢
            rw [execL_runL] at h
            obtain ⟨q, h1, h2⟩ := Option.bind_eq_some_iff.1 h
            simp only [Option.some.injEq, Prod.mk.injEq] at h2
            rw [runL_run _ _ [2 * g] [], h1]
            obtain ⟨rfl, _⟩ := h2
            rfl
          | cons _ _ => rw [hgg] at h; cases h
        | _ => rw [hgg] at h; cases h

theorem agree.retell {st : St} {g : Nat} {v : AV} (h : st.get g = v) (x : Nat) : agree st (st.set g v) x := by
  refine ⟨fun u e => ?_, fun k e => ⟨rfl, rfl⟩⟩
  rw [get_set]; split
  · rename_i e1; subst e1; exact h
  · rfl

theorem stepR_loc {E : Env} {ops : Array Oper} {i : Nat} {st st1 : St} {rs ws : List Nat} (h : stepR E ops i st = some (st1, rs, ws)) :
    (∀ x, x ∉ ws → agree st st1 x) ∧ ∀ st', (∀ x ∈ rs, agree st st' x) → ∃ st1', stepR E ops i st' = some (st1', rs, ws) ∧ (∀ x, agree st st' x → agree st1 st1' x) ∧ (∀ x, x ∉ ws → agree st' st1' x) ∧ (∀ x ∈ ws, agree st1 st1' x) := by
  unfold stepR stepL at h ⊢
  cases ho : ops[i]? with
  | none =>
    rw [ho] at h
    simp only [Option.some.injEq, Prod.mk.injEq] at h
    obtain ⟨rfl, rfl, rfl⟩ := h
    exact ⟨fun x _ => .refl _ x, fun st' h => ⟨st', rfl, fun _ h => h, fun x _ => .refl _ x, fun x hx => by cases hx⟩⟩
  | some o =>
    rw [ho] at h
    dsimp only at h ⊢
    cases hg : o.guard with
    | none =>
      rw [hg] at h
      dsimp only at h ⊢
      rw [execL_runL] at h
      obtain ⟨⟨u, s1, r1, w1⟩, h1, h2⟩ := Option.bind_eq_some_iff.1 h
      simp only [Option.some.injEq, Prod.mk.injEq] at h2
      obtain ⟨rfl, rfl, rfl⟩ := h2
      obtain ⟨_, _, l3, l4⟩ := loc h1
      refine ⟨l3, fun st' hs => ?_⟩
      obtain ⟨st1', g1, g2, g3, g4⟩ := l4 st' hs
      exact ⟨st1', by rw [execL_runL, g1]; rfl, g2, g3, fun x hx => g4 x hx fun h => by cases h⟩
    | some jw =>
      obtain ⟨j, want⟩ := jw
      rw [hg] at h
      dsimp only at h ⊢
      cases hd : dstOf ops j with
      | none => rw [hd] at h; cases h
      | some g =>
        rw [hd] at h
        dsimp only at h ⊢
        cases hgg : st.get g with
        | val t x =>
          cases t with
          | bool =>
            rw [hgg] at h
            dsimp only at h ⊢
            have key : ∀ go, execL (guarded E o go) (st.set g (.val .bool x)) [2 * g] [] (fun _ st rs ws => some (st, rs, ws)) = some (st1, rs, ws) →
                (∀ x, x ∉ ws → agree st st1 x) ∧ ∀ st', (∀ x ∈ rs, agree st st' x) → st'.get g = .val .bool x ∧ ∃ st1', execL (guarded E o go) (st'.set g (.val .bool x)) [2 * g] [] (fun _ st rs ws => some (st, rs, ws)) = some (st1', rs, ws) ∧ (∀ x, agree st st' x → agree st1 st1' x) ∧ (∀ x, x ∉ ws → agree st' st1' x) ∧ (∀ x ∈ ws, agree st1 st1' x) := fun go h => by
              rw [execL_runL] at h
              obtain ⟨⟨u, s1, r1, w1⟩, h1, h2⟩ := Option.bind_eq_some_iff.1 h
              simp only [Option.some.injEq, Prod.mk.injEq] at h2
              obtain ⟨rfl, rfl, rfl⟩ := h2
              obtain ⟨l1, _, l3, l4⟩ := loc h1
              refine ⟨fun y hy => (agree.retell hgg y).trans (l3 y hy), fun st' hs => ?_⟩
              have hg' : st'.get g = .val .bool x := by rw [← (hs (2 * g) (l1 _ List.mem_cons_self)).1 g rfl]; exact hgg
              obtain ⟨st1', g1, g2, g3, g4⟩ := l4 (st'.set g (.val .bool x)) fun y hy => agree.set g _ fun _ => hs y hy
              exact ⟨hg', st1', by rw [execL_runL, g1]; rfl, fun y hy => g2 y (agree.set g _ fun _ => hy), fun y hy => (agree.retell hg' y).trans (g3 y hy), fun y hy => g4 y hy fun h => by cases h⟩
            cases x with
            | true =>
              rw [if_pos rfl] at h
              obtain ⟨k1, k2⟩ := key want h
              refine ⟨k1, fun st' hs => ?_⟩
              obtain ⟨e1, st1', e2, e3⟩ := k2 st' hs
              exact ⟨st1', by rw [e1]; dsimp only; rw [if_pos rfl]; exact e2, e3⟩
            | false =>
              rw [if_neg (by simp)] at h
              obtain ⟨k1, k2⟩ := key (!want) h
              refine ⟨k1, fun st' hs => ?_⟩
              obtain ⟨e1, st1', e2, e3⟩ := k2 st' hs
              exact ⟨st1', by rw [e1]; dsimp only; rw [if_neg (by simp)]; exact e2, e3⟩
          | _ => rw [hgg] at h; cases h
        | tup vs =>
          cases vs with
          | nil =>
            rw [hgg] at h
            dsimp only at h
            rw [execL_runL] at h
            obtain ⟨⟨u, s1, r1, w1⟩, h1, h2⟩ := Option.bind_eq_some_iff.1 h
            simp only [Option.some.injEq, Prod.mk.injEq] at h2
            obtain ⟨rfl, rfl, rfl⟩ := h2
            obtain ⟨l1, _, l3, l4⟩ := loc h1
            refine ⟨l3, fun st' hs => ?_⟩
            have hg' : st'.get g = .tup [] := by rw [← (hs (2 * g) (l1 _ List.mem_cons_self)).1 g rfl]; exact hgg
            obtain ⟨st1', g1, g2, g3, g4⟩ := l4 st' hs
            exact ⟨st1', by rw [hg']; dsimp only; rw [execL_runL, g1]; rfl, g2, g3, fun y hy => g4 y hy fun h => by cases h⟩
          | cons _ _ => rw [hgg] at h; cases h
        | _ => rw [hgg] at h; cases h

def sim (st st' : St) : Prop := ∀ x, agree st st' x

abbrev Log := Nat × List Nat × List Nat
def Apart (a b : Log) : Prop := (∀ x ∈ a.2.2, x ∉ b.2.1 ∧ x ∉ b.2.2) ∧ ∀ x ∈ b.2.2, x ∉ a.2.1

/-- a list of operations, with their places -/
def RunsL (E : Env) (ops : Array Oper) : List Log → St → St → Prop
  | [], st, st' => sim st st'
  | p :: l, st, st' => ∃ st1, stepR E ops p.1 st = some (st1, p.2.1, p.2.2) ∧ RunsL E ops l st1 st'

theorem RunsL.sim {E : Env} {ops : Array Oper} : ∀ {l : List Log} {st st1 st' : St}, RunsL E ops l st st' → sim st st1 → RunsL E ops l st1 st'
  | [], _, _, _, h, s => fun x => (s x).symm.trans (h x)
  | p :: l, _, st1, _, ⟨st2, h1, h2⟩, s => by
    obtain ⟨s1, g1, g2, _⟩ := (stepR_loc h1).2 st1 fun x _ => s x
    exact ⟨s1, g1, RunsL.sim h2 fun x => g2 x (s x)⟩

theorem RunsL.swap {E : Env} {ops : Array Oper} {p q : Log} (h : Apart p q) {l : List Log} {st st' : St} (r : RunsL E ops (p :: q :: l) st st') : RunsL E ops (q :: p :: l) st st' := by
  obtain ⟨st1, h1, st2, h2, h3⟩ := r
  obtain ⟨p1, p2⟩ := stepR_loc h1
  obtain ⟨q1, q2⟩ := stepR_loc h2
  obtain ⟨s1, g1, g2, g3, g4⟩ := q2 st fun x hx => (p1 x fun hw => (h.1 x hw).1 hx).symm
  obtain ⟨s2, f1, f2, f3, f4⟩ := p2 s1 fun x hx => g3 x fun hw => h.2 x hw hx
  refine ⟨s1, g1, s2, f1, h3.sim fun x => ?_⟩
  by_cases hp : x ∈ p.2.2
  · exact (q1 x (h.1 x hp).2).symm.trans (f4 x hp)
  · have a1 := f3 x hp
    by_cases hq : x ∈ q.2.2
    · exact (g4 x hq).trans a1
    · exact ((q1 x hq).symm.trans ((p1 x hp).symm.trans (g3 x hq))).trans a1

theorem RunsL.front {E : Env} {ops : Array Oper} {p : Log} : ∀ {l1 l2 : List Log} {st st' : St}, (∀ q ∈ l1, Apart q p) → RunsL E ops (l1 ++ p :: l2) st st' → RunsL E ops (p :: (l1 ++ l2)) st st'
  | [], _, _, _, _, r => r
  | q :: l1, l2, st, st', h, ⟨st1, h1, h2⟩ => by
    have := RunsL.front (fun q hq => h q (List.mem_cons_of_mem _ hq)) h2
    exact RunsL.swap (h q List.mem_cons_self) ⟨st1, h1, this⟩
end Go.Pv
