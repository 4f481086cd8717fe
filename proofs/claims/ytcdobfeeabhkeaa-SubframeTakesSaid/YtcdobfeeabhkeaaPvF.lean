/- What the readings of operands and the handing on of what is one's own leave standing. -/
import Derived.Test.YtcdobfeeabhkeaaPvE
set_option autoImplicit false
set_option linter.unusedVariables false
set_option linter.unusedSimpArgs false
namespace Go.Pv

def run {α : Type} : Pr α → St → Option (α × St)
  | .ret a, st => some (a, st)
  | .fail, _ => none
  | .rd t k, st => run (k (st.get t)) st
  | .wr t v k, st => run k (st.set t v)
  | .rh h k, st => run (k (st.gen h) (st.cont h)) st
  | .wh h g c k, st => run k (st.seth h g c)
  | .opt o k, st => o.bind fun b => run (k b) st
  | .br b x y, st => if b = true then run x st else run y st

theorem run_bind' {α β : Type} (x : Pr α) (f : α → Pr β) (st : St) : run (Pr.bind x f) st = (run x st).bind fun p => run (f p.1) p.2 := by
  induction x generalizing st with
  | ret a => rfl
  | fail => rfl
  | rd t k ih => simp only [Pr.bind, run]; exact ih _ _
  | wr t v k ih => simp only [Pr.bind, run]; exact ih _
  | rh h k ih => simp only [Pr.bind, run]; exact ih _ _ _
  | wh h g c k ih => simp only [Pr.bind, run]; exact ih _
  | opt o k ih =>
    simp only [Pr.bind, run]
    cases o with
    | none => rfl
    | some b => exact ih b st
  | br b x y ihx ihy => simp only [Pr.bind, run]; split
                        · exact ihx _
                        · exact ihy _

theorem run_bind {α β : Type} (x : Pr α) (f : α → Pr β) (st : St) : run (x >>= f) st = (run x st).bind fun p => run (f p.1) p.2 := run_bind' x f st

theorem run_some {α β : Type} {x : Pr α} {f : α → Pr β} {st : St} {r : β × St} (h : run (x >>= f) st = some r) : ∃ a st1, run x st = some (a, st1) ∧ run (f a) st1 = some r := by
  rw [run_bind] at h
  cases hx : run x st with
  | none => rw [hx] at h; cases h
  | some p => rw [hx] at h; exact ⟨p.1, p.2, rfl, h⟩

theorem exec_run {α R : Type} (p : Pr α) (st : St) (K : α → St → Option R) : exec p st K = (run p st).bind fun q => K q.1 q.2 := by
  induction p generalizing st with
  | ret a => rfl
  | fail => rfl
  | rd t k ih => simp only [exec, run]; exact ih _ _
  | wr t v k ih => simp only [exec, run]; exact ih _
  | rh h k ih => simp only [exec, run]; exact ih _ _ _
  | wh h g c k ih => simp only [exec, run]; exact ih _
  | opt o k ih =>
    simp only [exec, run]
    cases o with
    | none => rfl
    | some b => exact ih b st
  | br b x y ihx ihy => simp only [exec, run]; split
                        · exact ihx _
                        · exact ihy _

theorem run_lift {α : Type} {o : Option α} {st st' : St} {a : α} (h : run (lift o) st = some (a, st')) : o = some a ∧ st' = st := by
  cases o with
  | none => cases h
  | some b => simp only [lift, run, Option.some.injEq, Prod.mk.injEq] at h; exact ⟨by rw [h.1], h.2.symm⟩

theorem run_ask {α : Type} {o : Option α} {st st' : St} {a : α} (h : run (ask o) st = some (a, st')) : o = some a ∧ st' = st := by
  cases o with
  | none => cases h
  | some b => simp only [ask, run, Option.bind_some, Option.some.injEq, Prod.mk.injEq] at h; exact ⟨by rw [h.1], h.2.symm⟩

theorem run_guard {b : Bool} {st st' : St} {u : Unit} (h : run (guardB b) st = some (u, st')) : b = true ∧ st' = st := by
  cases b with
  | false => cases h
  | true => simp only [guardB, run, Option.some.injEq, Prod.mk.injEq] at h; exact ⟨rfl, h.2.symm⟩

theorem run_pure {α : Type} {a b : α} {st st' : St} (h : run (pure a : Pr α) st = some (b, st')) : b = a ∧ st' = st := by
  have h : some (a, st) = some (b, st') := h
  simp only [Option.some.injEq, Prod.mk.injEq] at h; exact ⟨h.1.symm, h.2.symm⟩

theorem run_ret {α : Type} {a b : α} {st st' : St} (h : run (.ret a : Pr α) st = some (b, st')) : b = a ∧ st' = st := run_pure h

theorem run_home {h g : Nat} {st st' : St} {c : AV} (e : run (home h g) st = some (c, st')) : g = st.gen h ∧ c = st.cont h ∧ st' = st := by
  simp only [home, run] at e
  cases hb : Nat.beq g (st.gen h) with
  | false => rw [hb] at e; cases e
  | true =>
    rw [hb] at e
    simp only [run, Option.some.injEq, Prod.mk.injEq] at e
    exact ⟨Nat.eq_of_beq_eq_true hb, e.1.symm, e.2.symm⟩

theorem castEl_some {s t : Ty} {x : El s} {y : El t} (h : castEl t x = some y) : ∃ e : s = t, e ▸ x = y := by
  unfold castEl at h
  split at h
  · rename_i e; exact ⟨e, Option.some.inj h⟩
  · cases h

theorem Stay.refl {Z : Nat → Prop} {B : Nat → Option Nat} {st : St} {w : World} : Stay w w (Owned Z B st) (Owned Z B st) B B st st :=
  Stay.grow (Tr.refl _ _)

theorem Stay.trans {w w1 w2 : World} {O O1 O2 : Nat → Prop} {B B1 B2 : Nat → Option Nat} {st st1 st2 : St} (a : Stay w w1 O O1 B B1 st st1) (b : Stay w1 w2 O1 O2 B1 B2 st1 st2) : Stay w w2 O O2 B B2 st st2 := by
  refine ⟨Nat.le_trans a.size b.size, fun x hx hO => ?_, fun x hx hO => a.sub x hx (b.sub x (Nat.lt_of_lt_of_le hx a.size) hO), fun h => (a.gen h).trans (b.gen h), fun h e => ?_, fun x arr e h => ?_⟩
  · rw [b.same x (Nat.lt_of_lt_of_le hx a.size) (fun h => hO (a.sub x hx h)), a.same x hx hO]
  · have h1 := (a.gen h).le
    have h2 := (b.gen h).le
    obtain ⟨e1, c1⟩ := a.hk h (by omega)
    obtain ⟨e2, c2⟩ := b.hk h (by omega)
    refine ⟨e2.trans e1, fun t l hl => ?_⟩
    obtain ⟨l1, h1, g1⟩ := c2 t l hl
    obtain ⟨l0, h0, g0⟩ := c1 t l1 h1
    exact ⟨l0, h0, g1.trans g0⟩
  · obtain ⟨arr1, h1, s1⟩ := a.rows x arr e h
    obtain ⟨arr2, h2, s2⟩ := b.rows x arr1 e h1
    exact ⟨arr2, h2, s2.trans s1⟩

theorem listAt_st {st st' : St} {u : Ty} {a : AV} {l : List (El u)} (h : run (listAt u a) st = some (l, st')) : st' = st := by
  cases a with
  | nils => exact (run_ret h).2
  | val s x => exact (run_lift h).2
  | lref hh g s =>
    obtain ⟨c, st3, g1, g2⟩ := run_some h
    obtain ⟨rfl, rfl, rfl⟩ := run_home g1
    generalize st3.cont hh = c at g2
    cases c with
    | own t l0 =>
      obtain ⟨l', st2, h3, h4⟩ := run_some g2
      obtain ⟨h5, rfl⟩ := run_lift h3
      exact (run_pure h4).2
    | val t x =>
      cases t <;>
        (obtain ⟨l', st2, h3, h4⟩ := run_some g2
         obtain ⟨h5, rfl⟩ := run_lift h3
         exact (run_pure h4).2)
    | _ => cases g2
  | _ => cases h

/-- a list that is read off a slice's header -/
def Reads (w : World) (O : Nat → Prop) (u : Ty) (l : List (El u)) (v : Value) : Prop :=
  ∃ a c, v = .slice a l.length c ∧ l.length ≤ c ∧ (l = [] ∨ ∃ b off ds, a = some ⟨b, off, none⟩ ∧ b < w.heap.size ∧ Lies w b off ds ∧ Row (Cells w O u) l ds)

theorem toV_leaf {t : Ty} (h : t.isAgg = false) (v : Value) : toV t [v] = v := by unfold toV; rw [h]; rfl

section
variable {Z : Nat → Prop} {B : Nat → Option Nat} {st st' : St} {tm : Array Value} {w : World}

theorem opd_sound {a : Act} (r : Rel Z B st a.tmps w) {x : Operand} {v : AV} (h : run (opd x) st = some (v, st')) : st' = st ∧ VR w (Owned Z B st) B st v (a.eval x) := by
  unfold opd at h
  split at h <;> simp only [run, Option.some.injEq, Prod.mk.injEq, reduceCtorEq] at h <;> (try obtain ⟨rfl, rfl⟩ := h)
  · exact ⟨rfl, r.vr _⟩
  · exact ⟨rfl, [_], rfl, rfl⟩
  · exact ⟨rfl, [_], rfl, rfl⟩
  · exact ⟨rfl, [_], rfl, rfl⟩
  · exact ⟨rfl, rfl⟩
  · exact ⟨rfl, rfl⟩
  · exact ⟨rfl, trivial⟩
  · exact ⟨rfl, [_], ⟨#[], #[], rfl, fun _ => rfl, (fun h => by cases h), fun _ => rfl, (fun h => by cases h)⟩, rfl⟩

theorem Lies.of_heap {w : World} {b : Nat} {arr : Array Value} {e : TypeId} {c1 d c2 : List Value} (h : w.heap[b]? = some (.cells arr e (0, 0))) (ha : arr.toList = c1 ++ d ++ c2) : Lies w b c1.length d := by
  intro j v hv
  have hj : j < d.length := by
    rcases Nat.lt_or_ge j d.length with h1 | h1
    · exact h1
    · rw [List.getElem?_eq_none h1] at hv; cases hv
  simp only [World.cell?, h]
  rw [← Array.getElem?_toList, ha, List.append_assoc, List.getElem?_append_right (by omega)]
  rw [List.getElem?_append_left (by omega)]
  simpa using hv

theorem listAt_sound (r : Rel Z B st tm w) {u : Ty} {a : AV} {v : Value} (hv : VR w (Owned Z B st) B st a v) {l : List (El u)} (h : run (listAt u a) st = some (l, st')) :
    st' = st ∧ Reads w (Owned Z B st) u l v := by
  cases a with
  | nils =>
    obtain ⟨rfl, rfl⟩ := run_ret h
    cases hv
    exact ⟨rfl, none, 0, rfl, Nat.le_refl _, .inl rfl⟩
  | val s x =>
    obtain ⟨e, rfl⟩ := run_lift h
    obtain ⟨rfl, rfl⟩ := castEl_some e
    obtain ⟨cs, ⟨a, c, rfl, h1, h2⟩, rfl⟩ := hv
    refine ⟨rfl, a, c, toV_leaf rfl _, h1, ?_⟩
    rcases h2 with h2 | ⟨b, off, ds, g1, g2, g3, g4, g5⟩
    · exact .inl h2
    · exact .inr ⟨b, off, ds, g1, g3, g4, g5⟩
  | lref hh g s =>
    obtain ⟨c, st1, h1, h2⟩ := run_some h
    obtain ⟨rfl, rfl, rfl⟩ := run_home h1
    have hr := r.hr hh
    obtain ⟨_, hv⟩ := hv
    have hv := hv rfl
    have key : ∀ (t : Ty) (l0 : List (El t)), asList (st1.cont hh) = some ⟨t, l0⟩ → Blk w (Owned Z B st1) (B hh) t l0 → Reads w (Owned Z B st1) t (view l0 s) v := by
      intro t l0 ha hb
      obtain ⟨hb1, a, cc, rfl, hc1, hc2⟩ := hv t l0 ha
      have hlen : (view l0 s).length = sLen l0.length s := by
        cases s with
        | none => rfl
        | some p => obtain ⟨o, n⟩ := p; simp only [view, sLen, sOff] at *; rw [List.length_take, List.length_drop]; omega
      refine ⟨a, cc, by rw [hlen], by rw [hlen]; exact hc1, ?_⟩
      by_cases hz : sLen l0.length s = 0
      · left; exact List.eq_nil_of_length_eq_zero (by rw [hlen, hz])
      · rcases hc2 with hc2 | ⟨b, arr, e, k1, k2, k3, k4⟩
        · omega
        · right
          rcases hb with hb | ⟨b', arr', e', cs, rest, m1, m2, m3, m4⟩
          · rw [hb.1] at k1; cases k1
          · rw [k1] at m1; cases m1
            rw [k3] at m2; cases m2
            obtain ⟨c1, d, c2, n1, n2, n3, n4⟩ := m4.take (sOff s) (sLen l0.length s)
            refine ⟨b, c1.length, d, ?_, lt_of_get k3, Lies.of_heap k3 (c2 := c2 ++ rest) (by rw [m3, n1]; simp), ?_⟩
            · rw [k2, n2.len fun _ _ h => h.len, List.length_take, Nat.min_eq_left (by omega)]
            · cases s with
              | none => simpa [view, sOff, sLen] using n3
              | some p => exact n3
    generalize hcc : st1.cont hh = c at h2 hr key
    cases c with
    | own t l0 =>
      obtain ⟨l', st2, h3, h4⟩ := run_some h2
      obtain ⟨h5, rfl⟩ := run_lift h3
      obtain ⟨h6, rfl⟩ := run_pure h4
      obtain ⟨e, h7⟩ := castEl_some h5
      cases e; subst h7; subst h6
      exact ⟨rfl, key _ _ rfl hr⟩
    | val t x =>
      cases t with
      | slice t =>
        obtain ⟨l', st2, h3, h4⟩ := run_some h2
        obtain ⟨h5, rfl⟩ := run_lift h3
        obtain ⟨h6, rfl⟩ := run_pure h4
        obtain ⟨e, h7⟩ := castEl_some h5
        cases e; subst h7; subst h6
        exact ⟨rfl, key _ _ rfl hr.1⟩
      | _ =>
        obtain ⟨l', st2, h3, h4⟩ := run_some h2
        obtain ⟨h5, rfl⟩ := run_lift h3
        obtain ⟨e, h7⟩ := castEl_some h5
        cases e
    | _ => cases h2
  | _ => cases h

/-- what a header tells, seen as plain where its block is no one's own -/
theorem lref_cells {O Oc : Nat → Prop} {hh : Nat} {s : Option (Nat × Nat)} {t : Ty} {l : List (El t)} {v : Value} (hc : asList (st.cont hh) = some ⟨t, l⟩) (hb : Blk w O (B hh) t l) (hsub : ∀ b, b < w.heap.size → Oc b → O b) (hO : ∀ b, B hh = some b → ¬ Oc b)
    (hv : V1 w O B st (.lref hh (st.gen hh) s) v) : Cells w Oc (.slice t) (view l s) [v] := by
  have hb : Blk w Oc (B hh) t l := by
    rcases hb with hb | ⟨b, arr, e, cs, rest, m1, m2, m3, m4⟩
    · exact .inl hb
    · exact .inr ⟨b, arr, e, cs, rest, m1, m2, m3, m4.mono fun _ _ h => h.mono (Nat.le_refl _) (fun _ _ _ => rfl) hsub⟩
  obtain ⟨hb1, a, cc, rfl, hc1, hc2⟩ := hv.2 rfl t l hc
  have hlen : (view l s).length = sLen l.length s := by
    cases s with
    | none => rfl
    | some p => obtain ⟨o, n⟩ := p; simp only [view, sLen, sOff] at *; rw [List.length_take, List.length_drop]; omega
  refine ⟨a, cc, by rw [hlen], by rw [hlen]; exact hc1, ?_⟩
  by_cases hz : sLen l.length s = 0
  · left; exact List.eq_nil_of_length_eq_zero (by rw [hlen, hz])
  · rcases hc2 with hc2 | ⟨b, arr, e, k1, k2, k3, k4⟩
    · omega
    · right
      rcases hb with hb | ⟨b', arr', e', cs, rest, m1, m2, m3, m4⟩
      · rw [hb.1] at k1; cases k1
      · rw [k1] at m1; cases m1
        rw [k3] at m2; cases m2
        obtain ⟨c1, d, c2, n1, n2, n3, n4⟩ := m4.take (sOff s) (sLen l.length s)
        refine ⟨b, c1.length, d, ?_, hO b k1, lt_of_get k3, Lies.of_heap k3 (c2 := c2 ++ rest) (by rw [m3, n1]; simp), ?_⟩
        · rw [k2, n2.len fun _ _ h => h.len, List.length_take, Nat.min_eq_left (by omega)]
        · cases s with
          | none => simpa [view, sOff, sLen] using n3
          | some p => exact n3

/-- the block of a home that lists is no one's own: what it holds is plain -/
theorem frozen_reads (r : Rel Z B st tm w) {hh : Nat} {s : Option (Nat × Nat)} {t : Ty} {l : List (El t)} {v : Value} (hc : st.cont hh = .val (.slice t) l) (hv : V1 w (Owned Z B st) B st (.lref hh (st.gen hh) s) v) :
    Cells w (Owned Z B st) (.slice t) (view l s) [v] := by
  have hr := r.hr hh
  rw [hc] at hr
  exact lref_cells (by rw [hc]; rfl) hr.1 (fun _ _ h => h) hr.2 hv

theorem freeze_sound (r : Rel Z B st tm w) {a : AV} (h : run (freeze a) st = some ((), st')) :
    Rel Z B st' tm w ∧ Stay w w (Owned Z B st) (Owned Z B st') B B st st' ∧
      ∀ hh s, a = .lref hh (st.gen hh) s → st'.gen hh = st.gen hh ∧ ∀ t l, asList (st.cont hh) = some ⟨t, l⟩ → st'.cont hh = .val (.slice t) l := by
  cases a with
  | lref hh g s =>
    obtain ⟨c, st1, h1, h2⟩ := run_some h
    obtain ⟨rfl, rfl, rfl⟩ := run_home h1
    generalize hcc : st1.cont hh = c at h2
    cases c with
    | own t l =>
      simp only [run, Option.some.injEq, Prod.mk.injEq, true_and] at h2
      subst h2
      obtain ⟨r', s'⟩ := r.frozen hh hcc
      refine ⟨r', s', ?_⟩
      rintro k s2 e
      injection e with e1 e2 e3
      subst e1
      rw [gen_seth, if_pos rfl, cont_seth, if_pos rfl]
      refine ⟨rfl, fun t' l' hl => ?_⟩
      rw [hcc] at hl
      simp only [asList, Option.some.injEq, Sigma.mk.injEq] at hl
      obtain ⟨rfl, hl⟩ := hl
      cases hl; rfl
    | val t x =>
      obtain ⟨_, rfl⟩ := run_ret h2
      refine ⟨r, Stay.refl, ?_⟩
      rintro k s2 e
      injection e with e1 e2 e3
      subst e1
      refine ⟨rfl, fun t' l' hl => ?_⟩
      rw [hcc] at hl ⊢
      cases t <;> simp only [asList, Option.some.injEq, Sigma.mk.injEq, reduceCtorEq] at hl
      obtain ⟨rfl, hl⟩ := hl
      cases hl; rfl
    | _ => cases h2
  | _ => obtain ⟨_, rfl⟩ := run_ret h; exact ⟨r, Stay.refl, fun hh s e => by cases e⟩

theorem toLeaf_sound (r : Rel Z B st tm w) {t : Ty} {a : AV} {x : El t} (h : run (toLeaf t a) st = some (x, st')) :
    Rel Z B st' tm w ∧ Stay w w (Owned Z B st) (Owned Z B st') B B st st' ∧ ∀ cs, F1 w (Owned Z B st) B st a cs → Cells w (Owned Z B st') t x cs := by
  cases t with
  | slice u =>
    obtain ⟨l, st1, h1, h2⟩ := run_some h
    obtain ⟨_, st2, h3, h4⟩ := run_some h2
    obtain ⟨rfl, rfl⟩ := run_pure h4
    cases a with
    | nils =>
      obtain ⟨rfl, rfl⟩ := run_ret h1
      obtain ⟨_, rfl⟩ := run_ret h3
      refine ⟨r, Stay.refl, ?_⟩
      rintro cs ⟨v, rfl, _, hv⟩
      cases hv
      exact ⟨none, 0, rfl, Nat.le_refl _, .inl rfl⟩
    | val s y =>
      obtain ⟨e, rfl⟩ := run_lift h1
      obtain ⟨_, rfl⟩ := run_ret h3
      obtain ⟨rfl, rfl⟩ := castEl_some e
      exact ⟨r, Stay.refl, fun cs h => h⟩
    | lref hh g s =>
      obtain rfl := listAt_st h1
      obtain ⟨r', s', hf⟩ := freeze_sound r h3
      obtain ⟨c, st3, g1, g2⟩ := run_some h1
      obtain ⟨rfl, rfl, rfl⟩ := run_home g1
      have key : ∀ (u' : Ty) (l0 : List (El u')), asList (st3.cont hh) = some ⟨u', l0⟩ → ∀ cs, F1 w (Owned Z B st3) B st3 (.lref hh (st3.gen hh) s) cs → Cells w (Owned Z B st') (.slice u') (view l0 s) cs := by
        rintro u' l0 ha cs ⟨v, rfl, _, hv⟩
        obtain ⟨f1, f2⟩ := hf hh s rfl
        have hv' := hv.mono s'
        rw [← f1] at hv'
        exact frozen_reads r' (f2 u' l0 ha) hv'
      generalize hcc : st3.cont hh = c at g2 key
      cases c with
      | own t l0 =>
        obtain ⟨l', st2, h3', h4⟩ := run_some g2
        obtain ⟨h5, _⟩ := run_lift h3'
        obtain ⟨h6, _⟩ := run_pure h4
        obtain ⟨e, h7⟩ := castEl_some h5
        cases e; subst h7; subst h6
        exact ⟨r', s', key _ _ rfl⟩
      | val t y =>
        cases t with
        | slice t =>
          obtain ⟨l', st2, h3', h4⟩ := run_some g2
          obtain ⟨h5, _⟩ := run_lift h3'
          obtain ⟨h6, _⟩ := run_pure h4
          obtain ⟨e, h7⟩ := castEl_some h5
          cases e; subst h7; subst h6
          exact ⟨r', s', key _ _ rfl⟩
        | _ =>
          obtain ⟨l', st2, h3', h4⟩ := run_some g2
          obtain ⟨h5, _⟩ := run_lift h3'
          obtain ⟨e, h7⟩ := castEl_some h5
          cases e
      | _ => cases g2
    | _ => cases h1
  | _ =>
    cases a <;> first
      | (cases h; done)
      | (obtain ⟨e, rfl⟩ := run_lift h
         obtain ⟨rfl, rfl⟩ := castEl_some e
         exact ⟨r, Stay.refl, fun cs h => h⟩)

theorem gather_sound : ∀ {t : Ty} {st st' : St} (r : Rel Z B st tm w) {fs rest : List AV} {x : El t}, run (gather t fs) st = some ((x, rest), st') →
    Rel Z B st' tm w ∧ Stay w w (Owned Z B st) (Owned Z B st') B B st st' ∧ ∀ cs, Fs w (Owned Z B st) B st fs cs → ∃ c1 c2, cs = c1 ++ c2 ∧ Cells w (Owned Z B st') t x c1 ∧ Fs w (Owned Z B st') B st' rest c2 := by
  intro t
  induction t with
  | unit =>
    intro st st' r fs rest x h
    obtain ⟨e, rfl⟩ := run_ret h
    cases e
    exact ⟨r, Stay.refl, fun cs h => ⟨[], cs, rfl, rfl, h⟩⟩
  | pair a b iha ihb =>
    intro st st' r fs rest x h
    obtain ⟨⟨x1, r1⟩, st1, h1, h2⟩ := run_some h
    obtain ⟨⟨x2, r2⟩, st2, h3, h4⟩ := run_some h2
    obtain ⟨e, rfl⟩ := run_pure h4
    cases e
    obtain ⟨ra, sa, ka⟩ := iha r h1
    obtain ⟨rb, sb, kb⟩ := ihb ra h3
    refine ⟨rb, sa.trans sb, fun cs hcs => ?_⟩
    obtain ⟨c1, c2, e, hc1, hc2⟩ := ka cs hcs
    obtain ⟨d1, d2, e', hd1, hd2⟩ := kb c2 hc2
    exact ⟨c1 ++ d1, d2, by rw [e, e', List.append_assoc], ⟨c1, d1, rfl, hc1.mono (Nat.le_refl _) sb.same sb.sub, hd1⟩, hd2⟩
  | _ =>
    intro st st' r fs rest x h
    cases fs with
    | nil => cases h
    | cons f fs =>
      obtain ⟨y, st1, h1, h2⟩ := run_some h
      obtain ⟨e, rfl⟩ := run_pure h2
      cases e
      obtain ⟨ra, sa, ka⟩ := toLeaf_sound r h1
      refine ⟨ra, sa, ?_⟩
      rintro cs ⟨c1, c2, e, hc1, hc2⟩
      exact ⟨c1, c2, e, ka c1 hc1, Fs.mono sa hc2⟩

theorem Cells.toV_cells {O : Nat → Prop} {t : Ty} {x : El t} {cs : List Value} (h : Cells w O t x cs) : (toV t cs).cells.toList = cs := by
  unfold toV
  split
  · rfl
  · rename_i hg
    have hl := h.len
    have ho := h.one
    cases t <;> simp [Ty.isAgg] at hg <;> simp only [Ty.size] at hl <;>
      (obtain ⟨v, rfl⟩ := List.length_eq_one_iff.1 hl
       have := ho v (by simp)
       cases v <;> simp_all [Value.cells, Value.oneCell'])

theorem toEl_sound (r : Rel Z B st tm w) {t : Ty} {a : AV} {x : El t} (h : run (toEl t a) st = some (x, st')) :
    Rel Z B st' tm w ∧ Stay w w (Owned Z B st) (Owned Z B st') B B st st' ∧ ∀ v, VR w (Owned Z B st) B st a v → ∃ cs, Cells w (Owned Z B st') t x cs ∧ v = toV t cs := by
  have key : run (toLeaf t a) st = some (x, st') → (∀ v, VR w (Owned Z B st) B st a v → ∃ cs, F1 w (Owned Z B st) B st a cs ∧ v = toV t cs) →
      Rel Z B st' tm w ∧ Stay w w (Owned Z B st) (Owned Z B st') B B st st' ∧ ∀ v, VR w (Owned Z B st) B st a v → ∃ cs, Cells w (Owned Z B st') t x cs ∧ v = toV t cs := by
    intro h hk
    obtain ⟨ra, sa, ka⟩ := toLeaf_sound r h
    refine ⟨ra, sa, fun v hv => ?_⟩
    obtain ⟨cs, h1, h2⟩ := hk v hv
    exact ⟨cs, ka cs h1, h2⟩
  cases a with
  | agg fs =>
    unfold toEl at h
    cases ht : isLeafTy t with
    | true => simp only [ht] at h; cases h
    | false =>
      simp only [ht] at h
      obtain ⟨⟨y, rest⟩, st1, h1, h2⟩ := run_some h
      obtain ⟨ra, sa, ka⟩ := gather_sound r h1
      cases rest with
      | cons f fs => cases h2
      | nil =>
        obtain ⟨rfl, rfl⟩ := run_pure h2
        refine ⟨ra, sa, ?_⟩
        rintro v ⟨arr, rfl, hf⟩
        obtain ⟨c1, c2, e, hc1, hc2⟩ := ka _ hf
        cases hc2
        refine ⟨c1, hc1, ?_⟩
        have : t.isAgg = true := by cases t <;> simp [isLeafTy] at ht <;> rfl
        simp only [toV, this, if_true]
        rw [List.append_nil] at e
        rw [← e]
  | val s y =>
    exact key h fun v ⟨cs, h1, h2⟩ => by
      have ht : s = t := by
        have h : run (toLeaf t (.val s y)) st = some (x, st') := h
        cases t with
        | slice u =>
          obtain ⟨l, st1, h1, h2⟩ := run_some h
          obtain ⟨e, rfl⟩ := run_lift h1
          exact (castEl_some e).1
        | _ => exact (castEl_some (run_lift h).1).1
      subst ht; exact ⟨cs, h1, h2⟩
  | nils =>
    exact key h fun v hv => ⟨[v], ⟨v, rfl, by cases hv; rfl, hv⟩, by
      have h : run (toLeaf t .nils) st = some (x, st') := h
      cases t <;> first | rfl | (cases h; done)⟩
  | lref hh g s =>
    exact key h fun v hv => by
      have h : run (toLeaf t (.lref hh g s)) st = some (x, st') := h
      cases t with
      | slice u =>
        refine ⟨[v], ⟨v, rfl, ?_, hv⟩, rfl⟩
        obtain ⟨l, st1, h1, h2⟩ := run_some h
        obtain ⟨_, a, c, rfl, _⟩ := listAt_sound r hv h1
        rfl
      | _ => cases h
  | _ =>
    have h : run (toLeaf t _) st = some (x, st') := h
    cases t <;> first
      | (cases h; done)
      | (obtain ⟨l, st1, h1, h2⟩ := run_some h; cases h1)
end
end Go.Pv
