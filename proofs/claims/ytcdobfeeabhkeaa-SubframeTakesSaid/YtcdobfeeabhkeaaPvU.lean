/- The code of a function: what the model does is what the reading says. -/
import Derived.Test.YtcdobfeeabhkeaaPvT
import Derived.Scope
set_option autoImplicit false
set_option linter.unusedVariables false
set_option linter.unusedSimpArgs false
namespace Go.Pv

section
variable {E : Env} {Z M : Nat → Prop} {B : Nat → Option Nat} {st st' : St} {a : Act} {w w0 : World} {n : Nat} {pn : Nat → Option Nat}

theorem look_map {β : Type} (d : β) (f : Nat → β) (k : Nat) : ∀ l : List Nat, look d k (l.map fun t => (t, f t)) = if k ∈ l then f k else d
  | [] => rfl
  | t :: l => by
    rw [List.map_cons, look_cons]
    by_cases e : t = k
    · subst e; simp
    · rw [if_neg e, look_map d f k l]
      have : (k ∈ t :: l) ↔ k ∈ l := ⟨fun h => (List.mem_cons.1 h).resolve_left fun h => e h.symm, List.mem_cons_of_mem _⟩
      by_cases hk : k ∈ l
      · rw [if_pos hk, if_pos (this.2 hk)]
      · rw [if_neg hk, if_neg fun h => hk (this.1 h)]

def pr (slots homes : List Nat) (st : St) : St := ⟨slots.map fun t => (t, reb st homes (st.get t)), homes.map fun h => (h, mark1 (st.gen h), rebH st homes (st.cont h))⟩

theorem pr_get (slots homes : List Nat) (st : St) (t : Nat) : (pr slots homes st).get t = if t ∈ slots then reb st homes (st.get t) else .undef := look_map _ _ _ _
theorem pr_look (slots homes : List Nat) (st : St) (h : Nat) : look ((0 : Nat), AV.undef) h (pr slots homes st).hs = if h ∈ homes then (mark1 (st.gen h), rebH st homes (st.cont h)) else (0, .undef) :=
  look_map (0, AV.undef) (fun h => (mark1 (st.gen h), rebH st homes (st.cont h))) h homes
theorem pr_gen_in {slots homes : List Nat} {st : St} {h : Nat} (e : h ∈ homes) : (pr slots homes st).gen h = mark1 (st.gen h) := by
  unfold St.gen; rw [pr_look, if_pos e]; rfl
theorem pr_gen_out {slots homes : List Nat} {st : St} {h : Nat} (e : h ∉ homes) : (pr slots homes st).gen h = 0 := by
  unfold St.gen; rw [pr_look, if_neg e]
theorem pr_cont (slots homes : List Nat) (st : St) (h : Nat) : (pr slots homes st).cont h = if h ∈ homes then rebH st homes (st.cont h) else .undef := by
  unfold St.cont; rw [pr_look]; split <;> rfl
theorem mark1_one {g : Nat} (h : mark1 g = 1) : g = 1 := by
  unfold mark1 at h
  split at h
  · rename_i e; exact Nat.eq_of_beq_eq_true e
  · cases h

theorem rebH_live {homes : List Nat} {c : AV} (h : live (rebH st homes c) = true) : live c = true := by
  unfold rebH at h
  split at h <;> first | rfl | cases h

theorem rebH_list {homes : List Nat} {c : AV} {t : Ty} {l : List (El t)} (h : asList (rebH st homes c) = some ⟨t, l⟩) : asList c = some ⟨t, l⟩ := by
  unfold rebH at h
  split at h <;> first | exact h | cases h

theorem pr_live {slots homes : List Nat} {h : Nat} (e : live ((pr slots homes st).cont h) = true) : live (st.cont h) = true := by
  rw [pr_cont] at e
  split at e
  · exact rebH_live e
  · cases e

theorem pr_list {slots homes : List Nat} {h : Nat} {t : Ty} {l : List (El t)} (e : asList ((pr slots homes st).cont h) = some ⟨t, l⟩) : asList (st.cont h) = some ⟨t, l⟩ := by
  rw [pr_cont] at e
  split at e
  · exact rebH_list e
  · cases e

theorem pr_owned {slots homes : List Nat} {b : Nat} (e : Owned Z B (pr slots homes st) b) : Owned Z B st b := by
  rcases e with e | ⟨h, h1, h2⟩
  · exact .inl e
  · exact .inr ⟨h, pr_live h1, h2⟩

theorem V1.pr {slots homes : List Nat} {v : AV} {val : Value} (h : V1 w (Owned Z B st) B st v val) : V1 w (Owned Z B (pr slots homes st)) B (pr slots homes st) (reb1 st homes v) val := by
  cases v with
  | val t x => obtain ⟨cs, h1, h2⟩ := h; exact ⟨cs, h1.mono (Nat.le_refl _) (fun _ _ _ => rfl) fun b _ hb => pr_owned hb, h2⟩
  | lref k g s =>
    simp only [reb1]
    cases hc : (Nat.beq (st.gen k) g && homes.contains k) with
    | true =>
      rw [Bool.and_eq_true] at hc
      have hg := Nat.eq_of_beq_eq_true hc.1
      exact ⟨by rw [pr_gen_in (List.contains_iff_mem.1 hc.2), hg]; exact Nat.le_refl _, fun _ t l hl => h.2 hg.symm t l (pr_list hl)⟩
    | false => trivial
  | ptr k g o i =>
    simp only [reb1]
    cases hc : (Nat.beq (st.gen k) g && homes.contains k) with
    | true =>
      rw [Bool.and_eq_true] at hc
      have hg := Nat.eq_of_beq_eq_true hc.1
      exact ⟨by rw [pr_gen_in (List.contains_iff_mem.1 hc.2), hg]; exact Nat.le_refl _, fun _ => h.2 hg.symm⟩
    | false => trivial
  | eptr t x k => obtain ⟨b, o, cs, h1, h2, h3, h4, h5⟩ := h; exact ⟨b, o, cs, h1, fun h => h2 (pr_owned h), h3, h4, h5.mono (Nat.le_refl _) (fun _ _ _ => rfl) fun b _ hb => pr_owned hb⟩
  | fnp f k g =>
    simp only [reb1]
    cases hc : (Nat.beq (st.gen k) g && homes.contains k) with
    | true =>
      rw [Bool.and_eq_true] at hc
      have hg := Nat.eq_of_beq_eq_true hc.1
      exact ⟨by rw [pr_gen_in (List.contains_iff_mem.1 hc.2), hg]; exact Nat.le_refl _, fun _ => h.2 hg.symm⟩
    | false => trivial
  | mref k g =>
    simp only [reb1]
    cases hc : (Nat.beq (st.gen k) g && homes.contains k) with
    | true =>
      rw [Bool.and_eq_true] at hc
      have hg := Nat.eq_of_beq_eq_true hc.1
      exact ⟨by rw [pr_gen_in (List.contains_iff_mem.1 hc.2), hg]; exact Nat.le_refl _, fun _ => h.2 hg.symm⟩
    | false => trivial
  | nils => exact h
  | nilp => exact h
  | _ => trivial

theorem F1.pr {slots homes : List Nat} {v : AV} {cs : List Value} (h : F1 w (Owned Z B st) B st v cs) : F1 w (Owned Z B (pr slots homes st)) B (pr slots homes st) (reb1 st homes v) cs := by
  have key : ∀ {v : AV}, (∃ u, cs = [u] ∧ u.oneCell' = true ∧ V1 w (Owned Z B st) B st v u) → (∀ t x, reb1 st homes v ≠ .val t x) → F1 w (Owned Z B (Pv.pr slots homes st)) B (Pv.pr slots homes st) (reb1 st homes v) cs := by
    rintro v ⟨u, h1, h2, h3⟩ hne
    have h4 := h3.pr (slots := slots) (homes := homes)
    generalize hr : reb1 st homes v = r at h4 hne
    cases r with
    | val t x => exact absurd rfl (hne t x)
    | _ => exact ⟨u, h1, h2, h4⟩
  cases v with
  | val t x => exact Cells.mono (Nat.le_refl _) (fun _ _ _ => rfl) (fun b _ hb => pr_owned hb) h
  | _ => exact key h fun t x e => by (simp only [reb1] at e; first | (split at e <;> cases e) | cases e)

theorem Fs.pr {slots homes : List Nat} : ∀ {fs : List AV} {cs : List Value}, Fs w (Owned Z B st) B st fs cs → Fs w (Owned Z B (pr slots homes st)) B (pr slots homes st) (fs.map (reb1 st homes)) cs
  | [], _, h => h
  | f :: fs, _, ⟨c1, c2, e, h1, h2⟩ => ⟨c1, c2, e, h1.pr, Fs.pr h2⟩

theorem VR.pr {slots homes : List Nat} {v : AV} {val : Value} (h : VR w (Owned Z B st) B st v val) : VR w (Owned Z B (pr slots homes st)) B (pr slots homes st) (reb st homes v) val := by
  have toVR : ∀ {u : AV}, V1 w (Owned Z B (Pv.pr slots homes st)) B (Pv.pr slots homes st) (reb1 st homes u) val → VR w (Owned Z B (Pv.pr slots homes st)) B (Pv.pr slots homes st) (reb1 st homes u) val := fun h => h.toVR
  cases v with
  | agg fs => obtain ⟨arr, e, h1⟩ := h; exact ⟨arr, e, h1.pr⟩
  | tup vs => trivial
  | undef => trivial
  | own t l => exact h.elim
  | box fs => exact h.elim
  | val t x => exact toVR (V1.pr (v := .val t x) h)
  | nils => exact toVR (V1.pr (v := .nils) h)
  | nilp => exact toVR (V1.pr (v := .nilp) h)
  | lref p q s => exact toVR (V1.pr (v := .lref p q s) h)
  | ptr p q s i => exact toVR (V1.pr (v := .ptr p q s i) h)
  | eptr t x k => exact toVR (V1.pr (v := .eptr t x k) h)
  | fnp f p q => exact toVR (V1.pr (v := .fnp f p q) h)
  | mref p q => exact toVR (V1.pr (v := .mref p q) h)
  | mp t l => exact h.elim

theorem Blk.pr {slots homes : List Nat} {bo : Option Nat} {t : Ty} {l : List (El t)} (h : Blk w (Owned Z B st) bo t l) : Blk w (Owned Z B (pr slots homes st)) bo t l := by
  rcases h with h | ⟨b, arr, e, cs, rest, h1, h2, h3, h4⟩
  · exact .inl h
  · exact .inr ⟨b, arr, e, cs, rest, h1, h2, h3, h4.mono fun _ _ h => h.mono (Nat.le_refl _) (fun _ _ _ => rfl) fun b _ hb => pr_owned hb⟩

theorem Inv.pr (slots homes : List Nat) {tm : Array Value} (i : Inv n pn Z M w0 B st tm w) : Inv n pn Z M w0 B (pr slots homes st) tm w := by
  refine ⟨⟨fun h h' b h1 h2 => i.rel.inj h h' b (pr_live h1) (pr_live h2), fun h b h1 => i.rel.ext h b (pr_live h1), fun h => ?_, fun t => ?_⟩, i.tr, fun b hb hl => ?_, i.hz, i.size, fun p b hp h1 => ?_⟩
  · rw [pr_cont]
    split
    · have hr := i.rel.hr h
      generalize st.cont h = c at hr
      cases c with
      | own t l => exact hr.pr
      | box fs => obtain ⟨b, arr, e, h1, h2, h3⟩ := hr; exact ⟨b, arr, e, h1, h2, h3.pr⟩
      | mp t l => obtain ⟨b, h1, es, c, h2, h3⟩ := hr; exact ⟨b, h1, es, c, h2, h3.mono fun _ _ h => h.mono (Nat.le_refl _) (fun _ _ _ => rfl) fun b _ hb => pr_owned hb⟩
      | val t x =>
        cases t with
        | slice t => exact ⟨hr.1.pr, fun b hb hO => hr.2 b hb (pr_owned hO)⟩
        | _ => trivial
      | _ => trivial
    · trivial
  · rw [pr_get]
    split
    · exact (i.rel.vr t).pr
    · trivial
  · obtain ⟨k, h1, h2⟩ := hl
    exact i.own b hb ⟨k, pr_live h1, h2⟩
  · by_cases hm : p ∈ homes
    · rw [pr_gen_in hm] at h1
      exact i.pin p b hp (mark1_one h1)
    · rw [pr_gen_out hm] at h1; cases h1

theorem Inv.prune {tm : Array Value} (i : Inv n pn Z M w0 B st tm w) (H : Option (List Nat × List Nat)) : Inv n pn Z M w0 B (prune H st) tm w := by
  cases H with
  | none => exact i
  | some p => exact i.pr p.1 p.2

def exOf : Ex → Exit
  | .normal => .normal
  | .exit id => .exit id
  | .goto l => .goto l
  | .ret => .ret

/-- where a piece of code may go to -/
def QK {R : Type} (n : Nat) (pn : Nat → Option Nat) (Z M : Nat → Prop) (w0 : World) (ds : List Deferred) (K : Ex → St → Option R) (r : R) : Exit → Act → World → Prop := fun e a w =>
  ∃ ex B st, e = exOf ex ∧ a.defers = ds ∧ Inv n pn Z M w0 B st a.tmps w ∧ K ex st = some r

theorem hasL_find : ∀ {c : Code} {l : Nat}, hasL c l = true → ∃ rest, findLabel c l = some rest
  | .seq a b, l, h => by
    unfold hasL at h
    unfold findLabel
    cases ha : findLabel a l with
    | some rest => exact ⟨_, rfl⟩
    | none =>
      rw [Bool.or_eq_true] at h
      rcases h with h | h
      · obtain ⟨r, hr⟩ := hasL_find h; rw [ha] at hr; cases hr
      · exact hasL_find h
  | .label l', l, h => by
    unfold hasL at h
    unfold findLabel
    have := Nat.eq_of_beq_eq_true h
    exact ⟨.skip, by simp [this]⟩
  | .skip, _, h | .region _ _ _, _, h | .cond _ _ _, _, h | .block _ _, _, h | .loop _, _, h | .rangeFunc _ _ _ _, _, h | .exit _, _, h | .scope _, _, h | .goto _, _, h | .ret, _, h | .refuse _, _, h => by cases h

theorem hasL_none : ∀ {c : Code} {l : Nat}, hasL c l = false → findLabel c l = none
  | .seq a b, l, h => by
    unfold hasL at h
    rw [Bool.or_eq_false_iff] at h
    unfold findLabel
    rw [hasL_none h.1, hasL_none h.2]
  | .label l', l, h => by
    unfold hasL at h
    unfold findLabel
    have : l' ≠ l := fun e => by subst e; simp at h
    simp [this]
  | .skip, _, h | .region _ _ _, _, h | .cond _ _ _, _, h | .block _ _, _, h | .loop _, _, h | .rangeFunc _ _ _ _, _, h | .exit _, _, h | .scope _, _, h | .goto _, _, h | .ret, _, h | .refuse _, _, h => rfl

/-! ### layouts -/
theorem ifB_some {b : Bool} {l m : List Leaf} (h : ifB b l = some m) : b = true ∧ l = m := by
  cases b with
  | true => exact ⟨rfl, Option.some.inj h⟩
  | false => cases h

mutual
theorem fill_take : ∀ (s : Sh) (a : AV) (ls : List Leaf), takeSh s a = some ls → ∀ r, fillSh s (ls ++ r) = (a, r)
  | .val t, a, ls, h, r => by
    cases a <;> simp only [takeSh, reduceCtorEq] at h
    obtain ⟨e, rfl⟩ := ifB_some h
    rfl
  | .nils, a, ls, h, r => by
    cases a <;> simp only [takeSh, reduceCtorEq, Option.some.injEq] at h
    subst h; rfl
  | .nilp, a, ls, h, r => by
    cases a <;> simp only [takeSh, reduceCtorEq, Option.some.injEq] at h
    subst h; rfl
  | .undef, a, ls, h, r => by
    cases a <;> simp only [takeSh, reduceCtorEq, Option.some.injEq] at h
    subst h; rfl
  | .lref hh g, a, ls, h, r => by
    cases a with
    | lref h' g' s =>
      cases s with
      | some s => simp only [takeSh, reduceCtorEq] at h
      | none =>
        simp only [takeSh] at h
        obtain ⟨e, rfl⟩ := ifB_some h
        rw [Bool.and_eq_true] at e
        cases Nat.eq_of_beq_eq_true e.1
        cases Nat.eq_of_beq_eq_true e.2
        rfl
    | _ => simp only [takeSh, reduceCtorEq] at h
  | .part hh g, a, ls, h, r => by
    cases a with
    | lref h' g' s =>
      cases s with
      | none => simp only [takeSh, reduceCtorEq] at h
      | some s =>
        simp only [takeSh] at h
        obtain ⟨e, rfl⟩ := ifB_some h
        rw [Bool.and_eq_true] at e
        cases Nat.eq_of_beq_eq_true e.1
        cases Nat.eq_of_beq_eq_true e.2
        rfl
    | _ => simp only [takeSh, reduceCtorEq] at h
  | .ptr hh g k, a, ls, h, r => by
    cases a with
    | ptr h' g' k' s =>
      cases s with
      | some s => simp only [takeSh, reduceCtorEq] at h
      | none =>
        simp only [takeSh] at h
        obtain ⟨e, rfl⟩ := ifB_some h
        rw [Bool.and_eq_true, Bool.and_eq_true] at e
        cases Nat.eq_of_beq_eq_true e.1.1
        cases Nat.eq_of_beq_eq_true e.1.2
        cases Nat.eq_of_beq_eq_true e.2
        rfl
    | _ => simp only [takeSh, reduceCtorEq] at h
  | .fnp f hh g, a, ls, h, r => by
    cases a with
    | fnp f' h' g' =>
      simp only [takeSh] at h
      obtain ⟨e, rfl⟩ := ifB_some h
      rw [Bool.and_eq_true, Bool.and_eq_true] at e
      cases Nat.eq_of_beq_eq_true e.1.1
      cases Nat.eq_of_beq_eq_true e.1.2
      cases Nat.eq_of_beq_eq_true e.2
      rfl
    | _ => simp only [takeSh, reduceCtorEq] at h
  | .mref hh g, a, ls, h, r => by
    cases a with
    | mref h' g' =>
      simp only [takeSh] at h
      obtain ⟨e, rfl⟩ := ifB_some h
      rw [Bool.and_eq_true] at e
      cases Nat.eq_of_beq_eq_true e.1
      cases Nat.eq_of_beq_eq_true e.2
      rfl
    | _ => simp only [takeSh, reduceCtorEq] at h
  | .mp t, a, ls, h, r => by
    cases a <;> simp only [takeSh, reduceCtorEq] at h
    obtain ⟨e, rfl⟩ := ifB_some h
    rfl
  | .eptr t, a, ls, h, r => by
    cases a <;> simp only [takeSh, reduceCtorEq] at h
    obtain ⟨e, rfl⟩ := ifB_some h
    rw [Bool.and_eq_true] at e
    cases Nat.eq_of_beq_eq_true e.2
    rfl
  | .agg ss, a, ls, h, r => by
    cases a <;> simp only [takeSh, reduceCtorEq] at h
    have := fill_takes ss _ ls h r
    simp only [fillSh, this]
  | .own t, a, ls, h, r => by
    cases a <;> simp only [takeSh, reduceCtorEq] at h
    obtain ⟨e, rfl⟩ := ifB_some h
    rfl
  | .box ss, a, ls, h, r => by
    cases a <;> simp only [takeSh, reduceCtorEq] at h
    have := fill_takes ss _ ls h r
    simp only [fillSh, this]
  | .tup ss, a, ls, h, r => by
    cases a <;> simp only [takeSh, reduceCtorEq] at h
    have := fill_takes ss _ ls h r
    simp only [fillSh, this]
theorem fill_takes : ∀ (ss : List Sh) (as : List AV) (ls : List Leaf), takeShs ss as = some ls → ∀ r, fillShs ss (ls ++ r) = (as, r)
  | [], [], ls, h, r => by
    simp only [takeShs, Option.some.injEq] at h
    subst h; rfl
  | [], _ :: _, ls, h, r => by simp only [takeShs, reduceCtorEq] at h
  | _ :: _, [], ls, h, r => by simp only [takeShs, reduceCtorEq] at h
  | s :: ss, a :: as, ls, h, r => by
    simp only [takeShs] at h
    obtain ⟨x, h1, h2⟩ := Option.bind_eq_some_iff.1 h
    obtain ⟨y, h3, rfl⟩ := Option.map_eq_some_iff.1 h2
    simp only [fillShs, List.append_assoc, fill_take s a x h1, fill_takes ss as y h3]
end

theorem ofTu_toTu : ∀ {ts : List Ty} {ls : List Leaf} {x : Tu ts}, toTu ts ls = some x → ofTu ts x = ls
  | [], [], _, _ => rfl
  | [], _ :: _, _, h => by cases h
  | [t], [], _, h => by cases h
  | [t], [l], x, h => by
    obtain ⟨s, y⟩ := l
    obtain ⟨e, h⟩ := castEl_some h
    cases e; cases h; rfl
  | [t], _ :: _ :: _, _, h => by cases h
  | t :: s :: ts, [], _, h => by cases h
  | t :: s :: ts, l :: r, x, h => by
    simp only [toTu] at h
    obtain ⟨y, h1, h2⟩ := Option.bind_eq_some_iff.1 h
    obtain ⟨z, h3, rfl⟩ := Option.map_eq_some_iff.1 h2
    have := ofTu_toTu h3
    obtain ⟨u, v⟩ := l
    obtain ⟨e, h4⟩ := castEl_some h1
    cases e; cases h4
    simp only [ofTu, this]

/-- as it was, or frozen -/
def Frz (c c' : AV) : Prop := c' = c ∨ ∃ t l, c = .own t l ∧ c' = .val (.slice t) l

inductive FrzL : List AV → List AV → Prop
  | nil : FrzL [] []
  | cons {a b : AV} {l m : List AV} (h : Frz a b) (t : FrzL l m) : FrzL (a :: l) (b :: m)

theorem fill_takeH {s : Sh} {a : AV} {ls : List Leaf} (h : takeH s a = some ls) (r : List Leaf) : ∃ b, fillSh s (ls ++ r) = (b, r) ∧ Frz a b := by
  unfold takeH at h
  split at h
  · obtain ⟨e, rfl⟩ := ifB_some h
    exact ⟨_, rfl, .inr ⟨_, _, rfl, rfl⟩⟩
  · exact ⟨a, fill_take _ _ _ h r, .inl rfl⟩

theorem fill_takeHs : ∀ {ss : List Sh} {as : List AV} {ls : List Leaf}, takeHs ss as = some ls → ∀ r, ∃ bs, fillShs ss (ls ++ r) = (bs, r) ∧ FrzL as bs
  | [], [], ls, h, r => by
    simp only [takeHs, Option.some.injEq] at h
    subst h; exact ⟨[], rfl, .nil⟩
  | [], _ :: _, ls, h, r => by simp only [takeHs, reduceCtorEq] at h
  | _ :: _, [], ls, h, r => by simp only [takeHs, reduceCtorEq] at h
  | s :: ss, a :: as, ls, h, r => by
    simp only [takeHs] at h
    obtain ⟨x, h1, h2⟩ := Option.bind_eq_some_iff.1 h
    obtain ⟨y, h3, rfl⟩ := Option.map_eq_some_iff.1 h2
    obtain ⟨b, f1, g1⟩ := fill_takeH h1 (y ++ r)
    obtain ⟨bs, f2, g2⟩ := fill_takeHs h3 r
    exact ⟨b :: bs, by simp only [fillShs, List.append_assoc, f1, f2], .cons g1 g2⟩

theorem zipS_spec (f : Nat → AV) : ∀ l : List (Nat × Sh), zipS l (((l.map (·.1)).map fun t => (t, f t)).map (·.2)) = (l.map (·.1)).map fun t => (t, f t)
  | [] => rfl
  | a :: l => by simp only [List.map_cons, zipS, zipS_spec f l]

theorem zipH_spec (g : Nat → Nat) (f : Nat → AV) : ∀ (l : List (Nat × Nat × Sh)) (bs : List AV), marksOk l ((l.map (·.1)).map fun t => (t, g t, f t)) = true → FrzL (((l.map (·.1)).map fun t => (t, g t, f t)).map (·.2.2)) bs →
    ∀ h, (look ((0 : Nat), AV.undef) h (zipH l bs)).1 = (look ((0 : Nat), AV.undef) h ((l.map (·.1)).map fun t => (t, g t, f t))).1 ∧ Frz (look ((0 : Nat), AV.undef) h ((l.map (·.1)).map fun t => (t, g t, f t))).2 (look ((0 : Nat), AV.undef) h (zipH l bs)).2
  | [], _, _, _, h => ⟨rfl, .inl rfl⟩
  | a :: l, bs, hm, hf, h => by
    simp only [List.map_cons, marksOk, Bool.and_eq_true] at hm
    simp only [List.map_cons] at hf
    cases hf with
    | @cons _ b _ bs h1 h2 =>
      simp only [List.map_cons, zipH]
      rw [look_cons, look_cons]
      by_cases e : a.1 = h
      · rw [if_pos e, if_pos e]; exact ⟨Nat.eq_of_beq_eq_true hm.1, h1⟩
      · rw [if_neg e, if_neg e]; exact zipH_spec g f l bs hm.2 h2 h

/-- the same, with some of what is one's own frozen -/
structure Frozen (st st' : St) : Prop where
  get : ∀ t, st'.get t = st.get t
  gen : ∀ h, st'.gen h = st.gen h
  cont : ∀ h, Frz (st.cont h) (st'.cont h)

def Weak (st st' : St) : Prop := ∃ c h, Frozen (prune h (convs c st)) st'

theorem decT_enc {A : Alt} {st : St} {x : Tu A.tys} (h : decT A st = some x) : Weak st (encT A x) := by
  unfold decT at h
  obtain ⟨ls, h1, h2⟩ := Option.bind_eq_some_iff.1 h
  unfold leavesOf at h1
  dsimp only at h1
  split at h1
  · rename_i hm
    obtain ⟨l1, h3, h4⟩ := Option.bind_eq_some_iff.1 h1
    obtain ⟨l2, h5, rfl⟩ := Option.map_eq_some_iff.1 h4
    refine ⟨A.conv, some (A.slots.map (·.1), A.homes.map (·.1)), ?_⟩
    unfold encT encL
    rw [ofTu_toTu h2]
    dsimp only
    have f1 := fill_takes _ _ l1 h3 l2
    obtain ⟨bs, f2, g2⟩ := fill_takeHs h5 []
    rw [List.append_nil] at f2
    rw [f1]
    dsimp only
    rw [f2]
    dsimp only [prune] at hm g2 ⊢
    refine ⟨fun t => ?_, fun k => ?_, fun k => ?_⟩
    · unfold St.get; rw [zipS_spec]
    · exact (zipH_spec _ _ _ bs hm g2 k).1
    · exact (zipH_spec _ _ _ bs hm g2 k).2
  · cases h1

theorem Frz.live {c c' : AV} (h : Frz c c') (e : live c' = true) : live c = true ∧ c' = c := by
  rcases h with rfl | ⟨t, l, rfl, rfl⟩
  · exact ⟨e, rfl⟩
  · cases e
theorem Frz.list {c c' : AV} (h : Frz c c') {t : Ty} {l : List (El t)} (e : asList c' = some ⟨t, l⟩) : asList c = some ⟨t, l⟩ := by
  rcases h with rfl | ⟨t, l, rfl, rfl⟩
  · exact e
  · exact e

theorem Inv.frozen {tm : Array Value} (i : Inv n pn Z M w0 B st tm w) (f : Frozen st st') : Inv n pn Z M w0 B st' tm w := by
  have hO : ∀ b, Owned Z B st' b → Owned Z B st b := fun b h => by
    rcases h with h | ⟨k, h1, h2⟩
    · exact .inl h
    · exact .inr ⟨k, ((f.cont k).live h1).1, h2⟩
  have s : Stay w w (Owned Z B st) (Owned Z B st') B B st st' :=
    ⟨Nat.le_refl _, fun _ _ _ => rfl, fun b _ h => hO b h, fun h => .inl (f.gen h).symm, fun h _ => ⟨rfl, fun t l hl => ⟨l, (f.cont h).list hl, rfl⟩⟩, fun b arr e h => ⟨arr, h, rfl⟩⟩
  have inj : ∀ h h' b, live (st'.cont h) = true → live (st'.cont h') = true → B h = some b → B h' = some b → h = h' := fun h h' b h1 h2 => i.rel.inj h h' b ((f.cont h).live h1).1 ((f.cont h').live h2).1
  refine ⟨i.rel.step s (fun h => ?_) inj (fun h b h1 h2 => i.rel.ext h b ((f.cont h).live h1).1 h2) fun t => .inl ⟨f.get t, rfl⟩, i.tr, fun b hb hl => ?_, i.hz, i.size, fun p b hp h1 => i.pin p b hp (by rw [← f.gen]; exact h1)⟩
  · rcases f.cont h with e | ⟨t, l, e1, e2⟩
    · exact .inl ⟨e, rfl, fun _ _ => rfl⟩
    · right
      have hr := i.rel.hr h
      rw [e1] at hr
      rw [e2]
      refine ⟨Blk.mono s (fun _ _ => rfl) hr, fun b hb hOb => ?_⟩
      rcases hOb with hz | ⟨k, h1, h2⟩
      · exact i.rel.ext h b (by rw [e1]; rfl) hb hz
      · have := i.rel.inj k h b ((f.cont k).live h1).1 (by rw [e1]; rfl) h2 hb
        subst this
        rw [e2] at h1; cases h1
  · obtain ⟨k, h1, h2⟩ := hl
    exact i.own b hb ⟨k, ((f.cont k).live h1).1, h2⟩

theorem Row.setAt {α : Type} {R : α → List Value → Prop} : ∀ {l : List α} {cs : List Value} {i : Nat} {x y : α}, Row R l cs → l[i]? = some x → (∀ c, R x c → R y c) → Row R (l.set i y) cs
  | [], _, _, _, _, _, h, _ => by simp at h
  | a :: l, _, 0, x, y, ⟨c1, c2, e, h1, h2⟩, h, f => by
    obtain rfl : a = x := by simpa using h
    exact ⟨c1, c2, e, f c1 h1, h2⟩
  | a :: l, _, i + 1, x, y, ⟨c1, c2, e, h1, h2⟩, h, f => ⟨c1, c2, e, h1, Row.setAt h2 (by simpa using h) f⟩

/-- a thing's content is told anew -/
theorem Inv.rebox {tm : Array Value} (i : Inv n pn Z M w0 B st tm w) {h : Nat} {fs fs' : List AV} (hc : st.cont h = .box fs) (hf : ∀ cs, Fs w (Owned Z B st) B st fs cs → Fs w (Owned Z B st) B st fs' cs) :
    Inv n pn Z M w0 B (st.seth h (st.gen h) (.box fs')) tm w := by
  have hl : ∀ k, live ((st.seth h (st.gen h) (.box fs')).cont k) = true ↔ live (st.cont k) = true := fun k => by
    rw [cont_seth]; split
    · rename_i e; subst e; rw [hc]; exact Iff.rfl
    · exact Iff.rfl
  have hO : ∀ b, Owned Z B (st.seth h (st.gen h) (.box fs')) b ↔ Owned Z B st b := fun b => by
    unfold Owned
    exact or_congr Iff.rfl ⟨fun ⟨k, h1, h2⟩ => ⟨k, (hl k).1 h1, h2⟩, fun ⟨k, h1, h2⟩ => ⟨k, (hl k).2 h1, h2⟩⟩
  have s : Stay w w (Owned Z B st) (Owned Z B (st.seth h (st.gen h) (.box fs'))) B B st (st.seth h (st.gen h) (.box fs')) := by
    refine ⟨Nat.le_refl _, fun _ _ _ => rfl, fun b _ h => (hO b).1 h, fun k => ?_, fun k _ => ⟨rfl, fun t l hl => ?_⟩, fun b arr e h => ⟨arr, h, rfl⟩⟩
    · rw [gen_seth]; split
      · rename_i e; subst e; exact .refl _
      · exact .refl _
    · rw [cont_seth] at hl
      split at hl
      · cases hl
      · exact ⟨l, hl, rfl⟩
  refine ⟨i.rel.step s (fun k => ?_) (fun k k' b h1 h2 => i.rel.inj k k' b ((hl k).1 h1) ((hl k').1 h2)) (fun k b h1 => i.rel.ext k b ((hl k).1 h1)) fun t => .inl ⟨rfl, rfl⟩, i.tr, fun b hb hL => ?_, i.hz, i.size, fun p b hp h1 => i.pin p b hp ?_⟩
  · rw [cont_seth]
    split
    · rename_i e
      subst e
      right
      have hr := i.rel.hr h
      rw [hc] at hr
      obtain ⟨b, arr, e, h1, h2, h3⟩ := hr
      exact ⟨b, arr, e, h1, h2, (hf _ h3).mono s⟩
    · exact .inl ⟨rfl, rfl, fun _ _ => rfl⟩
  · obtain ⟨k, h1, h2⟩ := hL
    exact i.own b hb ⟨k, (hl k).1 h1, h2⟩
  · rw [gen_seth] at h1
    split at h1
    · rename_i e; subst e; exact h1
    · exact h1

theorem Inv.conv1 {tm : Array Value} (i : Inv n pn Z M w0 B st tm w) (h j : Nat) : Inv n pn Z M w0 B (conv1 h j st) tm w := by
  unfold Pv.conv1
  cases hc : st.cont h with
  | box fs =>
    dsimp only
    cases hj : fs[j]? with
    | none => exact i
    | some f =>
      cases f with
      | lref k g s =>
        dsimp only
        cases hg : Nat.beq (st.gen k) g with
        | false => exact i
        | true =>
          have hg := Nat.eq_of_beq_eq_true hg
          subst hg
          dsimp only
          cases hk : st.cont k with
          | own t l =>
            have hne : k ≠ h := fun e => by rw [e, hc] at hk; cases hk
            have i' : Inv n pn Z M w0 B (st.seth k (st.gen k) (.val (.slice t) l)) tm w := by
              refine i.frozen ⟨fun _ => rfl, fun q => ?_, fun q => ?_⟩
              · rw [gen_seth]; split
                · rename_i e; subst e; rfl
                · rfl
              · rw [cont_seth]; split
                · rename_i e; subst e; exact .inr ⟨t, l, hk, rfl⟩
                · exact .inl rfl
            have hc' : (st.seth k (st.gen k) (.val (.slice t) l)).cont h = .box fs := by rw [cont_seth, if_neg hne]; exact hc
            have hk' : (st.seth k (st.gen k) (.val (.slice t) l)).cont k = .val (.slice t) l := by rw [cont_seth, if_pos rfl]
            have hgk : (st.seth k (st.gen k) (.val (.slice t) l)).gen k = st.gen k := by rw [gen_seth, if_pos rfl]
            have hgh : (st.seth k (st.gen k) (.val (.slice t) l)).gen h = st.gen h := by rw [gen_seth, if_neg hne]
            have := i'.rebox hc' (fs' := fs.set j (.val (.slice t) (view l s))) fun cs hcs => Row.setAt hcs hj fun c hF => by
              obtain ⟨v, rfl, _, hv⟩ := hF
              have hv' : V1 w (Owned Z B (st.seth k (st.gen k) (.val (.slice t) l))) B (st.seth k (st.gen k) (.val (.slice t) l)) (.lref k ((st.seth k (st.gen k) (.val (.slice t) l)).gen k) s) v := by
                rw [hgk]; exact hv
              exact frozen_reads i'.rel hk' hv'
            rw [hgh] at this
            exact this
          | val u l =>
            cases u with
            | slice t =>
              refine i.rebox hc fun cs hcs => Row.setAt hcs hj fun c hF => ?_
              obtain ⟨v, rfl, _, hv⟩ := hF
              exact frozen_reads i.rel hk hv
            | _ => exact i
          | _ => exact i
      | _ => exact i
  | _ => exact i

theorem Inv.reslot {tm : Array Value} (i : Inv n pn Z M w0 B st tm w) {t : Nat} {v : AV} (h : VR w (Owned Z B st) B st v (tm.getD t undef)) : Inv n pn Z M w0 B (st.set t v) tm w :=
  ⟨Rel.retell i.rel h, i.tr, i.own, i.hz, i.size, i.pin⟩

theorem Inv.convP {tm : Array Value} (i : Inv n pn Z M w0 B st tm w) (t : Nat) : Inv n pn Z M w0 B (convP t st) tm w := by
  unfold Pv.convP
  have hv := i.rel.vr t
  cases hg : st.get t with
  | lref h g s =>
    cases s with
    | some s => exact i
    | none =>
      dsimp only
      cases hb : Nat.beq (st.gen h) g with
      | false => exact i
      | true =>
        have hb := Nat.eq_of_beq_eq_true hb
        subst hb
        rw [hg] at hv
        dsimp only
        have key : ∀ {u : Ty} {l : List (El u)}, asList (st.cont h) = some ⟨u, l⟩ → Inv n pn Z M w0 B (st.set t (.lref h (st.gen h) (some (0, l.length)))) tm w := fun {u l} hl => by
          refine i.reslot ?_
          obtain ⟨h1, h2⟩ := hv
          refine ⟨h1, fun _ u' l' hl' => ?_⟩
          rw [hl] at hl'
          cases hl'
          obtain ⟨g1, g2⟩ := h2 rfl u l hl
          exact ⟨by simp [sOff, sLen], by simpa [sOff, sLen] using g2⟩
        cases hc : st.cont h with
        | own u l => exact key (by rw [hc]; rfl)
        | val u l =>
          cases u with
          | slice u => exact key (by rw [hc]; rfl)
          | _ => exact i
        | _ => exact i
  | _ => exact i

theorem Inv.convV {tm : Array Value} (i : Inv n pn Z M w0 B st tm w) (t : Nat) : Inv n pn Z M w0 B (convV t st) tm w := by
  unfold Pv.convV
  cases hg : st.get t with
  | lref h g s =>
    dsimp only
    cases hb : Nat.beq (st.gen h) g with
    | false => exact i
    | true =>
      have hb := Nat.eq_of_beq_eq_true hb
      subst hb
      dsimp only
      have fin : ∀ {st2 : St}, Inv n pn Z M w0 B st2 tm w → st2.gen h = st.gen h → st2.get t = .lref h (st.gen h) s → ∀ {u : Ty} {l : List (El u)}, st2.cont h = .val (.slice u) l → Inv n pn Z M w0 B (st2.set t (.val (.slice u) (view l s))) tm w := fun {st2} i2 h1 h2 {u l} h3 => by
        refine i2.reslot ?_
        have hv := i2.rel.vr t
        rw [h2, ← h1] at hv
        exact ⟨[_], frozen_reads i2.rel h3 hv, rfl⟩
      cases hc : st.cont h with
      | own u l =>
        have i' : Inv n pn Z M w0 B (st.seth h (st.gen h) (.val (.slice u) l)) tm w := by
          refine i.frozen ⟨fun _ => rfl, fun q => ?_, fun q => ?_⟩
          · rw [gen_seth]; split
            · rename_i e; subst e; rfl
            · rfl
          · rw [cont_seth]; split
            · rename_i e; subst e; exact .inr ⟨u, l, hc, rfl⟩
            · exact .inl rfl
        exact fin i' (by rw [gen_seth, if_pos rfl]) hg (by rw [cont_seth, if_pos rfl])
      | val u l =>
        cases u with
        | slice u => exact fin i rfl hg hc
        | _ => exact i
      | _ => exact i
  | _ => exact i

theorem Inv.convs {tm : Array Value} : ∀ {l : List (Nat × Nat)} {st : St}, Inv n pn Z M w0 B st tm w → Inv n pn Z M w0 B (convs l st) tm w
  | [], _, i => i
  | p :: l, st, i => by
    refine Inv.convs (l := l) ?_
    split
    · exact i.conv1 p.1 p.2
    · split
      · exact i.convP _
      · exact i.convV _

theorem Inv.weak {tm : Array Value} (i : Inv n pn Z M w0 B st tm w) (h : Weak st st') : Inv n pn Z M w0 B st' tm w := by
  obtain ⟨c, p, f⟩ := h
  exact (i.convs.prune p).frozen f

theorem sameEx_eq {a b : Ex} (h : sameEx a b = true) : a = b := by
  cases a <;> cases b <;> first | rfl | (simp only [sameEx, reduceCtorEq] at h; done) | (have := Nat.eq_of_beq_eq_true h; rw [this])

theorem decOut_some : ∀ {l : List Alt} {e : Ex} {st : St} {o : Out l}, decOut l e st = some o → ∃ st', Weak st st' ∧ ∀ (R : Type) (K : Ex → St → Option R), outK K l o = K e st'
  | [], _, _, o, _ => nomatch o
  | [a], e, st, o, h => by
    simp only [decOut] at h
    split at h
    · rename_i he
      rw [← sameEx_eq he]
      exact ⟨_, decT_enc h, fun R K => by simp only [outK]⟩
    · cases h
  | a :: b :: l, e, st, o, h => by
    simp only [decOut] at h
    have key : (decOut (b :: l) e st).map Sum.inr = some o → ∃ st', Weak st st' ∧ ∀ (R : Type) (K : Ex → St → Option R), outK K (a :: b :: l) o = K e st' := fun h => by
      obtain ⟨y, h1, rfl⟩ := Option.map_eq_some_iff.1 h
      obtain ⟨p, hw, hp⟩ := decOut_some h1
      exact ⟨p, hw, fun R K => by simp only [outK]; exact hp R K⟩
    split at h
    · rename_i he
      split at h
      · rename_i x hx
        cases h
        rw [← sameEx_eq he]
        exact ⟨_, decT_enc hx, fun R K => by simp only [outK]⟩
      · exact key h
    · exact key h

theorem hasL_in : ∀ {c : Code} {l : Nat}, hasL c l = true → l ∈ labelsIn c
  | .seq a b, l, h => by
    unfold hasL at h
    rw [Bool.or_eq_true] at h
    unfold labelsIn
    rw [List.mem_append]
    exact h.imp hasL_in hasL_in
  | .label l', l, h => by
    have := Nat.eq_of_beq_eq_true (show Nat.beq l' l = true from h)
    simp [labelsIn, this]
  | .skip, _, h | .region _ _ _, _, h | .cond _ _ _, _, h | .block _ _, _, h | .loop _, _, h | .rangeFunc _ _ _ _, _, h | .exit _, _, h | .scope _, _, h | .goto _, _, h | .ret, _, h | .refuse _, _, h => by cases h

section
variable (LT : LTab) (J : JTab) (ds : List Deferred)

/-- a piece of code's reading holds -/
def Fine (E : Env) (ds : List Deferred) (n : Nat) (pn : Nat → Option Nat) (Z M : Nat → Prop) (w0 : World) (c : Code) (f : (R : Type) → St → (Ex → St → Option R) → Option R) : Prop :=
  ∀ (R : Type) (st : St) (K : Ex → St → Option R) (r : R), f R st K = some r → ∀ (B : Nat → Option Nat) (a : Act) (w : World), Inv n pn Z M w0 B st a.tmps w → a.defers = ds → c.wp E.P (QK n pn Z M w0 ds K r) a w

theorem Fine.seq {x y : Code} {f g : (R : Type) → St → (Ex → St → Option R) → Option R} (hx : Fine E ds n pn Z M w0 x f) (hy : Fine E ds n pn Z M w0 y g) : Fine E ds n pn Z M w0 (.seq x y) fun R st K => f R st (seqK (g R) K) := by
  intro R st K r e B a w i hd
  refine wp_seq (wp_mono (hx R st _ r e B a w i hd) ?_)
  rintro e a' w' ⟨ex, B', st', rfl, hd', i', hk⟩
  cases ex with
  | normal => exact hy R st' K r hk B' a' w' i' hd'
  | exit id => exact ⟨.exit id, B', st', rfl, hd', i', hk⟩
  | goto l => exact ⟨.goto l, B', st', rfl, hd', i', hk⟩
  | ret => exact ⟨.ret, B', st', rfl, hd', i', hk⟩

theorem QK.out {R : Type} {l : List Alt} {o : Out l} {K : Ex → St → Option R} {r : R} (hk : outK K l o = some r) {e : Exit} {a : Act} {w : World} (h : QK n pn Z M w0 ds (decOut l) o e a w) : QK n pn Z M w0 ds K r e a w := by
  obtain ⟨ex, B, st, rfl, hd, i, hdec⟩ := h
  obtain ⟨p, hw, hp⟩ := decOut_some hdec
  exact ⟨ex, B, _, rfl, hd, i.weak hw, by rw [← hp R K]; exact hk⟩

theorem Fine.join {c : Code} {R : Type} {j : Option (List Alt)} {f : (R : Type) → (Ex → St → Option R) → Option R} {K : Ex → St → Option R} {r : R} (e : joinK j f K = some r) {a : Act} {w : World}
    (h : ∀ (R : Type) (K : Ex → St → Option R) (r : R), f R K = some r → c.wp E.P (QK n pn Z M w0 ds K r) a w) : c.wp E.P (QK n pn Z M w0 ds K r) a w := by
  unfold joinK at e
  cases j with
  | none => exact h R K r e
  | some l =>
    obtain ⟨o, h1, h2⟩ := Option.bind_eq_some_iff.1 e
    exact wp_mono (h _ _ o h1) fun e a w hq => QK.out ds h2 hq

theorem Fine.loop {c : Code} (hf : Fine E ds n pn Z M w0 c (evalC E LT J c)) (hok : LoopOk E LT J c) : Fine E ds n pn Z M w0 (.loop c) fun R st K => loopK (LT (key c)) st K := by
  intro R st K r e B a w i hd b k cs
  unfold loopK at e
  cases hS : LT (key c) with
  | none => rw [hS] at e; cases e
  | some S =>
  rw [hS] at e
  obtain ⟨x, h1, h2⟩ := Option.bind_eq_some_iff.1 e
  obtain ⟨o, h3, h4⟩ := Option.bind_eq_some_iff.1 h2
  obtain ⟨m, hm⟩ := hok S hS x o h3
  have key : ∀ m x B a w, it (stepD E LT J c S) m x = some o → Inv n pn Z M w0 B (encT S.inA x) a.tmps w → a.defers = ds →
      ∃ e a' w', QK n pn Z M w0 ds K r e a' w' ∧ Arrives E.P (lone (b.at a (.code c :: .inLoop c :: k)) cs w) b k cs e a' w' := by
    intro m
    induction m with
    | zero => intro x B a w e; cases e
    | succ m ih =>
      intro x B a w e i hd
      simp only [it, stepD] at e
      obtain ⟨e1, a1, w1, ⟨ex, B1, st1, rfl, hd1, i1, hk⟩, harr⟩ := hf _ _ _ o e B a w i hd b (.inLoop c :: k) cs
      cases ex with
      | normal =>
        obtain ⟨x1, g1, g2⟩ := Option.bind_eq_some_iff.1 hk
        obtain ⟨e2, a2, w2, q2, harr2⟩ := ih x1 B1 a1 w1 g2 (i1.weak (decT_enc g1)) hd1
        exact ⟨e2, a2, w2, q2, .of_steps (Steps.trans harr (.one step_inLoop)) harr2⟩
      | exit id => exact ⟨_, a1, w1, QK.out ds h4 ⟨.exit id, B1, st1, rfl, hd1, i1, hk⟩, .pass (x := .inLoop c) rfl (fun _ _ => .inl (by simp [exOf])) harr⟩
      | goto l => exact ⟨_, a1, w1, QK.out ds h4 ⟨.goto l, B1, st1, rfl, hd1, i1, hk⟩, .pass (x := .inLoop c) rfl (fun _ _ => .inl (by simp [exOf])) harr⟩
      | ret => exact ⟨_, a1, w1, QK.out ds h4 ⟨.ret, B1, st1, rfl, hd1, i1, hk⟩, .pass (x := .inLoop c) rfl (fun _ _ => .inl (by simp [exOf])) harr⟩
  obtain ⟨e', a', w', hq, harr⟩ := key m x B a w hm (i.weak (decT_enc h1)) hd
  exact ⟨e', a', w', hq, .of_steps (.one step_loop) harr⟩

theorem Fine.scope {c : Code} (hf : Fine E ds n pn Z M w0 c (evalC E LT J c)) (hg : ∀ l, hasL c l = true → ∃ rest, findLabel c l = some rest ∧ Fine E ds n pn Z M w0 rest (evalF E LT J c l))
    (hok : ∀ l, l ∈ labelsIn c → LabelOk E LT J (c, l)) : Fine E ds n pn Z M w0 (.scope c) fun R st K => evalC E LT J c R st (scopeK LT c K) := by
  intro R st K r e B a w i hd b k cs
  have jump : ∀ l st B a w, hasL c l = true → loopK (LT (100000 + l)) st K = some r → Inv n pn Z M w0 B st a.tmps w → a.defers = ds →
      ∃ rest, findLabel c l = some rest ∧ ∃ e a' w', QK n pn Z M w0 ds K r e a' w' ∧ Arrives E.P (lone (b.at a (.code rest :: .inScope c :: k)) cs w) b k cs e a' w' := by
    intro l st B a w hl e i hd
    obtain ⟨rest, hrest, hr⟩ := hg l hl
    refine ⟨rest, hrest, ?_⟩
    unfold loopK at e
    cases hS : LT (100000 + l) with
    | none => rw [hS] at e; cases e
    | some S =>
    rw [hS] at e
    obtain ⟨x, h1, h2⟩ := Option.bind_eq_some_iff.1 e
    obtain ⟨o, h3, h4⟩ := Option.bind_eq_some_iff.1 h2
    obtain ⟨m, hm⟩ := hok l (hasL_in hl) S hS x o h3
    have key : ∀ m x B a w, it (stepL' E LT J c l S) m x = some o → Inv n pn Z M w0 B (encT S.inA x) a.tmps w → a.defers = ds →
        ∃ e a' w', QK n pn Z M w0 ds K r e a' w' ∧ Arrives E.P (lone (b.at a (.code rest :: .inScope c :: k)) cs w) b k cs e a' w' := by
      intro m
      induction m with
      | zero => intro x B a w e; cases e
      | succ m ih =>
        intro x B a w e i hd
        simp only [it, stepL'] at e
        obtain ⟨e1, a1, w1, ⟨ex, B1, st1, rfl, hd1, i1, hk⟩, harr⟩ := hr _ _ _ o e B a w i hd b (.inScope c :: k) cs
        cases ex with
        | normal => exact ⟨_, a1, w1, QK.out ds h4 ⟨.normal, B1, st1, rfl, hd1, i1, hk⟩, Steps.trans harr (.one step_inScope)⟩
        | exit id => exact ⟨_, a1, w1, QK.out ds h4 ⟨.exit id, B1, st1, rfl, hd1, i1, hk⟩, fun k' hk => harr k' (by simp [exitTo, hk])⟩
        | ret => exact ⟨_, a1, w1, QK.out ds h4 ⟨.ret, B1, st1, rfl, hd1, i1, hk⟩, harr⟩
        | goto l' =>
          dsimp only at hk
          cases hb : Nat.beq l' l with
          | true =>
            rw [hb] at hk
            have := Nat.eq_of_beq_eq_true hb
            subst this
            obtain ⟨x1, g1, g2⟩ := Option.bind_eq_some_iff.1 hk
            obtain ⟨e2, a2, w2, q2, harr2⟩ := ih x1 B1 a1 w1 g2 (i1.weak (decT_enc g1)) hd1
            exact ⟨e2, a2, w2, q2, .of_steps (harr _ (by simp [gotoIn, hrest])) harr2⟩
          | false =>
            rw [hb] at hk
            dsimp only at hk
            cases hh : hasL c l' with
            | true => rw [hh] at hk; cases hk
            | false =>
              rw [hh] at hk
              exact ⟨_, a1, w1, QK.out ds h4 ⟨.goto l', B1, st1, rfl, hd1, i1, hk⟩, fun k' hk => harr k' (by simp [gotoIn, hasL_none hh, hk])⟩
    exact key m x B a w hm (i.weak (decT_enc h1)) hd
  obtain ⟨e1, a1, w1, ⟨ex, B1, st1, rfl, hd1, i1, hk⟩, harr⟩ := hf _ _ _ r e B a w i hd b (.inScope c :: k) cs
  cases ex with
  | normal => exact ⟨_, a1, w1, ⟨.normal, B1, st1, rfl, hd1, i1, hk⟩, .head step_scope (Steps.trans harr (.one step_inScope))⟩
  | exit id => exact ⟨_, a1, w1, ⟨.exit id, B1, st1, rfl, hd1, i1, hk⟩, fun k' hk => .head step_scope (harr k' (by simp [exitTo, hk]))⟩
  | ret => exact ⟨_, a1, w1, ⟨.ret, B1, st1, rfl, hd1, i1, hk⟩, .of_steps (.one step_scope) harr⟩
  | goto l' =>
    unfold scopeK at hk
    dsimp only at hk
    cases hh : hasL c l' with
    | true =>
      rw [hh] at hk
      obtain ⟨rest, hrest, e2, a2, w2, q2, harr2⟩ := jump l' st1 B1 a1 w1 hh hk i1 hd1
      exact ⟨e2, a2, w2, q2, .of_steps (.head step_scope (harr _ (by simp [gotoIn, hrest]))) harr2⟩
    | false =>
      rw [hh] at hk
      exact ⟨_, a1, w1, ⟨.goto l', B1, st1, rfl, hd1, i1, hk⟩, fun k' hk => .head step_scope (harr k' (by simp [gotoIn, hasL_none hh, hk]))⟩

theorem evalC_fine (G : Good E) (hE : E.n = n) (c : Code) : (∀ b ∈ loopsOf c, LoopOk E LT J b) → (∀ p ∈ labelsOf c, LabelOk E LT J p) →
    Fine E ds n pn Z M w0 c (evalC E LT J c) ∧ ∀ l, hasL c l = true → ∃ rest, findLabel c l = some rest ∧ Fine E ds n pn Z M w0 rest (evalF E LT J c l) := by
  induction c with
  | skip => exact fun _ _ => ⟨fun R st K r e B a w i hd => wp_skip ⟨.normal, B, st, rfl, hd, i, e⟩, fun l h => by cases h⟩
  | label l' =>
    refine fun _ _ => ⟨fun R st K r e B a w i hd => wp_label ⟨.normal, B, st, rfl, hd, i, e⟩, fun l h => ?_⟩
    have := Nat.eq_of_beq_eq_true (show Nat.beq l' l = true from h)
    exact ⟨.skip, by simp [findLabel, this], fun R st K r e B a w i hd => wp_skip ⟨.normal, B, st, rfl, hd, i, e⟩⟩
  | ret => exact fun _ _ => ⟨fun R st K r e B a w i hd => wp_ret ⟨.ret, B, st, rfl, hd, i, e⟩, fun l h => by cases h⟩
  | exit id => exact fun _ _ => ⟨fun R st K r e B a w i hd => wp_exit ⟨.exit id, B, st, rfl, hd, i, e⟩, fun l h => by cases h⟩
  | goto l' => exact fun _ _ => ⟨fun R st K r e B a w i hd => wp_goto ⟨.goto l', B, st, rfl, hd, i, e⟩, fun l h => by cases h⟩
  | seq x y ihx ihy =>
    intro hL hl
    simp only [loopsOf, labelsOf, List.mem_append] at hL hl
    have hx := ihx (fun b h => hL b (.inl h)) fun p h => hl p (.inl h)
    have hy := ihy (fun b h => hL b (.inr h)) fun p h => hl p (.inr h)
    refine ⟨Fine.seq ds hx.1 hy.1, fun l h => ?_⟩
    cases ha : hasL x l with
    | true =>
      obtain ⟨rest, h1, h2⟩ := hx.2 l ha
      refine ⟨.seq rest y, by simp [findLabel, h1], ?_⟩
      have := Fine.seq ds h2 hy.1
      intro R st K r e
      simp only [evalF, ha] at e
      exact this R st K r e
    | false =>
      have hb : hasL y l = true := by simpa [hasL, ha] using h
      obtain ⟨rest, h1, h2⟩ := hy.2 l hb
      refine ⟨rest, by simp [findLabel, hasL_none ha, h1], ?_⟩
      intro R st K r e
      simp only [evalF, ha] at e
      exact h2 R st K r e
  | cond c x y ihx ihy =>
    intro hL hl
    simp only [loopsOf, labelsOf, List.mem_append] at hL hl
    have hx := ihx (fun b h => hL b (.inl h)) fun p h => hl p (.inl h)
    have hy := ihy (fun b h => hL b (.inr h)) fun p h => hl p (.inr h)
    refine ⟨fun R st K r e B a w i hd => ?_, fun l h => by cases h⟩
    simp only [evalC] at e
    rw [exec_run] at e
    obtain ⟨⟨bb, st1⟩, h1, h2⟩ := Option.bind_eq_some_iff.1 e
    obtain ⟨v, st2, h3, h4⟩ := run_some h1
    obtain ⟨rfl, hv⟩ := opd_sound i.rel h3
    obtain ⟨rfl, rfl⟩ := asB_some h4
    have hb := hv.bool
    refine Fine.join ds h2 fun R K r e => ?_
    refine wp_cond_split hb (fun ht => ?_) fun hf => ?_
    · have ht : bb = true := ht
      subst ht
      rw [if_pos rfl] at e
      exact hx.1 R _ _ r e B a w i hd
    · have hf : bb = false := hf
      subst hf
      rw [if_neg (by simp)] at e
      exact hy.1 R _ _ r e B a w i hd
  | block id x ih =>
    intro hL hl
    have hx := ih hL hl
    refine ⟨fun R st K r e B a w i hd => ?_, fun l h => by cases h⟩
    simp only [evalC] at e
    refine Fine.join ds e fun R K r e => ?_
    refine wp_block (wp_mono (hx.1 R _ _ r e B a w i hd) ?_)
    rintro e a' w' ⟨ex, B', st', rfl, hd', i', hk⟩
    cases ex with
    | exit id' =>
      show (if id' = id then _ else _)
      by_cases hid : id' = id
      · subst hid
        rw [if_pos rfl]
        exact ⟨.normal, B', st', rfl, hd', i', by simpa [blockK] using hk⟩
      · rw [if_neg hid]
        have hb : Nat.beq id' id = false := by
          cases hq : Nat.beq id' id with
          | false => rfl
          | true => exact absurd (Nat.eq_of_beq_eq_true hq) hid
        exact ⟨.exit id', B', st', rfl, hd', i', by simpa [blockK, hb] using hk⟩
    | normal => exact ⟨.normal, B', st', rfl, hd', i', hk⟩
    | goto l => exact ⟨.goto l, B', st', rfl, hd', i', hk⟩
    | ret => exact ⟨.ret, B', st', rfl, hd', i', hk⟩
  | loop x ih =>
    intro hL hl
    have hx := ih (fun b h => hL b (List.mem_cons_of_mem _ h)) hl
    refine ⟨?_, fun l h => by cases h⟩
    have := Fine.loop (E := E) LT J ds hx.1 (hL x List.mem_cons_self)
    intro R st K r e
    simp only [evalC] at e
    exact this R st K r e
  | scope x ih =>
    intro hL hl
    simp only [labelsOf, List.mem_append, List.mem_map] at hl
    have hx := ih hL fun p h => hl p (.inr h)
    refine ⟨?_, fun l h => by cases h⟩
    have := Fine.scope (E := E) LT J ds hx.1 hx.2 fun l h => hl (x, l) (.inl ⟨l, h, rfl⟩)
    intro R st K r e
    simp only [evalC] at e
    exact this R st K r e
  | region id ops draw =>
    refine fun _ _ => ⟨fun R st K r e B a w i hd => ?_, fun l h => by cases h⟩
    simp only [evalC] at e
    refine Fine.join ds e fun R K r e => ?_
    cases draw with
    | false => exact region_wp G hE i e fun a' B' st' w' hd' i' hk => ⟨.normal, B', st', rfl, hd'.trans hd, i', hk⟩
    | true => exact draw_wp G hE i e fun a' B' st' w' hd' i' hk => ⟨.normal, B', st', rfl, hd'.trans hd, i', hk⟩
  | rangeFunc f ps x y _ _ => exact fun _ _ => ⟨fun R st K r e => by (simp only [evalC] at e; cases e), fun l h => by cases h⟩
  | refuse s => exact fun _ _ => ⟨fun R st K r e => by (simp only [evalC] at e; cases e), fun l h => by cases h⟩
end
end
end Go.Pv
