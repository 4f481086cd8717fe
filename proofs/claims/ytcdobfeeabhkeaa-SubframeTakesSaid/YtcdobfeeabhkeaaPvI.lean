/- A call by what its callee is known to do. -/
import Derived.Test.YtcdobfeeabhkeaaPvH
set_option autoImplicit false
set_option linter.unusedVariables false
set_option linter.unusedSimpArgs false
namespace Go.Pv

/-- the function with the number f does what S says, wherever it is called -/
def Sound (P : Program) (f : FuncId) (S : Spec) : Prop :=
  ∀ as x, S.F as = some x → ∀ (Z : Nat → Prop) (X : List Nat) (vs : Array Value) (w : World), X.Nodup → (∀ b ∈ X, ¬ Z b) → (∀ b, Z b → b < w.heap.size) → (∀ b ∈ X, b < w.heap.size) → OVl w (ZX Z X) as vs.toList X →
    Calls P f vs w fun e w' => ∃ v X1 X2, e = .returned v ∧ (X1 ++ X2).Nodup ∧ (∀ b ∈ X1 ++ X2, ¬ Z b ∧ (b ∈ X ∨ w.heap.size ≤ b)) ∧
      OV3 w' (ZX Z (X1 ++ X2)) (S.enc x).1 v X1 ∧ OVl w' (ZX Z (X1 ++ X2)) (S.enc x).2 (bv as vs.toList) X2 ∧ Tr (· ∈ X) w w'

def L (B : Nat → Option Nat) (st : St) (b : Nat) : Prop := ∃ h, live (st.cont h) = true ∧ B h = some b

section
variable {Z : Nat → Prop} {tm : Array Value} {w : World}

theorem freeze_live {a : AV} {st st' : St} (h : run (freeze a) st = some ((), st')) : (∀ k, live (st'.cont k) = true → live (st.cont k) = true) ∧ ∀ hh g s, a = .lref hh g s → live (st'.cont hh) = false := by
  cases a with
  | lref hh g s =>
    obtain ⟨c, st1, h1, h2⟩ := run_some h
    obtain ⟨rfl, rfl, rfl⟩ := run_home h1
    generalize hcc : st1.cont hh = c at h2
    cases c with
    | own t l =>
      simp only [run, Option.some.injEq, Prod.mk.injEq, true_and] at h2
      subst h2
      refine ⟨fun k hk => ?_, fun k g s e => ?_⟩
      · rw [cont_seth] at hk
        by_cases e : hh = k
        · simp [e, live] at hk
        · simpa only [e, if_false] using hk
      · injection e with e1; subst e1; rw [cont_seth, if_pos rfl]; rfl
    | val t x =>
      obtain ⟨_, rfl⟩ := run_ret h2
      exact ⟨fun k hk => hk, fun k g s e => by injection e with e1; subst e1; rw [hcc]; rfl⟩
    | _ => cases h2
  | _ => obtain ⟨_, rfl⟩ := run_ret h; exact ⟨fun k hk => hk, fun hh g s e => by cases e⟩

theorem freezeAll_sound : ∀ {vs : List AV} {B : Nat → Option Nat} {st st' : St} (r : Rel Z B st tm w) (h : run (freezeAll vs) st = some ((), st')),
    Rel Z B st' tm w ∧ Stay w w (Owned Z B st) (Owned Z B st') B B st st' ∧ (∀ k, live (st'.cont k) = true → live (st.cont k) = true) ∧ (∀ hh g s, .lref hh g s ∈ vs → live (st'.cont hh) = false) ∧ ∀ f h g, .fnp f h g ∉ vs := by
  intro vs
  induction vs with
  | nil => intro B st st' r h; obtain ⟨_, rfl⟩ := run_ret h; exact ⟨r, Stay.refl, fun _ h => h, (fun _ _ _ h => by cases h), fun _ _ _ h => by cases h⟩
  | cons v vs ih =>
    intro B st st' r h
    cases v with
    | lref hh g s =>
      obtain ⟨_, st1, h1, h2⟩ := run_some h
      obtain ⟨ra, sa, _⟩ := freeze_sound r h1
      obtain ⟨la, ka⟩ := freeze_live h1
      obtain ⟨rb, sb, lb, kb, nb⟩ := ih ra h2
      refine ⟨rb, sa.trans sb, fun k hk => la k (lb k hk), fun k g' s' hm => ?_, fun f h g hm => nb f h g ((List.mem_cons.1 hm).resolve_left (by intro e; cases e))⟩
      rcases List.mem_cons.1 hm with e | hm
      · injection e with e1
        subst e1
        have := ka k g s rfl
        cases hl : live (st'.cont k) with
        | false => rfl
        | true => rw [lb k hl] at this; cases this
      · exact kb k g' s' hm
    | fnp f hh g => cases h
    | _ =>
      obtain ⟨rb, sb, lb, kb, nb⟩ := ih (st := st) (st' := st') r h
      exact ⟨rb, sb, lb, (fun k g' s' hm => kb k g' s' ((List.mem_cons.1 hm).resolve_left (by intro e; cases e))), fun f h g hm => nb f h g ((List.mem_cons.1 hm).resolve_left (by intro e; cases e))⟩

/-- what holds no slice hangs on no block but its own -/
theorem OV1.clean {O O' : Nat → Prop} {a : AV} (h : clean1 a = true) {cs : List Value} {X : List Nat} (hv : OV1 w O a cs X) : OV1 w O' a cs X := by
  cases a with
  | val t x => exact ⟨Cells.flat h hv.1, hv.2⟩
  | own t l =>
    obtain ⟨v, bo, e, h1, h2, h3⟩ := hv
    refine ⟨v, bo, e, h1, ?_, h3⟩
    rcases h2 with h2 | ⟨b, arr, e, cs, rest, m1, m2, m3, m4⟩
    · exact .inl h2
    · exact .inr ⟨b, arr, e, cs, rest, m1, m2, m3, m4.mono fun _ _ hx => Cells.flat h hx⟩
  | nils => exact hv
  | nilp => exact hv
  | _ => cases h

theorem OVs.clean {O O' : Nat → Prop} : ∀ {as : List AV} (h : as.all clean1 = true) {cs : List Value} {X : List Nat} (hv : OVs w O as cs X), OVs w O' as cs X
  | [], _, _, _, hv => hv
  | a :: as, h, _, _, ⟨c1, c2, X1, X2, e1, e2, h1, h2⟩ => by
    simp only [List.all_cons, Bool.and_eq_true] at h
    exact ⟨c1, c2, X1, X2, e1, e2, h1.clean h.1, OVs.clean h.2 h2⟩

theorem OV2.clean {O O' : Nat → Prop} {a : AV} (h : clean2 a = true) {v : Value} {X : List Nat} (hv : OV2 w O a v X) : OV2 w O' a v X := by
  cases a with
  | val t x => obtain ⟨⟨cs, h1, h2⟩, h3⟩ := hv; exact ⟨⟨cs, Cells.flat h h1, h2⟩, h3⟩
  | own t l => exact OV1.clean (a := .own t l) h hv
  | nils => exact hv
  | nilp => exact hv
  | box fs =>
    obtain ⟨b, arr, e, X', h1, h2, h3, h4⟩ := hv
    exact ⟨b, arr, e, X', h1, h2, OVs.clean h h3, h4⟩
  | _ => cases h

theorem OVl.clean {O O' : Nat → Prop} : ∀ {as : List AV} (h : as.all clean2 = true) {vs : List Value} {X : List Nat} (hv : OVl w O as vs X), OVl w O' as vs X
  | [], _, _, _, hv => hv
  | a :: as, h, _, _, ⟨v, vs, X1, X2, e1, e2, h1, h2⟩ => by
    simp only [List.all_cons, Bool.and_eq_true] at h
    exact ⟨v, vs, X1, X2, e1, e2, h1.clean h.1, OVl.clean h.2 h2⟩

theorem OV3.clean {O O' : Nat → Prop} {a : AV} (h : clean a = true) {v : Value} {X : List Nat} (hv : OV3 w O a v X) : OV3 w O' a v X := by
  cases a with
  | tup as => obtain ⟨arr, e, h1⟩ := hv; exact ⟨arr, e, h1.clean h⟩
  | val t x => exact OV2.clean (a := .val t x) h hv
  | own t l => exact OV2.clean (a := .own t l) h hv
  | nils => exact hv
  | nilp => exact hv
  | box fs => exact OV2.clean (a := .box fs) h hv
  | _ => cases h

theorem OV3.sub {O Oc : Nat → Prop} (h : ∀ b, b < w.heap.size → Oc b → O b) {a : AV} {v : Value} {X : List Nat} (hv : OV3 w O a v X) : OV3 w Oc a v X := by
  cases a with
  | tup as => obtain ⟨arr, e, h1⟩ := hv; exact ⟨arr, e, h1.sub h⟩
  | undef => exact OV2.sub (a := .undef) (v := v) (X := X) h hv
  | agg fs => exact OV2.sub (a := .agg fs) (v := v) (X := X) h hv
  | nils => exact OV2.sub (a := .nils) (v := v) (X := X) h hv
  | lref a b c => exact OV2.sub (a := .lref a b c) (v := v) (X := X) h hv
  | ptr a b c d => exact OV2.sub (a := .ptr a b c d) (v := v) (X := X) h hv
  | eptr t x c => exact OV2.sub (a := .eptr t x c) (v := v) (X := X) h hv
  | nilp => exact OV2.sub (a := .nilp) (v := v) (X := X) h hv
  | own t l => exact OV2.sub (a := .own t l) (v := v) (X := X) h hv
  | val t x => exact OV2.sub (a := .val t x) (v := v) (X := X) h hv
  | box fs => exact OV2.sub (a := .box fs) (v := v) (X := X) h hv
  | fnp a b c => exact OV2.sub (a := .fnp a b c) (v := v) (X := X) h hv
  | mref a b => exact OV2.sub (a := .mref a b) (v := v) (X := X) h hv
  | mp t l => exact OV2.sub (a := .mp t l) (v := v) (X := X) h hv

/-- the world has gone on where it was left to others -/
theorem Rel.passed {X Y : List Nat} {B : Nat → Option Nat} {st : St} {w' : World} (r : Rel (ZX Z X) B st tm w) (t : Tr (· ∈ X) w w') (hY : ∀ b ∈ Y, b ∈ X ∨ w.heap.size ≤ b) :
    Rel (ZX Z Y) B st tm w' ∧ Stay w w' (Owned (ZX Z X) B st) (Owned (ZX Z Y) B st) B B st st := by
  have s : Stay w w' (Owned (ZX Z X) B st) (Owned (ZX Z Y) B st) B B st st := by
    refine ⟨t.size, fun b hb hO => t.same b hb fun h => hO (.inl (.inr h)), fun b hb hO => ?_, fun _ => .refl _, fun h _ => ⟨rfl, fun t l hl => ⟨l, hl, rfl⟩⟩, fun b arr e h => t.row h⟩
    rcases hO with (hO | hO) | hO
    · exact .inl (.inl hO)
    · rcases hY b hO with h | h
      · exact .inl (.inr h)
      · omega
    · exact .inr hO
  refine ⟨r.step s (fun h => ?_) r.inj (fun h b h1 h2 => ?_) fun t => .inl ⟨rfl, rfl⟩, s⟩
  · by_cases hl : asList (st.cont h) ≠ none ∨ live (st.cont h) = true
    · refine .inl ⟨rfl, rfl, fun b hb => t.same b (r.blk hb hl) fun hX => ?_⟩
      by_cases hlk : live (st.cont h) = true
      · exact r.ext h b hlk hb (.inr hX)
      · have hr := r.hr h
        generalize st.cont h = ck at hl hlk hr
        cases ck with
        | own t l => exact hlk rfl
        | box fs => exact hlk rfl
        | mp t l => exact hlk rfl
        | val t' x' =>
          cases t' with
          | slice t' => exact hr.2 b hb (.inl (.inr hX))
          | _ => simp [asList, live] at hl
        | _ => simp [asList, live] at hl
    · right
      generalize st.cont h = c at hl
      cases c with
      | own t l => simp [asList] at hl
      | box fs => simp [live] at hl
      | mp t l => simp [live] at hl
      | val t x => cases t <;> first | trivial | simp [asList] at hl
      | _ => trivial
  · rintro (hz | hx)
    · exact r.ext h b h1 h2 (.inl hz)
    · rcases hY b hx with h3 | h3
      · exact r.ext h b h1 h2 (.inr h3)
      · have := r.blk h2 (.inr h1)
        omega

theorem ZX_nil (Z : Nat → Prop) (x : Nat) : ZX Z [] x ↔ Z x := by unfold ZX; simp

theorem OVs.lt {O : Nat → Prop} : ∀ {as : List AV} {cs : List Value} {X : List Nat} (hv : OVs w O as cs X), ∀ b ∈ X, b < w.heap.size
  | [], _, _, ⟨_, rfl⟩, _, h => by cases h
  | a :: as, _, _, ⟨c1, c2, X1, X2, _, rfl, h1, h2⟩, b, h => by
    rcases List.mem_append.1 h with h | h
    · cases a with
      | own t l =>
        obtain ⟨v, bo, _, _, h2, rfl⟩ := h1
        rcases h2 with h2 | ⟨b', arr, e, cs, rest, m1, m2, _⟩
        · rw [h2.1] at h; cases h
        · rw [m1] at h; simp at h; subst h; exact lt_of_get m2
      | mp t l =>
        obtain ⟨b', _, ⟨es, c, m1, _⟩, rfl⟩ := h1
        simp at h; subst h; exact lt_of_get m1
      | _ => first | exact h1.elim | (obtain ⟨_, rfl⟩ := h1; cases h)
    · exact OVs.lt h2 b h

theorem OV2.lt {O : Nat → Prop} {a : AV} {v : Value} {X : List Nat} (hv : OV2 w O a v X) : ∀ b ∈ X, b < w.heap.size := by
  intro b h
  have key : ∀ cs, OV1 w O a cs X → b < w.heap.size := fun cs h1 => OVs.lt (as := [a]) (cs := cs) ⟨cs, [], X, [], by simp, by simp, h1, rfl, rfl⟩ b h
  cases a with
  | box fs =>
    obtain ⟨b', arr, e, X', h1, h2, h3, rfl⟩ := hv
    rcases List.mem_cons.1 h with rfl | h
    · exact lt_of_get h2
    · exact h3.lt b h
  | val t x => obtain ⟨_, rfl⟩ := hv; cases h
  | eptr t x k => obtain ⟨_, rfl⟩ := hv; cases h
  | _ => exact key [v] hv

theorem OVl.lt {O : Nat → Prop} : ∀ {as : List AV} {cs : List Value} {X : List Nat} (hv : OVl w O as cs X), ∀ b ∈ X, b < w.heap.size
  | [], _, _, ⟨_, rfl⟩, _, h => by cases h
  | a :: as, _, _, ⟨c1, c2, X1, X2, _, rfl, h1, h2⟩, b, h => by
    rcases List.mem_append.1 h with h | h
    · exact h1.lt b h
    · exact OVl.lt h2 b h

theorem refsOk_sound : ∀ {vs : List AV} {st st' : St}, run (refsOk vs) st = some ((), st') → st' = st ∧ (∀ h g s, .lref h g s ∈ vs → (∃ t l, st.cont h = .own t l) ∨ ∃ t l, st.cont h = .val (.slice t) l) ∧ ∀ f h g, .fnp f h g ∈ vs → ∃ fs, st.cont h = .box fs := by
  intro vs
  induction vs with
  | nil => intro st st' e; exact ⟨(run_ret e).2, (fun _ _ _ h => by cases h), fun _ _ _ h => by cases h⟩
  | cons v vs ih =>
    intro st st' e
    cases v with
    | lref hh g s =>
      obtain ⟨c, st1, h1, h2⟩ := run_some e
      obtain ⟨rfl, rfl, rfl⟩ := run_home h1
      generalize hcc : st1.cont hh = c at h2
      have key : run (refsOk vs) st1 = some ((), st') → ((∃ t l, st1.cont hh = .own t l) ∨ ∃ t l, st1.cont hh = .val (.slice t) l) →
          st' = st1 ∧ (∀ h g' s', AV.lref h g' s' ∈ AV.lref hh (st1.gen hh) s :: vs → (∃ t l, st1.cont h = .own t l) ∨ ∃ t l, st1.cont h = .val (.slice t) l) ∧ ∀ f h g', AV.fnp f h g' ∈ AV.lref hh (st1.gen hh) s :: vs → ∃ fs, st1.cont h = .box fs := fun e hk => by
        obtain ⟨e1, e2, e3⟩ := ih e
        refine ⟨e1, fun h g' s' hm => ?_, fun f h g' hm => e3 f h g' ((List.mem_cons.1 hm).resolve_left (by intro e; cases e))⟩
        rcases List.mem_cons.1 hm with e | hm
        · injection e with e1; subst e1; exact hk
        · exact e2 h g' s' hm
      cases c with
      | own t l => exact key h2 (.inl ⟨t, l, hcc⟩)
      | val t x => cases t with
        | slice t => exact key h2 (.inr ⟨t, x, hcc⟩)
        | _ => cases h2
      | _ => cases h2
    | fnp f hh g =>
      obtain ⟨c, st1, h1, h2⟩ := run_some e
      obtain ⟨rfl, rfl, rfl⟩ := run_home h1
      generalize hcc : st1.cont hh = c at h2
      cases c with
      | box fs =>
        obtain ⟨e1, e2, e3⟩ := ih h2
        refine ⟨e1, fun h g' s' hm => e2 h g' s' ((List.mem_cons.1 hm).resolve_left (by intro e; cases e)), fun f h g' hm => ?_⟩
        rcases List.mem_cons.1 hm with e | hm
        · injection e with e0 e1; subst e1; exact ⟨fs, hcc⟩
        · exact e3 f h g' hm
      | _ => cases h2
    | _ =>
      obtain ⟨e1, e2, e3⟩ := ih (st := st) (st' := st') e
      exact ⟨e1, (fun h g' s' hm => e2 h g' s' ((List.mem_cons.1 hm).resolve_left (by intro e; cases e))), fun f h g' hm => e3 f h g' ((List.mem_cons.1 hm).resolve_left (by intro e; cases e))⟩

theorem callP_sound {E : Env} (hC : ∀ f as S, E.C f as = some S → Sound E.P f S) {B : Nat → Option Nat} {st st' : St} (r : Rel Z B st tm w) (hz : ∀ b, Z b → b < w.heap.size) {d f : Nat} {ts : List TypeId} {vs : List AV} {a : AV}
    (e : run (callP E d f ts vs) st = some (a, st')) {cvs : Array Value} (hv : All2 (VR w (Owned Z B st) B st) vs cvs.toList) :
    Calls E.P f cvs w fun e w' => ∃ v B', e = .returned v ∧ Rel Z B' st' tm w' ∧ Stay w w' (Owned Z B st) (Owned Z B' st') B B' st st' ∧ Tr (L B st) w w' ∧ VR w' (Owned Z B' st') B' st' a v := by
  unfold callP at e
  obtain ⟨z, st1, e1, ea⟩ := run_some e
  clear e
  obtain ⟨rfl, hzm⟩ := zipT_some e1
  obtain ⟨as, st2, e2, eb⟩ := run_some ea
  cases hS : E.C f as with
  | none => rw [hS] at eb; cases eb
  | some S =>
  rw [hS] at eb
  obtain ⟨_, st3, e3, ec⟩ := run_some eb
  obtain ⟨rfl, hrf, hrf'⟩ := refsOk_sound e3
  obtain ⟨x, st4, e4, ed⟩ := run_some ec
  obtain ⟨hx, rfl⟩ := run_ask e4
  obtain ⟨_, st5, e5, ef⟩ := run_some ed
  obtain ⟨_, st6, e6, e7⟩ := run_some ef
  have hO0 : (Owned Z B st1) = (Owned (ZX Z []) B st1) := funext fun x => propext (Owned.congr (fun x => (ZX_nil Z x).symm) x)
  have r0 := r.congr (fun x => (ZX_nil Z x).symm)
  rw [hO0] at hv ⊢
  obtain ⟨X, ra, sa, oa, na, za, ba⟩ := argsP_sound r0 List.nodup_nil (by simp) e2 (cvs := cvs.toList) (by rw [hzm]; exact hv)
  rw [List.append_nil] at ra sa oa na za
  rw [hzm] at oa ba
  -- what the callee may not touch
  let Zc : Nat → Prop := fun b => Owned (ZX Z X) B st4 b ∧ b < w.heap.size ∧ b ∉ X ∧ ∀ v ∈ vs, ¬ snapOf B v b
  have hsub : ∀ b, b < w.heap.size → ZX Zc X b → Owned (ZX Z X) B st4 b := fun b _ h => h.elim (·.1) fun h => .inl (.inr h)
  have hsn : ∀ v ∈ vs, ∀ b, snapOf B v b → b ∉ X := by
    rintro v hv' b (⟨h, g, s, rfl, hb⟩ | ⟨f', h, g, rfl, hb⟩) hX
    case inr =>
      obtain ⟨fs, hc⟩ := hrf' f' h g hv'
      exact ra.ext h b (by rw [hc]; rfl) hb (.inr hX)
    rcases hrf h g s hv' with ⟨t, l, hc⟩ | ⟨t, l, hc⟩
    · exact ra.ext h b (by rw [hc]; rfl) hb (.inr hX)
    · have hr := ra.hr h
      rw [hc] at hr
      exact hr.2 b hb (.inl (.inr hX))
  have oc := oa (ZX Zc X) hsub fun v hv' b hs h => h.elim (fun h => h.2.2.2 v hv' hs) (hsn v hv' b hs)
  have hlt : ∀ b ∈ X, b < w.heap.size := oc.lt
  have hXL : ∀ b ∈ X, L B st1 b := fun b hb => by
    rcases sa.sub b (hlt b hb) (.inl (.inr hb)) with (h | h) | h
    · exact absurd h (za b hb)
    · cases h
    · exact h
  refine (hC f as S hS as x hx Zc X cvs w na (fun b hb h => h.2.2.1 hb) (fun b h => h.2.1) hlt oc).mono ?_
  rintro en w' ⟨v, X1, X2, rfl, hn, hb, h3, hl, t⟩
  obtain ⟨rp, sp⟩ := ra.passed (Y := X1 ++ X2) t fun b hb' => (hb b hb').2
  have hzY : ∀ b ∈ X1 ++ X2, ¬ Z b := fun b hb' hZ => by
    rcases (hb b hb').2 with h | h
    · exact za b h hZ
    · have := hz b hZ; omega
  -- behind the freezing all that it answers is plain for us too
  have fr : ∃ r5 : Rel (ZX Z (X1 ++ X2)) B st5 tm w', Stay w' w' (Owned (ZX Z (X1 ++ X2)) B st4) (Owned (ZX Z (X1 ++ X2)) B st5) B B st4 st5 ∧ OV3 w' (Owned (ZX Z (X1 ++ X2)) B st5) (S.enc x).1 v X1 ∧ OVl w' (Owned (ZX Z (X1 ++ X2)) B st5) (S.enc x).2 (bv as cvs.toList) X2 := by
    cases hcl : (clean (S.enc x).1 && (S.enc x).2.all clean2) with
    | true =>
      rw [hcl] at e5
      obtain ⟨_, rfl⟩ := run_ret e5
      rw [Bool.and_eq_true] at hcl
      exact ⟨rp, Stay.refl, h3.clean hcl.1, hl.clean hcl.2⟩
    | false =>
      rw [hcl] at e5
      obtain ⟨rf, sf, lf, kf, nf⟩ := freezeAll_sound rp e5
      have hO : ∀ b, b < w'.heap.size → Owned (ZX Z (X1 ++ X2)) B st5 b → ZX Zc (X1 ++ X2) b := by
        intro b hbw hO
        rcases hO with (hO | hO) | ⟨k, hk1, hk2⟩
        · refine .inl ⟨.inl (.inl hO), hz b hO, fun hX => za b hX hO, ?_⟩
          rintro v' hv' (⟨h, g, s, rfl, hbh⟩ | ⟨f', h, g, rfl, hbh⟩)
          case inr => exact nf f' h g hv'
          rcases hrf h g s hv' with ⟨t', l', hc⟩ | ⟨t', l', hc⟩
          · exact ra.ext h b (by rw [hc]; rfl) hbh (.inl hO)
          · have hr := ra.hr h
            rw [hc] at hr
            exact hr.2 b hbh (.inl (.inl hO))
        · exact .inr hO
        · have hk0 := lf k hk1
          refine .inl ⟨.inr ⟨k, hk0, hk2⟩, ra.blk hk2 (.inr hk0), fun hX => ra.ext k b hk0 hk2 (.inr hX), ?_⟩
          rintro v' hv' (⟨h, g, s, rfl, hbh⟩ | ⟨f', h, g, rfl, hbh⟩)
          case inr => exact nf f' h g hv'
          have hdead := kf h g s hv'
          rcases hrf h g s hv' with ⟨t', l', hc⟩ | ⟨t', l', hc⟩
          · have := ra.inj k h b hk0 (by rw [hc]; rfl) hk2 hbh
            subst this
            rw [hdead] at hk1; cases hk1
          · have hr := ra.hr h
            rw [hc] at hr
            exact hr.2 b hbh (.inr ⟨k, hk0, hk2⟩)
      exact ⟨rf, sf, h3.sub hO, hl.sub hO⟩
  obtain ⟨r5, s5, h3', hl'⟩ := fr
  have hm : ∀ y, y ∈ X1 ++ X2 ↔ y ∈ X2 ++ X1 := fun y => by simp [or_comm]
  have hO5 : (Owned (ZX Z (X1 ++ X2)) B st5) = (Owned (ZX Z (X2 ++ X1)) B st5) := funext fun x => propext (Owned.congr (ZX_perm Z hm) x)
  have hn' : (X2 ++ X1).Nodup := List.perm_append_comm.nodup_iff.1 hn
  have hz' : ∀ b ∈ X2 ++ X1, ¬ Z b := fun b hb => hzY b ((hm b).2 hb)
  rw [hO5] at s5 h3' hl'
  rw [ba] at hl'
  obtain ⟨B6, r6, s6⟩ := outsP_sound (r5.congr (ZX_perm Z hm)) hn' hz' e6 (cvs := cvs.toList)
    (hv.mono fun _ _ h => ((h.mono sa).mono sp).mono s5) hl'
  have hn1 : X1.Nodup := (List.nodup_append.1 hn).1
  have hX1 : ∀ y, ZX Z X1 y ↔ ZX Z (X1 ++ []) y := ZX_perm Z fun y => by simp
  have hO6 : (Owned (ZX Z X1) B6 st6) = (Owned (ZX Z (X1 ++ [])) B6 st6) := funext fun x => propext (Owned.congr hX1 x)
  have h3'' : OV3 w' (Owned (ZX Z (X1 ++ [])) B6 st6) (S.enc x).1 v X1 := by
    rw [← hO6]
    exact h3'.sub fun b hb h => s6.sub b hb h
  obtain ⟨B7, r7, s7, v7⟩ := impR_sound (r6.congr hX1) (by simpa using hn1) (fun b hb => hzY b (by simp at hb ⊢; exact .inl hb)) e7 h3''
  have hO7 : (Owned (ZX Z []) B7 st') = (Owned Z B7 st') := funext fun x => propext (Owned.congr (ZX_nil Z) x)
  rw [hO6] at s6
  rw [hO7] at s7 v7
  exact ⟨v, B7, rfl, r7.congr (ZX_nil Z), (((sa.trans sp).trans s5).trans s6).trans s7, t.trans (Tr.refl (fun _ => False) _) (fun b hb => hXL b hb) (fun _ _ h => h.elim), v7⟩

theorem callO_sound {E : Env} (hC : ∀ f as S, E.C f as = some S → Sound E.P f S) {B : Nat → Option Nat} {st st' : St} (r : Rel Z B st tm w) (hz : ∀ b, Z b → b < w.heap.size) {d f : Nat} {v0 a : AV}
    (e : run (callO E d f v0) st = some (a, st')) {cvs : Array Value} (hv : All2 (VR w (Owned Z B st) B st) [v0] cvs.toList) :
    Calls E.P f cvs w fun e w' => ∃ v B', e = .returned v ∧ Rel Z B' st' tm w' ∧ Stay w w' (Owned Z B st) (Owned Z B' st') B B' st st' ∧ Tr (L B st) w w' ∧ VR w' (Owned Z B' st') B' st' a v := by
  unfold callO at e
  cases v0 with
  | lref h g s =>
    cases s with
    | some s => cases e
    | none =>
    obtain ⟨c, st1, h1, h2⟩ := run_some e
    obtain ⟨rfl, rfl, rfl⟩ := run_home h1
    generalize hcc : st1.cont h = c at h2
    cases c with
    | own u l =>
      simp only [run] at h2
      cases hS : E.C f [.own u l] with
      | none => rw [hS] at h2; cases h2
      | some S =>
      rw [hS] at h2
      obtain ⟨x, st2, h3, h4⟩ := run_some h2
      obtain ⟨hx, rfl⟩ := run_ask h3
      cases hcv : cvs.toList with
      | nil => rw [hcv] at hv; exact hv.elim
      | cons cv rest =>
      rw [hcv] at hv
      cases rest with
      | cons _ _ => exact hv.2.elim
      | nil =>
      have hv1 := hv.1
      have hO0 : (Owned Z B st1) = (Owned (ZX Z []) B st1) := funext fun x => propext (Owned.congr (fun x => (ZX_nil Z x).symm) x)
      rw [hO0] at hv1 ⊢
      obtain ⟨X, ra, sa, oa, na, za, ba⟩ := (r.congr (fun x => (ZX_nil Z x).symm)).detachOwn (by simp) List.nodup_nil h (st1.gen h + 2) (.inr (Nat.le_refl _)) hcc hv1
      rw [List.append_nil] at ra sa oa na za
      let st2 := st1.seth h (st1.gen h + 2) .undef
      let Zc : Nat → Prop := fun b => Owned (ZX Z X) B st2 b ∧ b < w.heap.size ∧ b ∉ X
      have hsub : ∀ b, b < w.heap.size → ZX Zc X b → Owned (ZX Z X) B st2 b := fun b _ h => h.elim (·.1) fun h => .inl (.inr h)
      have oc : OVl w (ZX Zc X) [.own u l] cvs.toList X := by
        rw [hcv]
        exact ⟨cv, [], X, [], rfl, by simp, oa.sub hsub, rfl, rfl⟩
      have hlt : ∀ b ∈ X, b < w.heap.size := oc.lt
      have hXL : ∀ b ∈ X, L B st1 b := fun b hb => ⟨h, by rw [hcc]; rfl, ba b hb⟩
      refine (hC f _ S hS _ x hx Zc X cvs w na (fun b hb h => h.2.2 hb) (fun b h => h.2.1) hlt oc).mono ?_
      rintro en w' ⟨v, X1, X2, rfl, hn, hb, h3, hl, t⟩
      obtain ⟨rp, sp⟩ := ra.passed (Y := X1 ++ X2) t fun b hb' => (hb b hb').2
      have hzY : ∀ b ∈ X1 ++ X2, ¬ Z b := fun b hb' hZ => by
        rcases (hb b hb').2 with h | h
        · exact za b h hZ
        · have := hz b hZ; omega
      cases hos : (S.enc x).2 with
      | cons _ _ => rw [hos] at h4; cases h4
      | nil =>
      rw [hos] at h4 hl
      obtain ⟨_, rfl⟩ := hl
      rw [List.append_nil] at rp sp hn
      have hO : ∀ b, b < w'.heap.size → Owned (ZX Z (X1 ++ [])) B st2 b → ZX Zc (X1 ++ []) b := by
        intro b hbw hO
        rcases hO with (hO | hO) | ⟨k, hk1, hk2⟩
        · exact .inl ⟨.inl (.inl hO), hz b hO, fun hX => za b hX hO⟩
        · exact .inr hO
        · exact .inl ⟨.inr ⟨k, hk1, hk2⟩, ra.blk hk2 (.inr hk1), fun hX => ra.ext k b hk1 hk2 (.inr hX)⟩
      have hX1 : ∀ y, ZX Z X1 y ↔ ZX Z (X1 ++ []) y := ZX_perm Z fun y => by simp
      obtain ⟨B7, r7, s7, v7⟩ := impR_sound (rp.congr hX1) (by simpa using hn) (fun b hb => hzY b (by simpa using hb)) h4 (h3.sub hO)
      have hO1 : (Owned (ZX Z X1) B st2) = (Owned (ZX Z (X1 ++ [])) B st2) := funext fun x => propext (Owned.congr hX1 x)
      have hO7 : (Owned (ZX Z []) B7 st') = (Owned Z B7 st') := funext fun x => propext (Owned.congr (ZX_nil Z) x)
      change Stay w w' (Owned (ZX Z X) B st2) (Owned (ZX Z X1) B st2) B B st2 st2 at sp
      rw [hO1] at sp
      rw [hO7] at s7 v7
      exact ⟨v, B7, rfl, r7.congr (ZX_nil Z), (sa.trans sp).trans s7, t.trans (Tr.refl (fun _ => False) _) (fun b hb => hXL b hb) (fun _ _ h => h.elim), v7⟩
    | _ => cases h2
  | _ => cases e

theorem callF_sound {E : Env} (hC : ∀ f as S, E.C f as = some S → Sound E.P f S) {B : Nat → Option Nat} {st st' : St} (r : Rel Z B st tm w) (hz : ∀ b, Z b → b < w.heap.size) {d f : Nat} {ts : List TypeId} {vs : List AV} {a : AV}
    (e : run (callF E d f ts vs) st = some (a, st')) {cvs : Array Value} (hv : All2 (VR w (Owned Z B st) B st) vs cvs.toList) :
    Calls E.P f cvs w fun e w' => ∃ v B', e = .returned v ∧ Rel Z B' st' tm w' ∧ Stay w w' (Owned Z B st) (Owned Z B' st') B B' st st' ∧ Tr (L B st) w w' ∧ VR w' (Owned Z B' st') B' st' a v := by
  unfold callF at e
  cases hm : E.mv.contains f with
  | false => rw [hm] at e; exact callP_sound hC r hz e hv
  | true =>
    rw [hm] at e
    cases vs with
    | nil => cases e
    | cons v vs => cases vs with
      | nil => exact callO_sound hC r hz e hv
      | cons _ _ => cases e

theorem All2.append {R : AV → Value → Prop} : ∀ {as bs : List AV} {vs ws : List Value}, All2 R as vs → All2 R bs ws → All2 R (as ++ bs) (vs ++ ws)
  | [], _, [], _, _, h => h
  | a :: as, _, v :: vs, _, h, h' => ⟨h.1, All2.append h.2 h'⟩
  | [], _, _ :: _, _, h, _ => h.elim
  | _ :: _, _, [], _, h, _ => h.elim

/-- what is called by a function's value -/
theorem callV_sound {E : Env} (hC : ∀ f as S, E.C f as = some S → Sound E.P f S) {B : Nat → Option Nat} {st st' : St} (r : Rel Z B st tm w) (hz : ∀ b, Z b → b < w.heap.size) {d : Nat} {ts : List TypeId} {vs : List AV} {a u : AV}
    (e : run (callV E d ts vs u) st = some (a, st')) {uv : Value} (hu : VR w (Owned Z B st) B st u uv) {cvs : Array Value} (hv : All2 (VR w (Owned Z B st) B st) vs cvs.toList) :
    ∃ f fv cv, uv = .func (.func f) fv cv ∧ (∃ as S, E.C f as = some S) ∧
    Calls E.P f (fv ++ cvs ++ cv) w fun e w' => ∃ v B', e = .returned v ∧ Rel Z B' st' tm w' ∧ Stay w w' (Owned Z B st) (Owned Z B' st') B B' st st' ∧ Tr (L B st) w w' ∧ VR w' (Owned Z B' st') B' st' a v := by
  have known : ∀ {f : FuncId} {ts : List TypeId} {vs : List AV}, run (callP E d f ts vs) st = some (a, st') → ∃ as S, E.C f as = some S := fun {f ts vs} e => by
    unfold callP at e
    obtain ⟨z, st1, e1, ea⟩ := run_some e
    obtain ⟨as, st2, e2, eb⟩ := run_some ea
    cases hS : E.C f as with
    | none => rw [hS] at eb; cases eb
    | some S => exact ⟨as, S, hS⟩
  unfold callV at e
  split at e
  · rename_i f ta tb x
    obtain ⟨cs, ⟨fv, cv, rfl, h1, h2, h3, h4⟩, rfl⟩ := hu
    refine ⟨f, fv, cv, rfl, known e, callP_sound hC r hz e ?_⟩
    have k1 : All2 (VR w (Owned Z B st) B st) (fnVs ta x.1) fv.toList := by
      unfold fnVs
      cases hU : isU ta with
      | true => rw [h1 hU]; trivial
      | false =>
        obtain ⟨ca, g1, rfl⟩ := h2 hU
        exact ⟨⟨ca, g1, rfl⟩, trivial⟩
    have k2 : All2 (VR w (Owned Z B st) B st) (fnCs tb x.2) cv.toList := by
      unfold fnCs
      cases hU : isU tb with
      | true => rw [h3 hU]; trivial
      | false =>
        obtain ⟨k, off, ds, rfl, g1, g2, g3, g4⟩ := h4 hU
        exact ⟨⟨k, off, ds, rfl, g1, g2, g3, g4⟩, trivial⟩
    rw [Array.toList_append, Array.toList_append]
    exact All2.append (All2.append k1 hv) k2
  · rename_i f h g
    obtain ⟨c, st1, h1, h2⟩ := run_some e
    obtain ⟨rfl, rfl, rfl⟩ := run_home h1
    obtain ⟨b, hb, rfl⟩ := hu.2 rfl
    refine ⟨f, #[], _, rfl, known h2, callP_sound hC r hz h2 ?_⟩
    rw [Array.toList_append, Array.toList_append]
    exact All2.append hv ⟨⟨hu.1, fun _ => ⟨b, hb, rfl⟩⟩, trivial⟩
  · cases e
end
end Go.Pv
