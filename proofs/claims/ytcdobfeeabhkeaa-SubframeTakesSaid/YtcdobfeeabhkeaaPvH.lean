/- What is handed in and handed back. -/
import Derived.Test.YtcdobfeeabhkeaaPvG
set_option autoImplicit false
set_option linter.unusedVariables false
set_option linter.unusedSimpArgs false
namespace Go.Pv

theorem ZX_perm (Z : Nat → Prop) {X Y : List Nat} (h : ∀ x, x ∈ X ↔ x ∈ Y) (x : Nat) : ZX Z X x ↔ ZX Z Y x := by unfold ZX; rw [h]

section
variable {Z : Nat → Prop} {tm : Array Value} {w : World}

/-- a field that is taken out -/
theorem out1_sound {X : List Nat} {B : Nat → Option Nat} {st st' : St} (r : Rel (ZX Z X) B st tm w) (hn : X.Nodup) (hz : ∀ b ∈ X, ¬ Z b) {f f' : AV} (e : run (out1 f) st = some (f', st')) {cs : List Value}
    (hv : F1 w (Owned (ZX Z X) B st) B st f cs) :
    ∃ X1, Rel (ZX Z (X1 ++ X)) B st' tm w ∧ Stay w w (Owned (ZX Z X) B st) (Owned (ZX Z (X1 ++ X)) B st') B B st st' ∧ OV1 w (Owned (ZX Z (X1 ++ X)) B st') f' cs X1 ∧ (X1 ++ X).Nodup ∧ (∀ b ∈ X1 ++ X, ¬ Z b) := by
  cases f with
  | val t x => obtain ⟨rfl, rfl⟩ := run_ret e; exact ⟨[], r, Stay.refl, ⟨hv, rfl⟩, hn, hz⟩
  | lref h g s =>
    cases s with
    | some p => cases e
    | none =>
      obtain ⟨c, st1, h1, h2⟩ := run_some e
      obtain ⟨rfl, rfl, rfl⟩ := run_home h1
      obtain ⟨v, rfl, _, hv⟩ := hv
      generalize hcc : st1.cont h = c at h2
      cases c with
      | own u l =>
        simp only [run, Option.some.injEq, Prod.mk.injEq] at h2
        obtain ⟨rfl, rfl⟩ := h2
        obtain ⟨X1, ra, sa, oa, na, za, _⟩ := r.detachOwn hz hn h (st1.gen h + 2) (.inr (Nat.le_refl _)) hcc hv
        exact ⟨X1, ra, sa, oa, na, za⟩
      | val t x =>
        cases t with
        | slice u =>
          obtain ⟨rfl, rfl⟩ := run_ret h2
          exact ⟨[], r, Stay.refl, ⟨frozen_reads r hcc hv, rfl⟩, hn, hz⟩
        | _ => cases h2
      | _ => cases h2
  | mref h g =>
    obtain ⟨c, st1, h1, h2⟩ := run_some e
    obtain ⟨rfl, rfl, rfl⟩ := run_home h1
    obtain ⟨v, rfl, _, hv⟩ := hv
    generalize hcc : st1.cont h = c at h2
    cases c with
    | mp u l =>
      simp only [run, Option.some.injEq, Prod.mk.injEq] at h2
      obtain ⟨rfl, rfl⟩ := h2
      exact r.detachMap hz hn h (st1.gen h + 2) (.inr (Nat.le_refl _)) hcc hv
    | _ => cases h2
  | _ => cases e

theorem outAll_sound : ∀ {fs : List AV} {X : List Nat} {B : Nat → Option Nat} {st st' : St} (r : Rel (ZX Z X) B st tm w) (hn : X.Nodup) (hz : ∀ b ∈ X, ¬ Z b) {fs' : List AV} (e : run (outAll fs) st = some (fs', st')) {cs : List Value}
    (hv : Fs w (Owned (ZX Z X) B st) B st fs cs),
    ∃ X1, Rel (ZX Z (X1 ++ X)) B st' tm w ∧ Stay w w (Owned (ZX Z X) B st) (Owned (ZX Z (X1 ++ X)) B st') B B st st' ∧ OVs w (Owned (ZX Z (X1 ++ X)) B st') fs' cs X1 ∧ (X1 ++ X).Nodup ∧ (∀ b ∈ X1 ++ X, ¬ Z b) := by
  intro fs
  induction fs with
  | nil =>
    intro X B st st' r hn hz fs' e cs hv
    obtain ⟨rfl, rfl⟩ := run_ret e
    cases hv
    exact ⟨[], r, Stay.refl, ⟨rfl, rfl⟩, hn, hz⟩
  | cons f fs ih =>
    intro X B st st' r hn hz fs' e cs hv
    obtain ⟨f', st1, e1, e2⟩ := run_some e
    obtain ⟨r', st2, e3, e4⟩ := run_some e2
    obtain ⟨rfl, rfl⟩ := run_pure e4
    obtain ⟨c1, c2, rfl, h1, h2⟩ := hv
    obtain ⟨X1, ra, sa, oa, na, za⟩ := out1_sound r hn hz e1 h1
    obtain ⟨X2, rb, sb, ob, nb, zb⟩ := ih ra na za e3 (Fs.mono sa h2)
    have hm : ∀ x, x ∈ X2 ++ (X1 ++ X) ↔ x ∈ (X1 ++ X2) ++ X := fun x => by simp [or_left_comm]
    have hp : (X2 ++ (X1 ++ X)).Perm ((X1 ++ X2) ++ X) := by
      rw [← List.append_assoc]
      exact List.Perm.append_right X List.perm_append_comm
    have hO : (Owned (ZX Z (X2 ++ (X1 ++ X))) B st') = (Owned (ZX Z ((X1 ++ X2) ++ X)) B st') := funext fun x => propext (Owned.congr (ZX_perm Z hm) x)
    refine ⟨X1 ++ X2, rb.congr (ZX_perm Z hm), (sa.trans sb).congr (fun _ => Iff.rfl) (Owned.congr (ZX_perm Z hm)), ⟨c1, c2, X1, X2, rfl, rfl, ?_, ?_⟩, hp.nodup_iff.1 nb, fun b hb => zb b ((hm b).2 hb)⟩
    · rw [← hO]; exact oa.keep (sb.keep fun _ _ => rfl)
    · rw [← hO]; exact ob

def snapOf (B : Nat → Option Nat) (v : AV) (b : Nat) : Prop := (∃ h g s, v = .lref h g s ∧ B h = some b) ∨ ∃ f h g, v = .fnp f h g ∧ B h = some b

theorem chain_cells {B : Nat → Option Nat} {st : St} {O Oc : Nat → Prop} (hs : ∀ b, b < w.heap.size → Oc b → O b) : ∀ {fs : List AV} {p : Σ t : Ty, El t} {cs : List Value}, chain fs = some p → Fs w O B st fs cs → Cells w Oc p.1 p.2 cs
  | [], p, cs, e, h => by cases e; exact h
  | f :: fs, p, cs, e, h => by
    cases f with
    | val t x =>
      obtain ⟨q, h1, rfl⟩ := Option.map_eq_some_iff.1 e
      obtain ⟨c1, c2, rfl, h2, h3⟩ := h
      exact ⟨c1, c2, rfl, Cells.mono (Nat.le_refl _) (fun _ _ _ => rfl) hs h2, chain_cells hs h1 h3⟩
    | _ => cases e

theorem boxEl_cells {B : Nat → Option Nat} {st : St} {O Oc : Nat → Prop} (hs : ∀ b, b < w.heap.size → Oc b → O b) {fs : List AV} {p : Σ t : Ty, El t} {cs : List Value} (e : boxEl fs = some p) (h : Fs w O B st fs cs) : Cells w Oc p.1 p.2 cs := by
  unfold boxEl at e
  split at e
  · cases e
    obtain ⟨c1, c2, rfl, h1, rfl⟩ := h
    rw [List.append_nil]
    exact Cells.mono (Nat.le_refl _) (fun _ _ _ => rfl) hs h1
  · exact chain_cells hs e h


theorem OV1.sub {O Oc : Nat → Prop} (h : ∀ b, b < w.heap.size → Oc b → O b) {a : AV} {cs : List Value} {X : List Nat} (hv : OV1 w O a cs X) : OV1 w Oc a cs X :=
  hv.keep ⟨Nat.le_refl _, fun _ _ _ => rfl, h⟩
theorem OV2.sub {O Oc : Nat → Prop} (h : ∀ b, b < w.heap.size → Oc b → O b) {a : AV} {v : Value} {X : List Nat} (hv : OV2 w O a v X) : OV2 w Oc a v X :=
  hv.keep ⟨Nat.le_refl _, fun _ _ _ => rfl, h⟩
theorem OVl.sub {O Oc : Nat → Prop} (h : ∀ b, b < w.heap.size → Oc b → O b) {a : List AV} {v : List Value} {X : List Nat} (hv : OVl w O a v X) : OVl w Oc a v X :=
  hv.keep ⟨Nat.le_refl _, fun _ _ _ => rfl, h⟩

theorem lref_cells' {X : List Nat} {B : Nat → Option Nat} {st : St} (r : Rel (ZX Z X) B st tm w) {h : Nat} {s : Option (Nat × Nat)} {u : Ty} {l : List (El u)} {st' : St} {g : Nat} {v : Value} (hv : V1 w (Owned (ZX Z X) B st) B st (.lref h g s) v)
    (e : run (listAt u (.lref h g s)) st = some (l, st')) {Oc : Nat → Prop} (hsub : ∀ b, b < w.heap.size → Oc b → Owned (ZX Z X) B st b) (hO : ∀ b, B h = some b → ¬ Oc b) : Cells w Oc (.slice u) l [v] := by
  obtain ⟨c, st1, h1, h2⟩ := run_some e
  obtain ⟨rfl, rfl, rfl⟩ := run_home h1
  have hr := r.hr h
  have key : ∀ (t : Ty) (l0 : List (El t)), asList (st1.cont h) = some ⟨t, l0⟩ → Blk w (Owned (ZX Z X) B st1) (B h) t l0 → Cells w Oc (.slice t) (view l0 s) [v] := fun t l0 ha hb => lref_cells ha hb hsub hO hv
  generalize st1.cont h = c at h2 hr key
  cases c with
  | own t l0 =>
    obtain ⟨l', st2, h3, h4⟩ := run_some h2
    obtain ⟨h5, rfl⟩ := run_lift h3
    obtain ⟨h6, _⟩ := run_pure h4
    obtain ⟨e, h7⟩ := castEl_some h5
    cases e; subst h7; subst h6
    exact key _ _ rfl hr
  | val t x =>
    cases t with
    | slice t =>
      obtain ⟨l', st2, h3, h4⟩ := run_some h2
      obtain ⟨h5, rfl⟩ := run_lift h3
      obtain ⟨h6, _⟩ := run_pure h4
      obtain ⟨e, h7⟩ := castEl_some h5
      cases e; subst h7; subst h6
      exact key _ _ rfl hr.1
    | _ =>
      obtain ⟨l', st2, h3, h4⟩ := run_some h2
      obtain ⟨h5, rfl⟩ := run_lift h3
      obtain ⟨e, h7⟩ := castEl_some h5
      cases e
  | _ => cases h2

/-- an argument that is handed in -/
theorem argP_sound {E : Env} {X : List Nat} {B : Nat → Option Nat} {st st' : St} (r : Rel (ZX Z X) B st tm w) (hn : X.Nodup) (hz : ∀ b ∈ X, ¬ Z b) {t : TypeId} {v a : AV} (e : run (argP E t v) st = some (a, st')) {cv : Value}
    (hv : VR w (Owned (ZX Z X) B st) B st v cv) :
    ∃ X1, Rel (ZX Z (X1 ++ X)) B st' tm w ∧ Stay w w (Owned (ZX Z X) B st) (Owned (ZX Z (X1 ++ X)) B st') B B st st' ∧
      (∀ Oc, (∀ b, b < w.heap.size → Oc b → Owned (ZX Z (X1 ++ X)) B st' b) → (∀ b, snapOf B v b → ¬ Oc b) → OV2 w Oc a cv X1) ∧ (X1 ++ X).Nodup ∧ (∀ b ∈ X1 ++ X, ¬ Z b) ∧
      (((∃ fs, a = .box fs) ∧ ∃ h g, v = .ptr h g 0 none) ∨ ((∀ fs, a ≠ .box fs) ∧ ∀ h g, v ≠ .ptr h g 0 none)) := by
  cases v with
  | ptr h g k i =>
    cases k with
    | succ k => cases e
    | zero =>
    cases i with
    | some p => cases e
    | none =>
      obtain ⟨c, st1, h1, h2⟩ := run_some e
      obtain ⟨rfl, rfl, rfl⟩ := run_home h1
      have hr := r.hr h
      generalize hcc : st1.cont h = c at h2 hr
      cases c with
      | box fs =>
        simp only [run] at h2
        obtain ⟨fs', st2, e1, e2⟩ := run_some h2
        obtain ⟨rfl, rfl⟩ := run_pure e2
        obtain ⟨b, arr, ty, hb, hh, hf⟩ := hr
        obtain ⟨b', hb', rfl⟩ := hv.2 rfl
        rw [hb] at hb'; cases hb'
        obtain ⟨ra, sa⟩ := r.detach h (st1.gen h) (.refl _) (by rw [hcc]; rfl)
        have hc : ∀ x, (ZX Z X x ∨ B h = some x) ↔ ZX Z (b :: X) x := fun x => by
          unfold ZX; rw [hb]; simp [or_assoc, or_comm, or_left_comm, eq_comm]
        have hbX : ¬ ZX Z X b := r.ext h b (by rw [hcc]; rfl) hb
        have ra' := ra.congr hc
        have sa' := sa.congr (fun _ => Iff.rfl) (Owned.congr hc)
        have hn' : (b :: X).Nodup := List.nodup_cons.2 ⟨fun h => hbX (.inr h), hn⟩
        have hz' : ∀ x ∈ b :: X, ¬ Z x := fun x hx => by
          rcases List.mem_cons.1 hx with rfl | hx
          · exact fun h => hbX (.inl h)
          · exact hz x hx
        obtain ⟨X1, rb, sb, ob, nb, zb⟩ := outAll_sound ra' hn' hz' e1 (Fs.mono sa' hf)
        have hm : ∀ x, x ∈ X1 ++ b :: X ↔ x ∈ (b :: X1) ++ X := fun x => by simp [or_left_comm]
        refine ⟨b :: X1, rb.congr (ZX_perm Z hm), (sa'.trans sb).congr (fun _ => Iff.rfl) (Owned.congr (ZX_perm Z hm)), fun Oc h1 _ => ?_, (List.perm_middle (a := b) (l₁ := X1) (l₂ := X)).nodup_iff.1 nb, fun x hx => zb x ((hm x).2 hx), .inl ⟨⟨_, rfl⟩, h, _, rfl⟩⟩
        have hO : (Owned (ZX Z (X1 ++ b :: X)) B st') = (Owned (ZX Z ((b :: X1) ++ X)) B st') := funext fun x => propext (Owned.congr (ZX_perm Z hm) x)
        rw [← hO] at h1
        exact OV2.sub h1 (a := .box fs') ⟨b, arr, ty, X1, rfl, hh, ob, rfl⟩
      | _ => cases h2
  | eptr t x k =>
    cases k with
    | succ k => cases e
    | zero =>
    obtain ⟨rfl, rfl⟩ := run_ret e
    refine ⟨[], r, Stay.refl, fun Oc h1 _ => ?_, hn, hz, .inr ⟨fun _ h => by (first | cases h | exact AV.noConfusion h), fun _ _ h => by (first | cases h | exact AV.noConfusion h)⟩⟩
    obtain ⟨b, o, cs, h2, h3, h4, h5, h6⟩ := hv
    exact ⟨⟨b, o, cs, h2, fun h => h3 (h1 b h4 h), h4, h5, h6.mono (Nat.le_refl _) (fun _ _ _ => rfl) h1⟩, rfl⟩
  | fnp f h g =>
    obtain ⟨c, st1, h1, h2⟩ := run_some e
    obtain ⟨rfl, rfl, rfl⟩ := run_home h1
    have hr := r.hr h
    generalize hcc : st1.cont h = c at h2 hr
    cases c with
    | box fs =>
      obtain ⟨p, st2, e1, e2⟩ := run_some h2
      obtain ⟨hp, rfl⟩ := run_lift e1
      obtain ⟨_, st3, e3, e4⟩ := run_some e2
      obtain ⟨hu, rfl⟩ := run_guard e3
      obtain ⟨rfl, rfl⟩ := run_pure e4
      obtain ⟨b, arr, ty, hb, hh, hf⟩ := hr
      obtain ⟨b', hb', rfl⟩ := hv.2 rfl
      rw [hb] at hb'; cases hb'
      have hu' : isU p.1 = false := by simpa using hu
      refine ⟨[], r, Stay.refl, fun Oc h1 h3 => ⟨⟨[_], ⟨#[], _, rfl, fun _ => rfl, (fun h => by cases h), (fun h => by rw [hu'] at h; cases h), fun _ => ⟨b, 0, arr.toList, rfl, h3 b (.inr ⟨f, h, _, rfl, hb⟩), lt_of_get hh, ?_, boxEl_cells h1 hp hf⟩⟩, rfl⟩, rfl⟩, hn, hz, .inr ⟨fun _ h => by (cases h), fun _ _ h => by (cases h)⟩⟩
      exact Lies.of_heap (c1 := []) (c2 := []) hh (by simp)
    | _ => cases h2
  | val t x =>
    obtain ⟨rfl, rfl⟩ := run_ret e
    refine ⟨[], r, Stay.refl, fun Oc h1 _ => ?_, hn, hz, .inr ⟨fun _ h => by (first | cases h | exact AV.noConfusion h), fun _ _ h => by (first | cases h | exact AV.noConfusion h)⟩⟩
    obtain ⟨cs, h2, h3⟩ := hv
    exact ⟨⟨cs, h2.mono (Nat.le_refl _) (fun _ _ _ => rfl) h1, h3⟩, rfl⟩
  | nils =>
    obtain ⟨ty, st1, e1, e2⟩ := run_some e
    obtain ⟨_, rfl⟩ := run_lift e1
    cases ty with
    | slice u =>
      obtain ⟨rfl, rfl⟩ := run_pure e2
      cases hv
      exact ⟨[], r, Stay.refl, fun Oc _ _ => ⟨⟨[_], ⟨none, 0, rfl, Nat.le_refl _, .inl rfl⟩, rfl⟩, rfl⟩, hn, hz, .inr ⟨fun _ h => by (cases h), fun _ _ h => by (cases h)⟩⟩
    | _ => cases e2
  | lref h g s =>
    obtain ⟨ty, st1, e1, e2⟩ := run_some e
    obtain ⟨_, rfl⟩ := run_lift e1
    cases ty with
    | slice u =>
      obtain ⟨l, st2, e3, e4⟩ := run_some e2
      obtain ⟨rfl, rfl⟩ := run_pure e4
      have hst := listAt_st e3
      subst hst
      refine ⟨[], r, Stay.refl, fun Oc h1 h2 => ⟨⟨[cv], lref_cells' r hv e3 h1 fun b hb => h2 b (.inl ⟨h, g, s, rfl, hb⟩), rfl⟩, rfl⟩, hn, hz, .inr ⟨fun _ h => by (cases h), fun _ _ h => by (cases h)⟩⟩
    | _ => cases e2
  | agg fs =>
    obtain ⟨ty, st1, e1, e2⟩ := run_some e
    obtain ⟨_, rfl⟩ := run_lift e1
    obtain ⟨x, st2, e3, e4⟩ := run_some e2
    obtain ⟨rfl, rfl⟩ := run_pure e4
    obtain ⟨ra, sa, ka⟩ := toEl_sound r e3
    refine ⟨[], ra, sa, fun Oc h1 _ => ?_, hn, hz, .inr ⟨fun _ h => by (cases h), fun _ _ h => by (cases h)⟩⟩
    obtain ⟨cs, h2, h3⟩ := ka cv hv
    exact ⟨⟨cs, h2.mono (Nat.le_refl _) (fun _ _ _ => rfl) h1, h3⟩, rfl⟩
  | _ => cases e

/-- the values of what came in as a thing -/
def bv : List AV → List Value → List Value
  | .box _ :: as, v :: vs => v :: bv as vs
  | _ :: as, _ :: vs => bv as vs
  | _, _ => []
def pv : List AV → List Value → List Value
  | .ptr _ _ 0 none :: as, v :: vs => v :: pv as vs
  | _ :: as, _ :: vs => pv as vs
  | _, _ => []

theorem argsP_sound {E : Env} : ∀ {z : List (TypeId × AV)} {X : List Nat} {B : Nat → Option Nat} {st st' : St} (r : Rel (ZX Z X) B st tm w) (hn : X.Nodup) (hz : ∀ b ∈ X, ¬ Z b) {as : List AV} (e : run (argsP E z) st = some (as, st')) {cvs : List Value}
    (hv : All2 (VR w (Owned (ZX Z X) B st) B st) (z.map (·.2)) cvs),
    ∃ X1, Rel (ZX Z (X1 ++ X)) B st' tm w ∧ Stay w w (Owned (ZX Z X) B st) (Owned (ZX Z (X1 ++ X)) B st') B B st st' ∧
      (∀ Oc, (∀ b, b < w.heap.size → Oc b → Owned (ZX Z (X1 ++ X)) B st' b) → (∀ v ∈ z.map (·.2), ∀ b, snapOf B v b → ¬ Oc b) → OVl w Oc as cvs X1) ∧ (X1 ++ X).Nodup ∧ (∀ b ∈ X1 ++ X, ¬ Z b) ∧
      bv as cvs = pv (z.map (·.2)) cvs := by
  intro z
  induction z with
  | nil =>
    intro X B st st' r hn hz as e cvs hv
    obtain ⟨rfl, rfl⟩ := run_ret e
    cases cvs with
    | nil => exact ⟨[], r, Stay.refl, fun _ _ _ => ⟨rfl, rfl⟩, hn, hz, rfl⟩
    | cons v vs => exact hv.elim
  | cons p z ih =>
    obtain ⟨t, v⟩ := p
    intro X B st st' r hn hz as e cvs hv
    obtain ⟨a, st1, e1, e2⟩ := run_some e
    obtain ⟨as', st2, e3, e4⟩ := run_some e2
    obtain ⟨rfl, rfl⟩ := run_pure e4
    cases cvs with
    | nil => exact hv.elim
    | cons cv cvs =>
    obtain ⟨h1, h2⟩ := hv
    obtain ⟨X1, ra, sa, oa, na, za, ba⟩ := argP_sound r hn hz e1 h1
    obtain ⟨X2, rb, sb, ob, nb, zb, bb⟩ := ih ra na za e3 (h2.mono fun _ _ h => h.mono sa)
    have hm : ∀ x, x ∈ X2 ++ (X1 ++ X) ↔ x ∈ (X1 ++ X2) ++ X := fun x => by simp [or_left_comm]
    have hp : (X2 ++ (X1 ++ X)).Perm ((X1 ++ X2) ++ X) := by
      rw [← List.append_assoc]
      exact List.Perm.append_right X List.perm_append_comm
    have hO : (Owned (ZX Z (X2 ++ (X1 ++ X))) B st') = (Owned (ZX Z ((X1 ++ X2) ++ X)) B st') := funext fun x => propext (Owned.congr (ZX_perm Z hm) x)
    refine ⟨X1 ++ X2, rb.congr (ZX_perm Z hm), (sa.trans sb).congr (fun _ => Iff.rfl) (Owned.congr (ZX_perm Z hm)), fun Oc h1 h2 => ⟨cv, cvs, X1, X2, rfl, rfl, ?_, ?_⟩, hp.nodup_iff.1 nb, fun b hb => zb b ((hm b).2 hb), ?_⟩
    · rw [← hO] at h1
      exact oa Oc (fun b hb h => sb.sub b hb (h1 b hb h)) (h2 v (by simp))
    · rw [← hO] at h1
      exact ob Oc h1 fun v' hv' => h2 v' (by simp at hv' ⊢; exact .inr hv')
    · rcases ba with ⟨⟨fs, rfl⟩, h, g, rfl⟩ | ⟨n1, n2⟩
      · simp only [bv, pv, List.map_cons, bb]
      · have e1 : bv (a :: as') (cv :: cvs) = bv as' cvs := by
          cases a <;> first | rfl | exact absurd rfl (n1 _)
        have e2 : pv (v :: z.map (·.2)) (cv :: cvs) = pv (z.map (·.2)) cvs := by
          cases v with
          | ptr h g k i =>
            cases k with
            | succ k => rfl
            | zero => cases i with
              | some p => rfl
              | none => exact absurd rfl (n2 _ _)
          | _ => rfl
        rw [List.map_cons, e1, e2, bb]

theorem zipT_some : ∀ {ts : List TypeId} {vs : List AV} {st st' : St} {z : List (TypeId × AV)}, run (zipT ts vs) st = some (z, st') → st' = st ∧ z.map (·.2) = vs := by
  intro ts
  induction ts with
  | nil => intro vs st st' z e; cases vs with
           | nil => obtain ⟨rfl, rfl⟩ := run_ret e; exact ⟨rfl, rfl⟩
           | cons v vs => cases e
  | cons t ts ih =>
    intro vs st st' z e
    cases vs with
    | nil => cases e
    | cons v vs =>
      obtain ⟨z', st1, e1, e2⟩ := run_some e
      obtain ⟨rfl, rfl⟩ := run_pure e2
      obtain ⟨rfl, h⟩ := ih e1
      exact ⟨rfl, by rw [List.map_cons, h]⟩

/-- what the things that were handed in hold behind a call -/
theorem outsP_sound : ∀ {vs : List AV} {os : List AV} {X1 X2 : List Nat} {B : Nat → Option Nat} {st st' : St} (r : Rel (ZX Z (X1 ++ X2)) B st tm w) (hn : (X1 ++ X2).Nodup) (hz : ∀ b ∈ X1 ++ X2, ¬ Z b) (e : run (outsP vs os) st = some ((), st')) {cvs : List Value}
    (hv : All2 (VR w (Owned (ZX Z (X1 ++ X2)) B st) B st) vs cvs) (ho : OVl w (Owned (ZX Z (X1 ++ X2)) B st) os (pv vs cvs) X1),
    ∃ B', Rel (ZX Z X2) B' st' tm w ∧ Stay w w (Owned (ZX Z (X1 ++ X2)) B st) (Owned (ZX Z X2) B' st') B B' st st' := by
  intro vs
  induction vs with
  | nil =>
    intro os X1 X2 B st st' r hn hz e cvs hv ho
    cases os with
    | nil =>
      obtain ⟨_, rfl⟩ := run_ret e
      cases cvs with
      | nil => obtain ⟨_, rfl⟩ := ho; exact ⟨B, r, Stay.refl⟩
      | cons v vs => exact hv.elim
    | cons o os => cases e
  | cons v vs ih =>
    intro os X1 X2 B st st' r hn hz e cvs hv ho
    cases cvs with
    | nil => exact hv.elim
    | cons cv cvs =>
    obtain ⟨hv1, hv2⟩ := hv
    by_cases hp : ∃ h g, v = .ptr h g 0 none
    · obtain ⟨h, g, rfl⟩ := hp
      cases os with
      | nil => cases e
      | cons o os =>
      cases o with
      | box fs =>
        obtain ⟨fs', st1, e1, e2⟩ := run_some e
        simp only [run] at e2
        obtain ⟨cv', cvs', Y1, Y2, h1, rfl, h2, h3⟩ := ho
        simp only [pv] at h1
        cases h1
        obtain ⟨b, arr, ty, X', rfl, g2, g3, rfl⟩ := h2
        have hm : ∀ x, x ∈ (b :: X' ++ Y2) ++ X2 ↔ x ∈ X' ++ (b :: (Y2 ++ X2)) := fun x => by simp [or_left_comm, or_assoc]
        have hO : (Owned (ZX Z ((b :: X' ++ Y2) ++ X2)) B st) = (Owned (ZX Z (X' ++ (b :: (Y2 ++ X2)))) B st) := funext fun x => propext (Owned.congr (ZX_perm Z hm) x)
        have hn' : (X' ++ (b :: (Y2 ++ X2))).Nodup := by
          have := hn
          rw [List.append_assoc] at this
          exact nodup_swap this
        have hz' : ∀ x ∈ X' ++ (b :: (Y2 ++ X2)), ¬ Z x := fun x hx => hz x ((hm x).2 hx)
        rw [hO] at hv1 hv2 g3 h3
        obtain ⟨B1, ra, sa, fa, ga⟩ := inAll_sound (r.congr (ZX_perm Z hm)) hn' hz' e1 g3
        cases hb : Nat.beq (st1.gen h) g with
        | false => rw [hb] at e2; cases e2
        | true =>
        rw [hb] at e2
        have hg := Nat.eq_of_beq_eq_true hb
        generalize hcc : st1.cont h = c at e2
        cases c with
        | undef =>
          simp only [run] at e2
          have hv1' : V1 w _ B1 st1 (.ptr h g 0 none) _ := V1.mono sa hv1
          obtain ⟨b', hb', e'⟩ := hv1'.2 hg.symm
          simp only [poff, Value.pointer.injEq, Option.some.injEq, Addr.mk.injEq, and_true] at e'
          subst e'
          have hn2 := (List.nodup_append.1 hn').2.1
          obtain ⟨B2, rb, sb, vb⟩ := ra.attachBox hn2 (fun x hx => hz' x (List.mem_append_right _ hx)) g2 fa h g (.inr ⟨hg, hb'.symm⟩)
          have hn3 := (List.nodup_cons.1 hn2).2
          obtain ⟨B3, rc, sc⟩ := ih rb hn3 (fun x hx => hz' x (List.mem_append_right _ (List.mem_cons_of_mem _ hx))) e2
            (hv2.mono fun _ _ h => (h.mono sa).mono sb) ((h3.keep (sa.keep fun _ _ => rfl)).keep (sb.keep fun _ _ => rfl))
          exact ⟨B3, rc, by rw [hO]; exact (sa.trans sb).trans sc⟩
        | _ => cases e2
      | _ => cases e
    · have e' : run (outsP vs os) st = some ((), st') := by
        cases v with
        | ptr h g k i =>
          cases k with
          | succ k => cases os <;> cases e
          | zero => cases i with
            | some p => cases os <;> cases e
            | none => exact absurd ⟨_, _, rfl⟩ hp
        | _ => cases os <;> exact e
      have hpv : pv (v :: vs) (cv :: cvs) = pv vs cvs := by
        cases v with
        | ptr h g k i =>
          cases k with
          | succ k => rfl
          | zero => cases i with
            | some p => rfl
            | none => exact absurd ⟨_, _, rfl⟩ hp
        | _ => rfl
      rw [hpv] at ho
      exact ih r hn hz e' hv2 ho
end
end Go.Pv
