/- What comes in and what goes out: a function does what its code's reading says. -/
import Derived.Test.YtcdobfeeabhkeaaPvU
set_option autoImplicit false
set_option linter.unusedVariables false
set_option linter.unusedSimpArgs false
namespace Go.Pv

inductive For2 {α β : Type} (R : α → β → Prop) : List α → List β → Prop
  | nil : For2 R [] []
  | cons {a : α} {b : β} {l : List α} {m : List β} (h : R a b) (t : For2 R l m) : For2 R (a :: l) (b :: m)

section
variable {E : Env} {Z M : Nat → Prop} {B : Nat → Option Nat} {st st' : St} {tm : Array Value} {w w0 : World} {n : Nat} {pn : Nat → Option Nat}

theorem V1.toOwned {O : Nat → Prop} {v : AV} {val : Value} (h : V1 w O B st v val) : VR w O B st v val := h.toVR

theorem inArgs_sound : ∀ {as : List AV} {vs : List Value} {k : Nat} {X : List Nat} {B : Nat → Option Nat} {st st' : St} (r : Rel (ZX Z X) B st tm w) (hn : X.Nodup) (hz : ∀ b ∈ X, ¬ Z b) (e : run (inArgs k as) st = some ((), st'))
    (hv : OVl w (Owned (ZX Z X) B st) as vs X) (ht : ∀ j v, vs[j]? = some v → tm.getD (k + j) undef = v) (hp : ∀ h b, pn h = some b → st.gen h = 1 → B h = some b)
    (hb : ∀ j fs b o, as[j]? = some (.box fs) → vs[j]? = some (.pointer (some ⟨b, o, none⟩)) → pn (sh (k + j)) = some b),
    ∃ B', Rel Z B' st' tm w ∧ Stay w w (Owned (ZX Z X) B st) (Owned Z B' st') B B' st st' := by
  intro as
  induction as with
  | nil =>
    intro vs k X B st st' r hn hz e hv ht hp hb
    obtain ⟨_, rfl⟩ := run_ret e
    obtain ⟨_, rfl⟩ := hv
    refine ⟨B, r.congr (ZX_nil Z), ?_⟩
    have : (Owned (ZX Z []) B st') = (Owned Z B st') := Owned.nil
    rw [this]; exact Stay.refl
  | cons a as ih =>
    intro vs k X B st st' r hn hz e hv ht hp hb
    obtain ⟨v, vs', X1, X2, rfl, rfl, h1, h2⟩ := hv
    obtain ⟨_, st1, e1, e2⟩ := run_some e
    have htail : ∀ j u, vs'[j]? = some u → tm.getD (k + 1 + j) undef = u := fun j u hj => by
      have := ht (j + 1) u (by simpa using hj)
      rw [← this]; congr 1; omega
    have hbt : ∀ j fs b o, as[j]? = some (.box fs) → vs'[j]? = some (.pointer (some ⟨b, o, none⟩)) → pn (sh (k + 1 + j)) = some b := fun j fs b o ha hj => by
      have := hb (j + 1) fs b o (by simpa using ha) (by simpa using hj)
      rw [← this]; congr 2; omega
    have hn2 : X2.Nodup := (List.nodup_append.1 hn).2.1
    have hz2 : ∀ b ∈ X2, ¬ Z b := fun b hb => hz b (List.mem_append_right _ hb)
    have fin : ∀ {B1 : Nat → Option Nat}, Rel (ZX Z X2) B1 st1 tm w → Stay w w (Owned (ZX Z (X1 ++ X2)) B st) (Owned (ZX Z X2) B1 st1) B B1 st st1 → ∃ B', Rel Z B' st' tm w ∧ Stay w w (Owned (ZX Z (X1 ++ X2)) B st) (Owned Z B' st') B B' st st' := fun ra sa => by
      obtain ⟨B', rb, sb⟩ := ih ra hn2 hz2 e2 (h2.sub fun b hb h => sa.sub b hb h) htail (fun h b hpn hg => by
        have h0 := (sa.gen h).one hg
        rw [(sa.hk h (hg.trans h0.symm)).1]
        exact hp h b hpn h0) hbt
      exact ⟨B', rb, sa.trans sb⟩
    cases a with
    | val t x =>
      obtain ⟨h3, rfl⟩ := h1
      simp only [inArg, run, Option.some.injEq, Prod.mk.injEq, true_and] at e1
      subst e1
      have hval := ht 0 v rfl
      rw [Nat.add_zero] at hval
      have hvr : VR w (Owned (ZX Z X2) B st) B st (.val t x) (tm.getD k undef) := by rw [hval]; exact h3
      have ra := Rel.retell r hvr
      refine fin ra ?_
      exact ⟨Nat.le_refl _, fun _ _ _ => rfl, fun _ _ h => h, fun _ => .refl _, fun h _ => ⟨rfl, fun t l hl => ⟨l, hl, rfl⟩⟩, fun b arr e h => ⟨arr, h, rfl⟩⟩
    | eptr t x q =>
      obtain ⟨h3, rfl⟩ := h1
      simp only [inArg, run, Option.some.injEq, Prod.mk.injEq, true_and] at e1
      subst e1
      have hval := ht 0 v rfl
      rw [Nat.add_zero] at hval
      have hvr : VR w (Owned (ZX Z X2) B st) B st (.eptr t x q) (tm.getD k undef) := by rw [hval]; exact h3
      have ra := Rel.retell r hvr
      refine fin ra ?_
      exact ⟨Nat.le_refl _, fun _ _ _ => rfl, fun _ _ h => h, fun _ => .refl _, fun h _ => ⟨rfl, fun t l hl => ⟨l, hl, rfl⟩⟩, fun b arr e h => ⟨arr, h, rfl⟩⟩
    | own t l =>
      simp only [inArg, run, Option.some.injEq, Prod.mk.injEq, true_and] at e1
      subst e1
      obtain ⟨B1, ra, sa, va, _, _⟩ := r.attachOwn hn hz (t := t) (l := l) (v := v) h1 (sh k) (st.gen (sh k) + 2) (Nat.le_refl _)
      have hval := ht 0 v rfl
      rw [Nat.add_zero] at hval
      have rc := Rel.retell ra (d := k) (a := .lref (sh k) (st.gen (sh k) + 2) none) (by rw [hval]; exact va)
      refine fin rc (sa.trans ?_)
      exact ⟨Nat.le_refl _, fun _ _ _ => rfl, fun _ _ h => h, fun _ => .refl _, fun h _ => ⟨rfl, fun t l hl => ⟨l, hl, rfl⟩⟩, fun b arr e h => ⟨arr, h, rfl⟩⟩
    | box fs =>
      obtain ⟨b, arr, ty, X', rfl, g2, g3, rfl⟩ := h1
      have hc : ∀ x, ZX Z (b :: X' ++ X2) x ↔ ZX Z (X' ++ b :: X2) x := fun x => by
        unfold ZX; simp [or_assoc, or_comm, or_left_comm]
      have hO : (Owned (ZX Z (b :: X' ++ X2)) B st) = (Owned (ZX Z (X' ++ b :: X2)) B st) := funext fun x => propext (Owned.congr hc x)
      have hn' := nodup_swap hn
      have hz' : ∀ x ∈ X' ++ b :: X2, ¬ Z x := fun x hx => hz x (by simp at hx ⊢; rcases hx with h | h | h <;> simp [h])
      rw [hO] at g3
      obtain ⟨fs', st2, e3, e4⟩ := run_some e1
      obtain ⟨B1, ra, sa, fa, ga⟩ := inAll_sound (r.congr hc) hn' hz' e3 g3
      simp only [run] at e4
      cases hg1 : Nat.beq (st2.gen (sh k)) 1 with
      | false => rw [hg1] at e4; cases e4
      | true =>
        rw [hg1] at e4
        simp only [run, Option.some.injEq, Prod.mk.injEq, true_and] at e4
        subst e4
        have hg1 := Nat.eq_of_beq_eq_true hg1
        have h0 := (sa.gen (sh k)).one hg1
        have hpn : pn (sh k) = some b := hb 0 fs b 0 rfl rfl
        have hB : B1 (sh k) = some b := by rw [(sa.hk _ (hg1.trans h0.symm)).1]; exact hp _ _ hpn h0
        obtain ⟨B2, rb, sb, vb⟩ := ra.attachBox (List.nodup_append.1 hn').2.1 (fun x hx => hz' x (List.mem_append_right _ hx)) g2 fa (sh k) 1 (.inr ⟨hg1, hB.symm⟩)
        have hval := ht 0 _ rfl
        rw [Nat.add_zero] at hval
        have rc := Rel.retell rb (d := k) (a := .ptr (sh k) 1 0 none) (by rw [hval]; exact vb)
        rw [hO]
        refine (fun h => by rw [← hO]; exact fin rc h) ?_
        rw [hO]
        refine (sa.trans sb).trans ?_
        exact ⟨Nat.le_refl _, fun _ _ _ => rfl, fun _ _ h => h, fun _ => .refl _, fun h _ => ⟨rfl, fun t l hl => ⟨l, hl, rfl⟩⟩, fun b arr e h => ⟨arr, h, rfl⟩⟩
    | _ => cases e1

/-- a thing at a home is handed out -/
theorem outBox_sound {X : List Nat} (r : Rel (ZX Z X) B st tm w) (hn : X.Nodup) (hz : ∀ b ∈ X, ¬ Z b) {h g b : Nat} (hg : Up (st.gen h) g) {fs fs' : List AV} (hcc : st.cont h = .box fs) (hB : B h = some b)
    (e : run (outAll fs) (st.seth h g .undef) = some (fs', st')) :
    ∃ X1, Rel (ZX Z (X1 ++ X)) B st' tm w ∧ Stay w w (Owned (ZX Z X) B st) (Owned (ZX Z (X1 ++ X)) B st') B B st st' ∧
      OV2 w (Owned (ZX Z (X1 ++ X)) B st') (.box fs') (.pointer (some ⟨b, 0, none⟩)) X1 ∧ (X1 ++ X).Nodup ∧ (∀ b ∈ X1 ++ X, ¬ Z b) := by
  have hr := r.hr h
  rw [hcc] at hr
  obtain ⟨b', arr, ty, hb, hh, hf⟩ := hr
  rw [hB] at hb; cases hb
  obtain ⟨ra, sa⟩ := r.detach h g hg (by rw [hcc]; rfl)
  have hc : ∀ x, (ZX Z X x ∨ B h = some x) ↔ ZX Z (b :: X) x := fun x => by
    unfold ZX; rw [hB]; simp [or_assoc, or_comm, or_left_comm, eq_comm]
  have hbX : ¬ ZX Z X b := r.ext h b (by rw [hcc]; rfl) hB
  have ra' := ra.congr hc
  have sa' := sa.congr (fun _ => Iff.rfl) (Owned.congr hc)
  have hn' : (b :: X).Nodup := List.nodup_cons.2 ⟨fun h => hbX (.inr h), hn⟩
  have hz' : ∀ x ∈ b :: X, ¬ Z x := fun x hx => by
    rcases List.mem_cons.1 hx with rfl | hx
    · exact fun h => hbX (.inl h)
    · exact hz x hx
  obtain ⟨X1, rb, sb, ob, nb, zb⟩ := outAll_sound ra' hn' hz' e (Fs.mono sa' hf)
  have hm : ∀ x, x ∈ X1 ++ b :: X ↔ x ∈ (b :: X1) ++ X := fun x => by simp [or_left_comm]
  have hO : (Owned (ZX Z (X1 ++ b :: X)) B st') = (Owned (ZX Z ((b :: X1) ++ X)) B st') := funext fun x => propext (Owned.congr (ZX_perm Z hm) x)
  refine ⟨b :: X1, rb.congr (ZX_perm Z hm), (sa'.trans sb).congr (fun _ => Iff.rfl) (Owned.congr (ZX_perm Z hm)), ?_, (List.perm_middle (a := b) (l₁ := X1) (l₂ := X)).nodup_iff.1 nb, fun x hx => zb x ((hm x).2 hx)⟩
  rw [← hO]
  exact ⟨b, arr, ty, X1, rfl, hh, ob, rfl⟩

theorem outR_sound {X : List Nat} (r : Rel (ZX Z X) B st tm w) (hn : X.Nodup) (hz : ∀ b ∈ X, ¬ Z b) {bv : Bool} {t : TypeId} {v a : AV} (e : run (outR E bv t v) st = some (a, st')) {cv : Value} (hv : VR w (Owned (ZX Z X) B st) B st v cv) :
    ∃ X1, Rel (ZX Z (X1 ++ X)) B st' tm w ∧ Stay w w (Owned (ZX Z X) B st) (Owned (ZX Z (X1 ++ X)) B st') B B st st' ∧
      OV2 w (Owned (ZX Z (X1 ++ X)) B st') a cv X1 ∧ (X1 ++ X).Nodup ∧ (∀ b ∈ X1 ++ X, ¬ Z b) := by
  have key : run (do let ty ← lift (tyOf E.P t); let x ← toEl ty v; pure (.val ty x) : Pr AV) st = some (a, st') →
      ∃ X1, Rel (ZX Z (X1 ++ X)) B st' tm w ∧ Stay w w (Owned (ZX Z X) B st) (Owned (ZX Z (X1 ++ X)) B st') B B st st' ∧
        OV2 w (Owned (ZX Z (X1 ++ X)) B st') a cv X1 ∧ (X1 ++ X).Nodup ∧ (∀ b ∈ X1 ++ X, ¬ Z b) := fun e => by
    obtain ⟨ty, st1, e1, e2⟩ := run_some e
    obtain ⟨_, rfl⟩ := run_lift e1
    obtain ⟨x, st2, e3, e4⟩ := run_some e2
    obtain ⟨rfl, rfl⟩ := run_pure e4
    obtain ⟨ra, sa, ka⟩ := toEl_sound r e3
    exact ⟨[], ra, sa, ⟨ka cv hv, rfl⟩, hn, hz⟩
  cases bv with
  | true => exact key e
  | false =>
    cases v with
    | nils =>
      obtain ⟨ty, st1, e1, e2⟩ := run_some e
      obtain ⟨_, rfl⟩ := run_lift e1
      cases ty with
      | slice u =>
        obtain ⟨rfl, rfl⟩ := run_pure e2
        cases hv
        exact ⟨[], r, Stay.refl, own_nil, hn, hz⟩
      | _ => cases e2
    | nilp =>
      obtain ⟨rfl, rfl⟩ := run_ret e
      cases hv
      exact ⟨[], r, Stay.refl, ⟨rfl, rfl⟩, hn, hz⟩
    | val t x =>
      obtain ⟨rfl, rfl⟩ := run_ret e
      exact ⟨[], r, Stay.refl, ⟨hv, rfl⟩, hn, hz⟩
    | lref h g s =>
      cases s with
      | some s => exact key e
      | none =>
        obtain ⟨c, st1, h1, h2⟩ := run_some e
        obtain ⟨rfl, rfl, rfl⟩ := run_home h1
        cases hcc : st1.cont h with
        | own u l =>
          rw [hcc] at h2
          simp only [run, Option.some.injEq, Prod.mk.injEq] at h2
          obtain ⟨rfl, rfl⟩ := h2
          obtain ⟨X1, ra, sa, oa, na, za, _⟩ := r.detachOwn hz hn h (st1.gen h + 2) (.inr (Nat.le_refl _)) hcc hv
          exact ⟨X1, ra, sa, oa, na, za⟩
        | val u l =>
          rw [hcc] at h2
          cases u with
          | slice u =>
            obtain ⟨rfl, rfl⟩ := run_pure h2
            have := frozen_reads r hcc hv
            exact ⟨[], r, Stay.refl, ⟨⟨[cv], this, rfl⟩, rfl⟩, hn, hz⟩
          | _ => cases h2
        | _ => rw [hcc] at h2; cases h2
    | ptr h g k i =>
      cases k with
      | succ k => exact key e
      | zero =>
        cases i with
        | some i => exact key e
        | none =>
          obtain ⟨c, st1, h1, h2⟩ := run_some e
          obtain ⟨rfl, rfl, rfl⟩ := run_home h1
          cases hcc : st1.cont h with
          | box fs =>
            rw [hcc] at h2
            simp only [run] at h2
            obtain ⟨fs', st2, e1, e2⟩ := run_some h2
            obtain ⟨rfl, rfl⟩ := run_pure e2
            obtain ⟨b, hb, rfl⟩ := hv.2 rfl
            exact outBox_sound r hn hz (.inr (Nat.le_refl _)) hcc hb e1
          | _ => rw [hcc] at h2; cases h2
    | _ => exact key e

theorem OV2.stay {X : List Nat} {O O' : Nat → Prop} {B' : Nat → Option Nat} (s : Stay w w O O' B B' st st') {a : AV} {v : Value} (h : OV2 w O a v X) : OV2 w O' a v X := h.sub s.sub

theorem perm_swap {X X1 X2 : List Nat} : (X2 ++ (X1 ++ X)).Perm ((X1 ++ X2) ++ X) := by
  rw [← List.append_assoc]
  exact List.Perm.append_right X List.perm_append_comm

/-- what a result holds -/
def resOf (P : Program) (w : World) (tm : Array Value) : ResultVar → Value → Prop
  | .tmp t, v => v = tm.getD t undef
  | .cell a t, v => (do loadVar t (← asAddr (tm.getD a undef)) : Sem Value).run P w = .ok v w

theorem run_loadAt_var {t : TypeId} {p v : Value} (h : (Instr.loadAt t p).run E.P w = .ok v w) : (do loadVar t (← asAddr p) : Sem Value).run E.P w = .ok v w := by
  unfold Instr.loadAt at h
  cases p with
  | pointer a =>
    cases a with
    | some a => simpa [Instr.sureAddr, asAddr] using h
    | none => simp [Instr.sureAddr, stuck] at h
  | _ => simp [Instr.sureAddr, stuck] at h

theorem outRs_sound : ∀ {rs : List (TypeId × ResultVar)} {bs : List Bool} {X : List Nat} {B : Nat → Option Nat} {st st' : St} (r : Rel (ZX Z X) B st tm w) (hn : X.Nodup) (hz : ∀ b ∈ X, ¬ Z b) {as : List AV}
    (e : run (outRs E bs rs) st = some (as, st')),
    ∃ X1 vs, Rel (ZX Z (X1 ++ X)) B st' tm w ∧ Stay w w (Owned (ZX Z X) B st) (Owned (ZX Z (X1 ++ X)) B st') B B st st' ∧
      OVl w (Owned (ZX Z (X1 ++ X)) B st') as vs X1 ∧ (X1 ++ X).Nodup ∧ (∀ b ∈ X1 ++ X, ¬ Z b) ∧ For2 (resOf E.P w tm) (rs.map (·.2)) vs := by
  intro rs
  induction rs with
  | nil =>
    intro bs X B st st' r hn hz as e
    obtain ⟨rfl, rfl⟩ := run_ret (show run (.ret []) st = some (as, st') by cases bs <;> exact e)
    exact ⟨[], [], r, Stay.refl, ⟨rfl, rfl⟩, hn, hz, .nil⟩
  | cons p rs ih =>
    intro bs X B st st' r hn hz as e
    obtain ⟨t, rv⟩ := p
    have fin : ∀ {v : AV} {cv : Value}, VR w (Owned (ZX Z X) B st) B st v cv → resOf E.P w tm rv cv → run (do let v' ← outR E (bs.headD false) t v; let vs ← outRs E bs.tail rs; pure (v' :: vs) : Pr (List AV)) st = some (as, st') →
        ∃ X1 vs, Rel (ZX Z (X1 ++ X)) B st' tm w ∧ Stay w w (Owned (ZX Z X) B st) (Owned (ZX Z (X1 ++ X)) B st') B B st st' ∧
          OVl w (Owned (ZX Z (X1 ++ X)) B st') as vs X1 ∧ (X1 ++ X).Nodup ∧ (∀ b ∈ X1 ++ X, ¬ Z b) ∧ For2 (resOf E.P w tm) (rv :: rs.map (·.2)) vs := fun hv hres e => by
      obtain ⟨a, st1, e1, e2⟩ := run_some e
      obtain ⟨as', st2, e3, e4⟩ := run_some e2
      obtain ⟨rfl, rfl⟩ := run_pure e4
      obtain ⟨X1, ra, sa, oa, na, za⟩ := outR_sound r hn hz e1 hv
      obtain ⟨X2, vs, rb, sb, ob, nb, zb, hf⟩ := ih ra na za e3
      have hp : (X2 ++ (X1 ++ X)).Perm ((X1 ++ X2) ++ X) := perm_swap
      have hm : ∀ x, x ∈ X2 ++ (X1 ++ X) ↔ x ∈ (X1 ++ X2) ++ X := fun x => hp.mem_iff
      have hO : (Owned (ZX Z (X2 ++ (X1 ++ X))) B st') = (Owned (ZX Z ((X1 ++ X2) ++ X)) B st') := funext fun x => propext (Owned.congr (ZX_perm Z hm) x)
      refine ⟨X1 ++ X2, _ :: vs, rb.congr (ZX_perm Z hm), (sa.trans sb).congr (fun _ => Iff.rfl) (Owned.congr (ZX_perm Z hm)), ⟨_, vs, X1, X2, rfl, rfl, ?_, ?_⟩, hp.nodup_iff.1 nb, fun b hb => zb b ((hm b).2 hb), .cons hres hf⟩
      · rw [← hO]; exact oa.sub sb.sub
      · rw [← hO]; exact ob
    cases rv with
    | tmp s =>
      have e : run (do let v' ← outR E (bs.headD false) t (st.get s); let vs ← outRs E bs.tail rs; pure (v' :: vs) : Pr (List AV)) st = some (as, st') := e
      exact fin (r.vr s) rfl e
    | cell c u =>
      have e : run (do let ty ← lift (tyOf E.P u); let v ← loadP ty (st.get c); let v' ← outR E (bs.headD false) t v; let vs ← outRs E bs.tail rs; pure (v' :: vs) : Pr (List AV)) st = some (as, st') := e
      obtain ⟨ty, st1, e1, e2⟩ := run_some e
      obtain ⟨hty, rfl⟩ := run_lift e1
      obtain ⟨v, st2, e3, e4⟩ := run_some e2
      obtain ⟨rfl, cv, hl, hv⟩ := loadP_sound (a := ⟨tm, []⟩) r hty (r.vr c) e3
      exact fin hv (run_loadAt_var hl) e4

theorem outBoxes_sound : ∀ {as : List AV} {vs : List Value} {k : Nat} {X : List Nat} {B : Nat → Option Nat} {st st' : St} (r : Rel (ZX Z X) B st tm w) (hn : X.Nodup) (hz : ∀ b ∈ X, ¬ Z b) {os : List AV} (e : run (outBoxes k as) st = some (os, st'))
    (hp : ∀ h b, pn h = some b → st.gen h = 1 → B h = some b) (hl : as.length = vs.length)
    (hb : ∀ j fs, as[j]? = some (.box fs) → ∃ b, vs[j]? = some (.pointer (some ⟨b, 0, none⟩)) ∧ pn (sh (k + j)) = some b),
    ∃ X1, Rel (ZX Z (X1 ++ X)) B st' tm w ∧ Stay w w (Owned (ZX Z X) B st) (Owned (ZX Z (X1 ++ X)) B st') B B st st' ∧
      OVl w (Owned (ZX Z (X1 ++ X)) B st') os (bv as vs) X1 ∧ (X1 ++ X).Nodup ∧ (∀ b ∈ X1 ++ X, ¬ Z b) := by
  intro as
  induction as with
  | nil =>
    intro vs k X B st st' r hn hz os e hp hl hb
    obtain ⟨rfl, rfl⟩ := run_ret e
    cases vs with
    | nil => exact ⟨[], r, Stay.refl, ⟨rfl, rfl⟩, hn, hz⟩
    | cons _ _ => cases hl
  | cons a as ih =>
    intro vs k X B st st' r hn hz os e hp hl hb
    cases vs with
    | nil => cases hl
    | cons v vs =>
    have hbt : ∀ j fs, as[j]? = some (.box fs) → ∃ b, vs[j]? = some (.pointer (some ⟨b, 0, none⟩)) ∧ pn (sh (k + 1 + j)) = some b := fun j fs ha => by
      obtain ⟨b, h1, h2⟩ := hb (j + 1) fs (by simpa using ha)
      exact ⟨b, by simpa using h1, by rw [← h2]; congr 2; omega⟩
    have hlt : as.length = vs.length := by simpa using hl
    by_cases hbox : ∃ fs, a = .box fs
    · obtain ⟨fs, rfl⟩ := hbox
      simp only [outBoxes, run] at e
      cases hg : Nat.beq (st.gen (sh k)) 1 with
      | false => rw [hg] at e; cases e
      | true =>
        rw [hg] at e
        cases hcc : st.cont (sh k) with
        | box fs0 =>
          rw [hcc] at e
          simp only [run] at e
          obtain ⟨fs', st1, e1, e2⟩ := run_some e
          obtain ⟨os', st2, e3, e4⟩ := run_some e2
          obtain ⟨rfl, rfl⟩ := run_pure e4
          obtain ⟨b, h1, h2⟩ := hb 0 fs rfl
          have hv : v = .pointer (some ⟨b, 0, none⟩) := by simpa using h1
          subst hv
          have hg := Nat.eq_of_beq_eq_true hg
          have hB := hp _ _ h2 hg
          obtain ⟨X1, ra, sa, oa, na, za⟩ := outBox_sound r hn hz (g := 3) (by rw [hg]; exact .inr (by decide)) hcc hB e1
          obtain ⟨X2, rb, sb, ob, nb, zb⟩ := ih ra na za e3 (fun h b hpn hg' => by
            have h0 := (sa.gen h).one hg'
            exact hp h b hpn h0) hlt hbt
          have hpm : (X2 ++ (X1 ++ X)).Perm ((X1 ++ X2) ++ X) := perm_swap
          have hm : ∀ x, x ∈ X2 ++ (X1 ++ X) ↔ x ∈ (X1 ++ X2) ++ X := fun x => hpm.mem_iff
          have hO : (Owned (ZX Z (X2 ++ (X1 ++ X))) B st') = (Owned (ZX Z ((X1 ++ X2) ++ X)) B st') := funext fun x => propext (Owned.congr (ZX_perm Z hm) x)
          refine ⟨X1 ++ X2, rb.congr (ZX_perm Z hm), (sa.trans sb).congr (fun _ => Iff.rfl) (Owned.congr (ZX_perm Z hm)), ⟨_, _, X1, X2, rfl, rfl, ?_, ?_⟩, hpm.nodup_iff.1 nb, fun b hb => zb b ((hm b).2 hb)⟩
          · rw [← hO]; exact oa.sub sb.sub
          · rw [← hO]; exact ob
        | _ => rw [hcc] at e; cases e
    · have e' : run (outBoxes (k + 1) as) st = some (os, st') := by
        cases a <;> first | exact e | exact absurd ⟨_, rfl⟩ hbox
      have eb : bv (a :: as) (v :: vs) = bv as vs := by
        cases a <;> first | rfl | exact absurd ⟨_, rfl⟩ hbox
      rw [eb]
      exact ih r hn hz e' hp hlt hbt

theorem OVl.len {O : Nat → Prop} : ∀ {as : List AV} {vs : List Value} {X : List Nat}, OVl w O as vs X → as.length = vs.length
  | [], _, _, ⟨rfl, _⟩ => rfl
  | a :: as, _, _, ⟨v, vs, _, _, rfl, _, _, h⟩ => by rw [List.length_cons, List.length_cons, OVl.len h]

theorem OVl.boxes {O : Nat → Prop} : ∀ {as : List AV} {vs : List Value} {X : List Nat}, OVl w O as vs X → ∀ (j : Nat) (fs : List AV), as[j]? = some (AV.box fs) → ∃ b, vs[j]? = some (Value.pointer (some ⟨b, 0, none⟩))
  | [], _, _, _, j, fs, h => by cases h
  | a :: as, _, _, ⟨v, vs, _, _, rfl, _, h1, h2⟩, 0, fs, h => by
    have : a = .box fs := by simpa using h
    subst this
    obtain ⟨b, arr, e, X', rfl, _⟩ := h1
    exact ⟨b, rfl⟩
  | a :: as, _, _, ⟨v, vs, _, _, rfl, _, h1, h2⟩, j + 1, fs, h => by
    obtain ⟨b, hb⟩ := OVl.boxes h2 j fs (by simpa using h)
    exact ⟨b, by simpa using hb⟩

theorem homes0_spec : ∀ (as : List AV) (k h : Nat), (look (0, AV.undef) h (homes0 k as)).2 = .undef
  | [], _, _ => rfl
  | a :: as, k, h => by
    by_cases hbox : ∃ fs, a = .box fs
    · obtain ⟨fs, rfl⟩ := hbox
      simp only [homes0]
      rw [look_cons]
      split
      · rfl
      · exact homes0_spec as (k + 1) h
    · have : homes0 k (a :: as) = homes0 (k + 1) as := by
        cases a <;> first | rfl | exact absurd ⟨_, rfl⟩ hbox
      rw [this]; exact homes0_spec as (k + 1) h

/-- the block of what is handed in at a place -/
def argBlk (vs : List Value) (i : Nat) : Option Nat := match vs[i]? with
  | some (.pointer (some ⟨b, _, none⟩)) => some b
  | _ => none

def resSem (tm : Array Value) : ResultVar → Sem Value
  | .tmp t => pure (tm.getD t undef)
  | .cell a t => do loadVar t (← asAddr (tm.getD a undef))

theorem results_eq (fn : Func) (tm : Array Value) : results fn tm = (do let vs ← fn.results.mapM (resSem tm); pure (if h : vs.size = 1 then vs[0] else .tuple vs)) := by
  unfold results
  congr 2

theorem run_results {tm : Array Value} {rs : List ResultVar} {vs : List Value} (h : For2 (resOf E.P w tm) rs vs) : (rs.mapM (resSem tm)).run E.P w = .ok vs w := by
  induction h with
  | nil => rfl
  | @cons r v l m h hs ih =>
    rw [List.mapM_cons]
    have h1 : (resSem tm r).run E.P w = .ok v w := by
      cases r with
      | tmp t => have h : v = _ := h; subst h; rfl
      | cell a t => exact h
    simp only [Sem.run_bind, h1, ih, Result.andThen_ok, Sem.run_pure]

theorem OV2.toOV3 {O : Nat → Prop} {a : AV} {v : Value} {X : List Nat} (h : OV2 w O a v X) : OV3 w O a v X := by
  cases a <;> first | exact h | exact h.elim

theorem decR1_enc {a : RAlt} {r : AV × List AV} {x : Tu a.tys} (h : decR1 a r = some x) : encR1 a x = r := by
  unfold decR1 at h
  obtain ⟨l1, h1, h2⟩ := Option.bind_eq_some_iff.1 h
  obtain ⟨l2, h3, h4⟩ := Option.bind_eq_some_iff.1 h2
  have f1 := fill_take _ _ l1 h1 l2
  have f2 := fill_takes _ _ l2 h3 []
  rw [List.append_nil] at f2
  unfold encR1
  rw [ofTu_toTu h4]
  dsimp only
  rw [f1]
  dsimp only
  rw [f2]

theorem decR_enc : ∀ {l : List RAlt} {r : AV × List AV} {o : ROut l}, decR l r = some o → encR l o = r
  | [], _, o, _ => nomatch o
  | [a], r, o, h => decR1_enc h
  | a :: b :: l, r, o, h => by
    simp only [decR] at h
    split at h
    · rename_i x hx
      cases h
      exact decR1_enc hx
    · obtain ⟨y, h1, rfl⟩ := Option.map_eq_some_iff.1 h
      simp only [encR]
      exact decR_enc h1

theorem body_sound (G : Good E) {f : FuncId} {fn : Func} {c : Code} {S : Fun} (hf : E.P.funcs[f]? = some fn) (hc : fn.body = some c) (hE : E.n = fn.ntmps) (hr : fn.resultTypes.size = fn.results.size)
    (hS : ∀ x o, S.F x = some o → ∃ LT J modes, (∀ b ∈ loopsOf c, LoopOk E LT J b) ∧ (∀ p ∈ labelsOf c, LabelOk E LT J p) ∧ bodyD E LT J modes fn S.args S.tys S.outs x = some o) : Sound E.P f S.spec := by
  intro as o0 hx Z X vs w hn hz hZ hX hov
  obtain ⟨xx, hxx, hFx⟩ := Option.bind_eq_some_iff.1 (show ((takeShs S.args as).bind (toTu S.tys)).bind S.F = some o0 from hx)
  obtain ⟨ls, hls, htu⟩ := Option.bind_eq_some_iff.1 hxx
  obtain ⟨LT, J, modes, hL, hl, hbody⟩ := hS xx o0 hFx
  have has : (fillShs S.args (ofTu S.tys xx)).1 = as := by
    have := fill_takes _ _ ls hls []
    rw [List.append_nil] at this
    rw [ofTu_toTu htu, this]
  unfold bodyD at hbody
  rw [has, hc] at hbody
  dsimp only at hbody
  cases hle : Nat.ble as.length E.n with
  | false => rw [hle] at hbody; cases hbody
  | true =>
  rw [hle] at hbody
  dsimp only at hbody
  have hle := Nat.le_of_ble_eq_true hle
  rw [exec_run] at hbody
  obtain ⟨⟨_, st1⟩, hin, hev⟩ := Option.bind_eq_some_iff.1 hbody
  have hlen := hov.len
  have hvs : vs.toList.length = vs.size := rfl
  -- the beginning
  let B0 : Nat → Option Nat := fun h => if h % 4096 = 0 then argBlk vs.toList (h / 4096) else none
  let tm : Array Value := vs ++ Array.replicate (fn.ntmps - vs.size) undef
  have htm : tm.size = E.n := by
    show (vs ++ Array.replicate (fn.ntmps - vs.size) undef).size = E.n
    rw [Array.size_append, Array.size_replicate]; omega
  have hcont : ∀ h, (⟨[], homes0 0 as⟩ : St).cont h = .undef := fun h => homes0_spec as 0 h
  have hO0 : ∀ b, Owned (ZX Z X) B0 ⟨[], homes0 0 as⟩ b ↔ ZX Z X b := fun b => by
    unfold Owned
    refine ⟨fun h => h.elim id fun ⟨k, h1, _⟩ => ?_, .inl⟩
    rw [hcont] at h1; cases h1
  have hOe : Owned (ZX Z X) B0 ⟨[], homes0 0 as⟩ = ZX Z X := funext fun b => propext (hO0 b)
  have r0 : Rel (ZX Z X) B0 ⟨[], homes0 0 as⟩ tm w := by
    refine ⟨fun h h' b h1 => ?_, fun h b h1 => ?_, fun h => ?_, fun t => trivial⟩
    · rw [hcont] at h1; cases h1
    · rw [hcont] at h1; cases h1
    · rw [hcont]; trivial
  have hbx := hov.boxes
  have hB0 : ∀ j b, argBlk vs.toList j = some b → B0 (sh (0 + j)) = some b := fun j b h => by
    show (if sh (0 + j) % 4096 = 0 then argBlk vs.toList (sh (0 + j) / 4096) else none) = some b
    unfold sh
    rw [Nat.zero_add, if_pos (Nat.mul_mod_right _ _), Nat.mul_div_cancel_left _ (by decide)]
    exact h
  obtain ⟨B1, r1, s1⟩ := inArgs_sound (pn := B0) (k := 0) r0 hn hz hin (by rw [hOe]; exact hov)
    (fun j v hj => by
      rw [Nat.zero_add]
      have hj' : vs[j]? = some v := by simpa using hj
      have hjlt : j < vs.size := (Array.getElem?_eq_some_iff.1 hj').1
      show (vs ++ Array.replicate (fn.ntmps - vs.size) undef).getD j undef = v
      rw [Array.getD_eq_getD_getElem?, Array.getElem?_append_left hjlt, hj']; rfl)
    (fun h b hp _ => hp)
    (fun j fs b o ha hj => hB0 j b (by unfold argBlk; rw [hj]))
  have i1 : Inv E.n B0 Z (· ∈ X) w B1 st1 tm w := by
    refine ⟨r1, Tr.refl _ _, fun b hb hl => ?_, hZ, htm, fun h b hp hg => ?_⟩
    · have := s1.sub b hb (.inr hl)
      rw [hOe] at this
      rcases this with h | h
      · obtain ⟨k, h1, h2⟩ := hl
        exact absurd h (r1.ext k b h1 h2)
      · exact h
    · have h0 := (s1.gen h).one hg
      rw [(s1.hk h (hg.trans h0.symm)).1]
      exact hp
  have hwp := (evalC_fine (w0 := w) (M := (· ∈ X)) (Z := Z) (pn := B0) LT J [] G rfl c hL hl).1 _ st1 _ _ hev B1 ⟨tm, []⟩ w i1 rfl
  refine calls_of_wp hf hc ?_
  have : ({ tmps := vs ++ Array.replicate (fn.ntmps - vs.size) undef, defers := [] } : Act) = ⟨tm, []⟩ := rfl
  rw [this]
  refine wp_mono hwp ?_
  rintro ex a' w' ⟨ex', B', st', rfl, hd, i', hk⟩
  have fin : exec (do
        let vs ← outRs E modes (fn.resultTypes.toList.zip fn.results.toList)
        let os ← outBoxes 0 as
        pure (tupOf vs, os) : Pr (AV × List AV)) st' (fun r _ => decR S.outs r) = some o0 →
      ∃ v, (results fn a'.tmps).run E.P w' = .ok v w' ∧ ∃ v' X1 X2, Ending.returned v = .returned v' ∧ (X1 ++ X2).Nodup ∧ (∀ b ∈ X1 ++ X2, ¬ Z b ∧ (b ∈ X ∨ w.heap.size ≤ b)) ∧
        OV3 w' (ZX Z (X1 ++ X2)) (encR S.outs o0).1 v' X1 ∧ OVl w' (ZX Z (X1 ++ X2)) (encR S.outs o0).2 (bv as vs.toList) X2 ∧ Tr (· ∈ X) w w' := fun e => by
    rw [exec_run] at e
    obtain ⟨⟨r, st2⟩, e1, e2⟩ := Option.bind_eq_some_iff.1 e
    have e2 : decR S.outs r = some o0 := e2
    rw [decR_enc e2]
    obtain ⟨rs, st3, e3, e4⟩ := run_some e1
    obtain ⟨os, st4, e5, e6⟩ := run_some e4
    obtain ⟨rfl, rfl⟩ := run_pure e6
    obtain ⟨X1, vals, ra, sa, oa, na, za, hres⟩ := outRs_sound i'.rel.nil List.nodup_nil (by simp) e3
    rw [List.append_nil] at ra sa oa na za
    obtain ⟨X2, rb, sb, ob, nb, zb⟩ := outBoxes_sound (pn := B0) (k := 0) ra na za e5 (fun h b hp hg => by
        have h0 := (sa.gen h).one hg
        exact i'.pin h b hp h0) hlen (fun j fs ha => by
        obtain ⟨b, hb⟩ := hbx j fs ha
        exact ⟨b, hb, hB0 j b (by unfold argBlk; rw [hb])⟩)
    have hm : ∀ y, y ∈ X2 ++ X1 ↔ y ∈ X1 ++ X2 := fun y => by simp [or_comm]
    have hsub : ∀ b, b < w'.heap.size → ZX Z (X1 ++ X2) b → Owned (ZX Z (X2 ++ X1)) B' st2 b := fun b _ h => .inl ((ZX_perm Z hm b).2 h)
    have hmap : (fn.resultTypes.toList.zip fn.results.toList).map (·.2) = fn.results.toList := by
      rw [List.map_snd_zip]
      simpa using Nat.le_of_eq hr.symm
    rw [hmap] at hres
    have hmm := run_results hres
    have hrr : ∃ v, (results fn a'.tmps).run E.P w' = .ok v w' ∧ OV3 w' (ZX Z (X1 ++ X2)) (tupOf rs) v X1 := by
      have harr : (fn.results.mapM (resSem a'.tmps)).run E.P w' = .ok vals.toArray w' := by
        rw [Array.mapM_eq_mapM_toList, Sem.run_map, hmm]
        rfl
      have ol : OVl w' (ZX Z (X1 ++ X2)) rs vals X1 := (oa.sub sb.sub).sub hsub
      rw [results_eq]
      simp only [Sem.run_bind, harr, Result.andThen_ok, Sem.run_pure]
      refine ⟨_, rfl, ?_⟩
      cases rs with
      | nil =>
        obtain ⟨rfl, rfl⟩ := ol
        exact ⟨#[], rfl, rfl, rfl⟩
      | cons a1 rs =>
        obtain ⟨v1, vs1, Y1, Y2, rfl, rfl, o1, o2⟩ := ol
        cases rs with
        | nil =>
          obtain ⟨rfl, rfl⟩ := o2
          simp only [List.append_nil] at o1 ⊢
          exact o1.toOV3
        | cons a2 rs =>
          obtain ⟨v2, vs2, Y3, Y4, rfl, rfl, o3, o4⟩ := o2
          exact ⟨_, rfl, v1, _, Y1, _, rfl, rfl, o1, v2, _, Y3, Y4, rfl, rfl, o3, o4⟩
    obtain ⟨v, hv1, hv2⟩ := hrr
    refine ⟨v, hv1, v, X1, X2, rfl, (List.perm_append_comm).nodup_iff.1 nb, fun b hb => ⟨zb b ((hm b).2 hb), ?_⟩, hv2, ob.sub hsub, i'.tr⟩
    rcases Nat.lt_or_ge b w.heap.size with hlt | hge
    · left
      have hlt' : b < w'.heap.size := Nat.lt_of_lt_of_le hlt i'.tr.size
      have h1 := sa.sub b hlt' (sb.sub b hlt' (.inl (.inr ((hm b).2 hb))))
      rw [Owned.nil] at h1
      rcases h1 with h1 | h1
      · exact absurd h1 (zb b ((hm b).2 hb))
      · exact i'.own b hlt h1
    · exact .inr hge
  cases ex' with
  | normal => exact ⟨hd, fin hk⟩
  | ret => exact ⟨hd, fin hk⟩
  | exit id => cases hk
  | goto l => cases hk

def KnownAll (P : Program) : List (Nat × Spec) → Prop
  | [] => True
  | p :: l => Known P p.1 p.2 ∧ KnownAll P l

theorem tab_known {P : Program} : ∀ {l : List (Nat × Spec)} (h : KnownAll P l) (f : FuncId) (as : List AV) (S : Spec), tab l f as = some S → Known P f S
  | [], _, f, as, S, e => by cases e
  | p :: l, h, f, as, S, e => by
    unfold tab at e
    split at e
    · rename_i e1
      rw [Bool.and_eq_true] at e1
      have e1 := Nat.eq_of_beq_eq_true e1.1
      subst e1; cases e
      exact h.1
    · exact tab_known h.2 f as S e

theorem Good.tab {P : Program} {l : List (Nat × Spec)} {named : List Nat} {k : Nat} {kp : Bool} {mv : List Nat} (h : KnownAll P l) (hm : P.follows .mixedOrders = true) : Good ⟨P, tab l, named, k, kp, mv⟩ := ⟨fun f as S e => tab_known h f as S e, hm⟩

def AllL {α : Type} (p : α → Prop) : List α → Prop
  | [] => True
  | x :: l => p x ∧ AllL p l

theorem AllL.mem {α : Type} {p : α → Prop} : ∀ {l : List α}, AllL p l → ∀ x ∈ l, p x
  | [], _, _, h => by cases h
  | y :: l, h, x, hx => by
    rcases List.mem_cons.1 hx with rfl | hx
    · exact h.1
    · exact AllL.mem h.2 x hx
end
end Go.Pv
