/- The operations that make memory. -/
import Derived.Test.YtcdobfeeabhkeaaPvL
import Derived.Deep.AppendSrc
set_option autoImplicit false
set_option linter.unusedVariables false
set_option linter.unusedSimpArgs false
namespace Go.Pv

theorem Tr.push {w w' : World} {o : Obj} (h : w'.heap = w.heap.push o) (he : w'.os = w.os ∧ w'.tape = w.tape ∧ w'.output = w.output := by exact ⟨rfl, rfl, rfl⟩) : Tr (fun _ => False) w w' := by
  refine ⟨by rw [h, Array.size_push]; omega, fun b hb _ => ?_, he, fun _ _ _ _ h => h.elim⟩
  rw [h, Array.getElem?_push, if_neg (by omega)]

theorem get_push {w w' : World} {o : Obj} (h : w'.heap = w.heap.push o) : w'.heap[w.heap.size]? = some o := by
  rw [h]; simp

section
variable {E : Env} {Z : Nat → Prop} {B : Nat → Option Nat} {st st' : St} {tm : Array Value} {w : World}

theorem Tr.imp {M N : Nat → Prop} {w w' : World} (t : Tr M w w') (h : ∀ b, M b → N b) : Tr N w w' :=
  ⟨t.size, fun b hb hn => t.same b hb fun hm => hn (h b hm), t.env, fun b arr e hh _ => t.row hh⟩

theorem newOwn_sound {X : List Nat} (r : Rel (ZX Z X) B st tm w) (hn : X.Nodup) (hz : ∀ b ∈ X, ¬ Z b) {d : Nat} {t : Ty} {l : List (El t)} {v : Value} (hv : OV1 w (Owned (ZX Z X) B st) (.own t l) [v] X) {u : AV} (e : run (newOwn d t l) st = some (u, st')) :
    ∃ B', Rel Z B' st' tm w ∧ Stay w w (Owned (ZX Z X) B st) (Owned Z B' st') B B' st st' ∧ VR w (Owned Z B' st') B' st' u v := by
  simp only [newOwn, run, Option.some.injEq, Prod.mk.injEq] at e
  obtain ⟨rfl, rfl⟩ := e
  have hX : ∀ y, ZX Z X y ↔ ZX Z (X ++ []) y := ZX_perm Z fun y => by simp
  have hO : (Owned (ZX Z X) B st) = (Owned (ZX Z (X ++ [])) B st) := funext fun x => propext (Owned.congr hX x)
  rw [hO] at hv ⊢
  obtain ⟨B', ra, sa, va, _⟩ := (r.congr hX).attachOwn (by simpa using hn) (by simpa using hz) hv (sh d) (st.gen (sh d) + 2) (Nat.le_refl _)
  have hO' : ∀ st'', (Owned (ZX Z []) B' st'') = (Owned Z B' st'') := fun st'' => funext fun x => propext (Owned.congr (ZX_nil Z) x)
  rw [hO'] at sa va
  exact ⟨B', ra.congr (ZX_nil Z), sa, va⟩

theorem own_nil {O : Nat → Prop} {u : Ty} {a : Option Addr} : OV1 w O (.own u []) [.slice a 0 0] [] :=
  ⟨_, none, rfl, ⟨a, 0, rfl, Nat.le_refl _, .inl ⟨rfl, rfl⟩⟩, .inl ⟨rfl, rfl⟩, rfl⟩

theorem Rel.nil (r : Rel Z B st tm w) : Rel (ZX Z []) B st tm w := r.congr fun x => (ZX_nil Z x).symm
theorem Owned.nil : (Owned (ZX Z []) B st) = (Owned Z B st) := funext fun x => propext (Owned.congr (ZX_nil Z) x)

/-- a variable is given a value -/
theorem bindTo_sound (r : Rel Z B st tm w) {d : Nat} {ty : TypeId} {u v : AV} {val : Value} (hv : VR w (Owned Z B st) B st u val) (e : run (bindTo E d ty u) st = some (v, st')) :
    ∃ B', Rel Z B' st' tm w ∧ Stay w w (Owned Z B st) (Owned Z B' st') B B' st st' ∧ VR w (Owned Z B' st') B' st' v val := by
  have same : run (.ret u) st = some (v, st') → ∃ B', Rel Z B' st' tm w ∧ Stay w w (Owned Z B st) (Owned Z B' st') B B' st st' ∧ VR w (Owned Z B' st') B' st' v val := fun e => by
    obtain ⟨rfl, rfl⟩ := run_ret e
    exact ⟨B, r, Stay.refl, hv⟩
  cases u with
  | nils =>
    have key : ∀ u, run (newOwn d u []) st = some (v, st') → ∃ B', Rel Z B' st' tm w ∧ Stay w w (Owned Z B st) (Owned Z B' st') B B' st st' ∧ VR w (Owned Z B' st') B' st' v val := fun u e => by
      cases hv
      obtain ⟨B', ra, sa, va⟩ := newOwn_sound r.nil List.nodup_nil (by simp) own_nil e
      rw [Owned.nil] at sa
      exact ⟨B', ra, sa, va⟩
    unfold bindTo at e
    cases ht : tyOf E.P ty with
    | none => rw [ht] at e; exact same e
    | some t =>
      rw [ht] at e
      cases t with
      | slice u => exact key u e
      | _ => exact same e
  | lref h g s =>
    cases s with
    | some p => exact same e
    | none =>
      unfold bindTo at e
      cases hT : isTemp E h with
      | false => simp only [hT] at e; exact same e
      | true =>
        simp only [hT] at e
        obtain ⟨c, st1, h1, ea⟩ := run_some e
        obtain ⟨rfl, hcc, rfl⟩ := run_home h1
        rw [hcc] at ea
        split at ea
        · rename_i t l hc
          simp only [run] at ea
          obtain ⟨X, ra, sa, oa, na, za, _⟩ := r.nil.detachOwn (by simp) List.nodup_nil h (st1.gen h + 2) (.inr (Nat.le_refl _)) hc (v := val) (by rw [Owned.nil]; exact hv)
          rw [List.append_nil] at ra sa oa na za
          rw [Owned.nil] at sa
          obtain ⟨B', rb, sb, vb⟩ := newOwn_sound ra na za oa ea
          exact ⟨B', rb, sa.trans sb, vb⟩
        · exact same ea
  | _ => exact same e

theorem assign_sound {a : Act} {o : Oper} {x : Operand} (ho : o.op = .assign x) (r : Rel Z B st a.tmps w) {v : AV} (e : run (opP E o) st = some (v, st')) : Did E Z B st a w o v st' := by
  unfold opP at e
  simp only [ho] at e
  obtain ⟨u, st1, h1, ea⟩ := run_some e
  obtain ⟨rfl, v1⟩ := opd_sound r h1
  split at ea
  · obtain ⟨B', ra, sa, va⟩ := bindTo_sound r v1 ea
    exact ⟨a.eval x, B', w, .inl (by unfold execOp; rw [ho]; rfl), ra, sa, Tr.refl _ _, va⟩
  · cases ea

/-! ### things -/
theorem put1K_sound {X : List Nat} (r : Rel (ZX Z X) B st tm w) (hn : X.Nodup) (hz : ∀ b ∈ X, ¬ Z b) {h i : Nat} {t : Ty} {f f' : AV} (e : run (put1K E h i t f) st = some (f', st')) {cs : List Value} (hv : F1 w (Owned (ZX Z X) B st) B st f cs) :
    ∃ B', Rel (ZX Z X) B' st' tm w ∧ Stay w w (Owned (ZX Z X) B st) (Owned (ZX Z X) B' st') B B' st st' ∧ F1 w (Owned (ZX Z X) B' st') B' st' f' cs ∧ (∀ k, k ≤ h → (∃ fs, st.cont k = .box fs) → st'.cont k = st.cont k ∧ st'.gen k = st.gen k ∧ B' k = B k) := by
  have same : run (.ret f) st = some (f', st') → ∃ B', Rel (ZX Z X) B' st' tm w ∧ Stay w w (Owned (ZX Z X) B st) (Owned (ZX Z X) B' st') B B' st st' ∧ F1 w (Owned (ZX Z X) B' st') B' st' f' cs ∧ (∀ k, k ≤ h → (∃ fs, st.cont k = .box fs) → st'.cont k = st.cont k ∧ st'.gen k = st.gen k ∧ B' k = B k) := fun e => by
    obtain ⟨rfl, rfl⟩ := run_ret e
    exact ⟨B, r, Stay.refl, hv, fun _ _ _ => ⟨rfl, rfl, rfl⟩⟩
  cases f with
  | nils =>
    cases t with
    | slice u =>
      simp only [put1K, run, Option.some.injEq, Prod.mk.injEq] at e
      obtain ⟨rfl, rfl⟩ := e
      obtain ⟨v, rfl, ho, hv⟩ := hv
      cases hv
      obtain ⟨B', ra, sa, va, _, hB⟩ := r.attachOwn (X1 := []) (X2 := X) (by simpa using hn) (by simpa using hz) (own_nil (u := u) (a := none)) (h + i + 1) (st.gen (h + i + 1) + 2) (Nat.le_refl _)
      exact ⟨B', ra, sa, ⟨_, rfl, ho, va⟩, fun k hk _ => ⟨by rw [cont_seth, if_neg (by omega)], by rw [gen_seth, if_neg (by omega)], hB k (by omega)⟩⟩
    | _ => cases e
  | lref h2 g2 s =>
    cases s with
    | some p => exact same e
    | none =>
      unfold put1K at e
      cases hT : isTemp E h2 with
      | false => simp only [hT] at e; exact same e
      | true =>
        simp only [hT] at e
        obtain ⟨c, st1, h1, ea⟩ := run_some e
        obtain ⟨rfl, hcc, rfl⟩ := run_home h1
        rw [hcc] at ea
        split at ea
        · rename_i u l hc
          simp only [run, Option.some.injEq, Prod.mk.injEq] at ea
          obtain ⟨rfl, rfl⟩ := ea
          obtain ⟨v, rfl, ho, hv⟩ := hv
          obtain ⟨X1, ra, sa, oa, na, za, hX1⟩ := r.detachOwn hz hn h2 (st1.gen h2 + 2) (.inr (Nat.le_refl _)) hc hv
          obtain ⟨B', rb, sb, vb, _, hB⟩ := ra.attachOwn na za oa (h + i + 1) _ (Nat.lt_succ_self _)
          refine ⟨B', rb, sa.trans sb, ⟨v, rfl, ho, vb⟩, fun k hk ⟨fs, hfs⟩ => ?_⟩
          have hne : h2 ≠ k := fun e => by rw [← e, hc] at hfs; cases hfs
          refine ⟨?_, ?_, hB k (by omega)⟩
          · rw [cont_seth, if_neg (by omega), cont_seth, if_neg hne]
          · rw [gen_seth, if_neg (by omega), gen_seth, if_neg hne]
        · exact same ea
  | _ => exact same e

theorem put1_sound {X : List Nat} (r : Rel (ZX Z X) B st tm w) (hn : X.Nodup) (hz : ∀ b ∈ X, ¬ Z b) {h i : Nat} {t : Ty} {f f' : AV} (e : run (put1 E h i t f) st = some (f', st')) {cs : List Value} (hv : F1 w (Owned (ZX Z X) B st) B st f cs) :
    ∃ B', Rel (ZX Z X) B' st' tm w ∧ Stay w w (Owned (ZX Z X) B st) (Owned (ZX Z X) B' st') B B' st st' ∧ F1 w (Owned (ZX Z X) B' st') B' st' f' cs ∧ (∀ k, k ≤ h → (∃ fs, st.cont k = .box fs) → st'.cont k = st.cont k ∧ st'.gen k = st.gen k ∧ B' k = B k) := by
  unfold put1 at e
  cases hk : E.keep with
  | true => rw [hk] at e; exact put1K_sound r hn hz e hv
  | false =>
    rw [hk] at e
    have same : run (.ret f) st = some (f', st') → ∃ B', Rel (ZX Z X) B' st' tm w ∧ Stay w w (Owned (ZX Z X) B st) (Owned (ZX Z X) B' st') B B' st st' ∧ F1 w (Owned (ZX Z X) B' st') B' st' f' cs ∧ (∀ k, k ≤ h → (∃ fs, st.cont k = .box fs) → st'.cont k = st.cont k ∧ st'.gen k = st.gen k ∧ B' k = B k) := fun e => by
      obtain ⟨rfl, rfl⟩ := run_ret e
      exact ⟨B, r, Stay.refl, hv, fun _ _ _ => ⟨rfl, rfl, rfl⟩⟩
    unfold put1V at e
    cases t with
    | slice u =>
      cases f with
      | nils =>
        obtain ⟨rfl, rfl⟩ := run_ret e
        obtain ⟨v, rfl, ho, hv⟩ := hv
        cases hv
        exact ⟨B, r, Stay.refl, ⟨none, 0, rfl, Nat.le_refl _, .inl rfl⟩, fun _ _ _ => ⟨rfl, rfl, rfl⟩⟩
      | lref h2 g2 s =>
        obtain ⟨l, st1, e1, e2⟩ := run_some e
        obtain ⟨rfl, rfl⟩ := run_pure e2
        obtain ⟨ra, sa, ka⟩ := toLeaf_sound r e1
        refine ⟨B, ra, sa, ka cs hv, fun k _ ⟨fs, hfs⟩ => ?_⟩
        obtain ⟨l', st2, e3, e4⟩ := run_some (show run (do let l ← listAt u (.lref h2 g2 s); freeze (.lref h2 g2 s); pure l : Pr (List (El u))) st = some (l, st') from e1)
        have := listAt_st e3
        subst this
        obtain ⟨_, st3, e5, e6⟩ := run_some e4
        obtain ⟨_, rfl⟩ := run_pure e6
        obtain ⟨c, st4, e7, e8⟩ := run_some e5
        obtain ⟨rfl, hcc, rfl⟩ := run_home e7
        rw [hcc] at e8
        split at e8
        · rename_i t0 l0 hc
          simp only [run, Option.some.injEq, Prod.mk.injEq, true_and] at e8
          subst e8
          have hne : h2 ≠ k := fun e => by rw [← e, hc] at hfs; cases hfs
          exact ⟨by rw [cont_seth, if_neg hne], by rw [gen_seth, if_neg hne], rfl⟩
        · obtain ⟨_, rfl⟩ := run_ret e8
          exact ⟨rfl, rfl, rfl⟩
        · cases e8
      | _ => exact same e
    | _ => exact same e

theorem putAll_sound {X : List Nat} (hn : X.Nodup) (hz : ∀ b ∈ X, ¬ Z b) {h : Nat} : ∀ {ts : List Ty} {fs : List AV} {i : Nat} {B : Nat → Option Nat} {st st' : St} (r : Rel (ZX Z X) B st tm w) {fs' : List AV} (e : run (putAll E h i ts fs) st = some (fs', st')) {cs : List Value} (hv : Fs w (Owned (ZX Z X) B st) B st fs cs),
    ∃ B', Rel (ZX Z X) B' st' tm w ∧ Stay w w (Owned (ZX Z X) B st) (Owned (ZX Z X) B' st') B B' st st' ∧ Fs w (Owned (ZX Z X) B' st') B' st' fs' cs ∧ (∀ k, k ≤ h → (∃ fs, st.cont k = .box fs) → st'.cont k = st.cont k ∧ st'.gen k = st.gen k ∧ B' k = B k) := by
  intro ts
  induction ts with
  | nil =>
    intro fs i B st st' r fs' e cs hv
    cases fs with
    | nil => obtain ⟨rfl, rfl⟩ := run_ret e; exact ⟨B, r, Stay.refl, hv, fun _ _ _ => ⟨rfl, rfl, rfl⟩⟩
    | cons f fs => cases e
  | cons t ts ih =>
    intro fs i B st st' r fs' e cs hv
    cases fs with
    | nil => cases e
    | cons f fs =>
      obtain ⟨f', st1, e1, e2⟩ := run_some e
      obtain ⟨r', st2, e3, e4⟩ := run_some e2
      obtain ⟨rfl, rfl⟩ := run_pure e4
      obtain ⟨c1, c2, rfl, h1, h2⟩ := hv
      obtain ⟨B1, ra, sa, fa, ka⟩ := put1_sound r hn hz e1 h1
      obtain ⟨B2, rb, sb, fb, kb⟩ := ih ra e3 (Fs.mono sa h2)
      refine ⟨B2, rb, sa.trans sb, ⟨c1, c2, rfl, fa.mono sb, fb⟩, fun k hk hfs => ?_⟩
      obtain ⟨g1, g2, g3⟩ := ka k hk hfs
      obtain ⟨k1, k2, k3⟩ := kb k hk (by rw [g1]; exact hfs)
      exact ⟨k1.trans g1, k2.trans g2, k3.trans g3⟩

theorem newBox_sound {b : Nat} (r : Rel (ZX Z [b]) B st tm w) (hz : ¬ Z b) {d : Nat} {ty : Ty} {fs : List AV} {arr : Array Value} {et : TypeId} (hb : w.heap[b]? = some (.cells arr et (0, 0))) (hv : Fs w (Owned (ZX Z [b]) B st) B st fs arr.toList) {v : AV} (e : run (newBox E d ty fs) st = some (v, st')) :
    ∃ B', Rel Z B' st' tm w ∧ Stay w w (Owned (ZX Z [b]) B st) (Owned Z B' st') B B' st st' ∧ VR w (Owned Z B' st') B' st' v (.pointer (some ⟨b, 0, none⟩)) := by
  obtain ⟨_, st1, h1, ea⟩ := run_some e
  obtain ⟨_, rfl⟩ := run_guard h1
  obtain ⟨fs', st2, h2, eb⟩ := run_some ea
  simp only [run, Option.some.injEq, Prod.mk.injEq] at eb
  obtain ⟨rfl, rfl⟩ := eb
  obtain ⟨B1, ra, sa, fa, _⟩ := putAll_sound (by simp) (by simpa using hz) r h2 hv
  obtain ⟨B2, rb, sb, vb⟩ := ra.attachBox (X := []) (by simp) (by simpa using hz) hb fa (sh d) (st2.gen (sh d) + 2) (.inl (Nat.le_refl _))
  have hO' : ∀ st'', (Owned (ZX Z []) B2 st'') = (Owned Z B2 st'') := fun st'' => funext fun x => propext (Owned.congr (ZX_nil Z) x)
  rw [hO'] at sb vb
  exact ⟨B2, rb.congr (ZX_nil Z), sa.trans sb, vb⟩

theorem sameV_eq {a b : Value} (h : sameV a b = true) : a = b := by
  unfold sameV at h
  split at h
  · simp at h; rw [h.1, h.2]
  · simp at h; rw [h]
  · rename_i x y
    simp only [Bool.and_eq_true] at h
    have h1 := Nat.eq_of_beq_eq_true h.1
    have h2 := Nat.eq_of_beq_eq_true h.2
    have e : ∀ z : ByteArray, z.size = 0 → z = ByteArray.empty := fun z hz => by
      cases z with
      | mk d =>
        have : d = #[] := Array.eq_empty_of_size_eq_zero hz
        subst this; rfl
    rw [e x h1, e y h2]
  · rfl
  · rfl
  · cases h

theorem sameVs_eq : ∀ {a b : List Value}, sameVs a b = true → a = b
  | [], [], _ => rfl
  | a :: x, b :: y, h => by
    simp only [sameVs, Bool.and_eq_true] at h
    rw [sameV_eq h.1, sameVs_eq h.2]
  | [], _ :: _, h => by cases h
  | _ :: _, [], h => by cases h

theorem zeroOk_some {P : Program} {t : TypeId} {ty : Ty} (h : zeroOk P t ty = true) : ∃ i z, P.info? t = some i ∧ i.zero = some z ∧ z.cells.toList = zeroCs ty ∧ ty.noFn = true := by
  unfold zeroOk at h
  split at h
  · rename_i i hi
    split at h
    · rename_i z hz; rw [Bool.and_eq_true] at h; exact ⟨i, z, hi, hz, sameVs_eq h.2, h.1⟩
    · cases h
  · cases h

theorem Row.replicate {α : Type} {R : α → List Value → Prop} {x : α} {cs : List Value} (h : R x cs) : ∀ n : Nat, Row R (List.replicate n x) (List.replicate n cs).flatten
  | 0 => rfl
  | n + 1 => ⟨cs, (List.replicate n cs).flatten, by simp [List.replicate_succ], h, Row.replicate h n⟩

theorem zero_cells {O : Nat → Prop} : ∀ {t : Ty}, t.noFn = true → Cells w O t (zeroEl t) (zeroCs t) := by
  intro t
  induction t with
  | int k => exact fun _ => rfl
  | bool => exact fun _ => rfl
  | str => exact fun _ => rfl
  | slice t ih => exact fun _ => ⟨none, 0, rfl, Nat.le_refl _, .inl rfl⟩
  | unit => exact fun _ => rfl
  | pair a b iha ihb => exact fun h => by rw [Ty.noFn, Bool.and_eq_true] at h; exact ⟨_, _, rfl, iha h.1, ihb h.2⟩
  | arr n t ih => exact fun h => ⟨by simp [zeroEl], Row.replicate (ih h) n⟩
  | fn f a b => exact fun h => by cases h
  | map t ih => exact fun _ => ⟨rfl, rfl⟩

theorem zero_fs {O : Nat → Prop} : ∀ {t : Ty}, t.noFn = true → Fs w O B st (zeroFs t) (zeroCs t) := by
  intro t
  induction t with
  | slice t ih => exact fun _ => ⟨_, [], rfl, ⟨.slice none 0 0, rfl, rfl, rfl⟩, rfl⟩
  | unit => exact fun _ => rfl
  | pair a b iha ihb => exact fun h => by rw [Ty.noFn, Bool.and_eq_true] at h; exact Row.append (iha h.1) (ihb h.2)
  | int k => exact fun _ => ⟨[_], [], rfl, zero_cells (w := w) (O := O) (t := .int k) rfl, rfl⟩
  | bool => exact fun _ => ⟨[_], [], rfl, zero_cells (w := w) (O := O) (t := .bool) rfl, rfl⟩
  | str => exact fun _ => ⟨[_], [], rfl, zero_cells (w := w) (O := O) (t := .str) rfl, rfl⟩
  | arr n t ih => exact fun h => ⟨zeroCs (.arr n t), [], by simp, zero_cells (w := w) (O := O) (t := .arr n t) h, rfl⟩
  | fn f a b => exact fun h => by cases h
  | map t ih => exact fun _ => ⟨[_], [], rfl, ⟨_, rfl, rfl, trivial⟩, rfl⟩

theorem leaves_fs {O : Nat → Prop} : ∀ {t : Ty} {x : El t} {cs : List Value}, Cells w O t x cs → Fs w O B st (leaves t x) cs := by
  intro t
  induction t with
  | unit => rintro x cs rfl; rfl
  | pair a b iha ihb => rintro x cs ⟨c1, c2, rfl, h1, h2⟩; exact Row.append (iha h1) (ihb h2)
  | _ => intro x cs h; exact ⟨cs, [], by simp, h, rfl⟩

theorem alloc_sound {a : Act} {o : Oper} {t : TypeId} (ho : o.op = .alloc t) (r : Rel Z B st a.tmps w) (hz : ∀ b, Z b → b < w.heap.size) {v : AV} (e : run (opP E o) st = some (v, st')) : Did E Z B st a w o v st' := by
  unfold opP at e
  simp only [ho] at e
  split at e
  · rename_i d hd
    obtain ⟨ty, st1, h1, ea⟩ := run_some e
    obtain ⟨ht, rfl⟩ := run_lift h1
    obtain ⟨_, st2, h2, eb⟩ := run_some ea
    obtain ⟨hz0, rfl⟩ := run_guard h2
    obtain ⟨i, z, hi, hzr, hcs, hnf⟩ := zeroOk_some hz0
    have hp : (w.alloc (.cells z.cells t)).heap = w.heap.push (.cells z.cells t) := rfl
    obtain ⟨ra, sa⟩ := r.fresh (Tr.push hp) [w.heap.size] (by simp)
    obtain ⟨B', rb, sb, vb⟩ := newBox_sound ra (fun h => Nat.lt_irrefl _ (hz _ h)) (get_push hp) (by rw [hcs]; exact zero_fs hnf) eb
    exact ⟨_, B', _, .inl (by
      unfold execOp
      simp [ho, Instr.alloc, zeroValue, typeInfo, hi, hzr, newVar, newRow]), rb, sa.trans sb, (Tr.push hp).imp fun _ h => h.elim, vb⟩
  · cases e

theorem chk1_sound (r : Rel Z B st tm w) {v : AV} {val : Value} (hv : VR w (Owned Z B st) B st v val) (e : run (chk1 v) st = some ((), st')) : st' = st ∧ (∀ h g s, v = .lref h g s → ∃ a l c, val = .slice a l c) ∧ ∀ h g, v = .mref h g → ∃ b, val = .map (some b) := by
  cases v with
  | lref h g s =>
    obtain ⟨c, st1, h1, ea⟩ := run_some e
    obtain ⟨rfl, hcc, rfl⟩ := run_home h1
    rw [hcc] at ea
    have key : ∀ (t : Ty) (l : List (El t)), asList (st1.cont h) = some ⟨t, l⟩ → ∀ h' g' s', AV.lref h (st1.gen h) s = .lref h' g' s' → ∃ a l c, val = .slice a l c := by
      intro t l hl _ _ _ _
      obtain ⟨_, aa, cc, rfl, _⟩ := hv.2 rfl t l hl
      exact ⟨_, _, _, rfl⟩
    split at ea
    · rename_i t l hc
      obtain ⟨_, rfl⟩ := run_ret ea
      exact ⟨rfl, key t l (by rw [hc]; rfl), fun _ _ h => by cases h⟩
    · rename_i t l hc
      obtain ⟨_, rfl⟩ := run_ret ea
      exact ⟨rfl, key t l (by rw [hc]; rfl), fun _ _ h => by cases h⟩
    · cases ea
  | mref h g =>
    obtain ⟨c, st1, h1, ea⟩ := run_some e
    obtain ⟨rfl, hcc, rfl⟩ := run_home h1
    obtain ⟨b, hb, rfl⟩ := hv.2 rfl
    rw [hcc] at ea
    split at ea
    · obtain ⟨_, rfl⟩ := run_ret ea
      exact ⟨rfl, (fun _ _ _ h => by cases h), fun _ _ _ => ⟨b, rfl⟩⟩
    · cases ea
  | _ => obtain ⟨_, rfl⟩ := run_ret e; exact ⟨rfl, (fun _ _ _ h => by cases h), fun _ _ h => by cases h⟩

theorem fieldsOf_sound (r : Rel Z B st tm w) {ty : Ty} {v : AV} {val : Value} (hv : VR w (Owned Z B st) B st v val) {fs : List AV} (e : run (fieldsOf ty v) st = some (fs, st')) (hf : fitAll (leafTys ty) fs = true) :
    st' = st ∧ Fs w (Owned Z B st) B st fs val.cells.toList := by
  have leaf : run (do chk1 v; pure [v] : Pr (List AV)) st = some (fs, st') → fitAll [ty] fs = true → st' = st ∧ Fs w (Owned Z B st) B st fs val.cells.toList := by
    intro e hf
    obtain ⟨_, st1, h1, ea⟩ := run_some e
    obtain ⟨rfl, hk, hk2⟩ := chk1_sound r hv h1
    obtain ⟨rfl, rfl⟩ := run_pure ea
    simp only [fitAll, Bool.and_true] at hf
    refine ⟨rfl, ?_⟩
    cases v with
    | val s x =>
      obtain ⟨cs, hc, rfl⟩ := hv
      rw [hc.toV_cells]
      exact ⟨cs, [], by simp, hc, rfl⟩
    | nils => cases hv; exact ⟨_, [], rfl, ⟨_, rfl, rfl, rfl⟩, rfl⟩
    | lref h g s =>
      obtain ⟨aa, l, c, rfl⟩ := hk h g s rfl
      exact ⟨[_], [], rfl, ⟨_, rfl, rfl, hv⟩, rfl⟩
    | mref h g =>
      obtain ⟨b, rfl⟩ := hk2 h g rfl
      exact ⟨[_], [], rfl, ⟨_, rfl, rfl, hv⟩, rfl⟩
    | _ => simp [fits] at hf
  cases ty with
  | pair p q =>
    cases v with
    | agg gs =>
      obtain ⟨rfl, rfl⟩ := run_ret e
      obtain ⟨arr, rfl, h⟩ := hv
      exact ⟨rfl, h⟩
    | val s x =>
      obtain ⟨y, st1, h1, ea⟩ := run_some e
      obtain ⟨hc, rfl⟩ := run_lift h1
      obtain ⟨rfl, rfl⟩ := run_pure ea
      obtain ⟨e1, h2⟩ := castEl_some hc
      subst e1
      have h2 : x = y := h2
      subst h2
      obtain ⟨cs, hcs, rfl⟩ := hv
      refine ⟨rfl, ?_⟩
      rw [hcs.toV_cells]
      exact leaves_fs hcs
    | _ => cases e
  | unit =>
    cases v with
    | agg gs =>
      obtain ⟨rfl, rfl⟩ := run_ret e
      obtain ⟨arr, rfl, h⟩ := hv
      exact ⟨rfl, h⟩
    | _ => cases e
  | _ => exact leaf e hf

theorem box_sound {a : Act} {o : Oper} {t : TypeId} {x : Operand} (ho : o.op = .box t x) (r : Rel Z B st a.tmps w) (hz : ∀ b, Z b → b < w.heap.size) {v : AV} (e : run (opP E o) st = some (v, st')) : Did E Z B st a w o v st' := by
  unfold opP at e
  simp only [ho] at e
  split at e
  · rename_i d hd
    obtain ⟨u, st1, h1, ea⟩ := run_some e
    obtain ⟨rfl, v1⟩ := opd_sound r h1
    obtain ⟨ty, st2, h2, eb⟩ := run_some ea
    obtain ⟨ht, rfl⟩ := run_lift h2
    obtain ⟨fs, st3, h3, ec⟩ := run_some eb
    have hf : fitAll (leafTys ty) fs = true := by
      obtain ⟨_, st4, h4, _⟩ := run_some ec
      exact (run_guard h4).1
    obtain ⟨rfl, hfs⟩ := fieldsOf_sound r v1 h3 hf
    have hp : (w.alloc (.cells (a.eval x).cells t)).heap = w.heap.push (.cells (a.eval x).cells t) := rfl
    obtain ⟨ra, sa⟩ := r.fresh (Tr.push hp) [w.heap.size] (by simp)
    obtain ⟨B', rb, sb, vb⟩ := newBox_sound ra (fun h => Nat.lt_irrefl _ (hz _ h)) (get_push hp) (Fs.mono sa hfs) ec
    exact ⟨_, B', _, .inl (by
      unfold execOp
      simp [ho, Instr.box, newVar, newRow]), rb, sa.trans sb, (Tr.push hp).imp fun _ h => h.elim, vb⟩
  · cases e
end
end Go.Pv
