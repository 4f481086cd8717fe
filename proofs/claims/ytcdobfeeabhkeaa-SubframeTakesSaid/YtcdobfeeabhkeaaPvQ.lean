/- Calls, and all operations at once. -/
import Derived.Test.YtcdobfeeabhkeaaPvPb
import Derived.Conc.MuLone
set_option autoImplicit false
set_option linter.unusedVariables false
set_option linter.unusedSimpArgs false
namespace Go.Pv

/-- what is known of a function that is called -/
structure Known (P : Program) (f : FuncId) (S : Spec) : Prop where
  sound : Sound P f S
  code : ∃ fn c, P.funcs[f]? = some fn ∧ (fn.name == "runtime.NumGoroutine") = false ∧ fn.body = some c

section
variable {E : Env} {Z : Nat → Prop} {B : Nat → Option Nat} {st st' : St} {a : Act} {w : World}

theorem exec_builtin {o : Oper} {c : Call} {b : Builtin} (ho : o.op = .call c) (hc : c.callee = .builtin b) {r : Value} {w' : World}
    (h : (builtin b c.argTypes o.type (c.args.map fun | .const _ => true | _ => false) (c.args.map a.eval)).run E.P w = .ok (.value r) w') : (execOp a.eval o).run E.P w = .ok (.value r) w' := by
  unfold execOp
  simp only [ho, resolve, hc, Sem.run_bind, Sem.run_pure, Result.andThen_ok, invoke]
  exact h

theorem All2.toArgs {R : AV → Value → Prop} {vs : List AV} {cs : List Value} : All2 R vs cs → vs.length = cs.length := by
  induction vs generalizing cs with
  | nil => cases cs <;> intro h <;> first | rfl | exact h.elim
  | cons v vs ih => cases cs with
    | nil => exact fun h => h.elim
    | cons c cs => exact fun h => by simp [ih h.2]

theorem args_of {c : Call} {l : List Value} (h : c.args.toList.map a.eval = l) : c.args.map a.eval = l.toArray := by
  apply Array.ext'; simpa using h

theorem fold_min {w : World} {k : IntKind} : ∀ {vs : List AV} {cs : List Value} {x n : Int} {O : Nat → Prop}, run (vs.foldlM (fun (a : Int) v => match v with | .val (.int _) b => (.ret (minI a b) : Pr Int) | _ => .fail) x) st = some (n, st') → All2 (VR w O B st) vs cs →
    st' = st ∧ (cs.foldlM Builtin.min2 (.int k x)).run E.P w = .ok (.int k n) w := by
  intro vs
  induction vs with
  | nil => intro cs x n O e h; cases cs <;> first | exact h.elim | (obtain ⟨rfl, rfl⟩ := run_pure e; exact ⟨rfl, rfl⟩)
  | cons v vs ih =>
    intro cs x n O e h
    cases cs with
    | nil => exact h.elim
    | cons c cs =>
      rw [List.foldlM_cons] at e
      obtain ⟨y, st1, h1, h2⟩ := run_some e
      cases v with
      | val t b =>
        cases t with
        | int l =>
          obtain ⟨rfl, rfl⟩ := run_ret h1
          obtain ⟨h3, h4⟩ := h
          have := VR.int h3
          subst this
          obtain ⟨e1, e2⟩ := ih h2 h4
          refine ⟨e1, ?_⟩
          rw [List.foldlM_cons, Sem.run_bind]
          exact e2
        | _ => cases h1
      | _ => cases h1

theorem fold_max {w : World} {k : IntKind} : ∀ {vs : List AV} {cs : List Value} {x n : Int} {O : Nat → Prop}, run (vs.foldlM (fun (a : Int) v => match v with | .val (.int _) b => (.ret (maxI a b) : Pr Int) | _ => .fail) x) st = some (n, st') → All2 (VR w O B st) vs cs →
    st' = st ∧ (cs.foldlM Builtin.max2 (.int k x)).run E.P w = .ok (.int k n) w := by
  intro vs
  induction vs with
  | nil => intro cs x n O e h; cases cs <;> first | exact h.elim | (obtain ⟨rfl, rfl⟩ := run_pure e; exact ⟨rfl, rfl⟩)
  | cons v vs ih =>
    intro cs x n O e h
    cases cs with
    | nil => exact h.elim
    | cons c cs =>
      rw [List.foldlM_cons] at e
      obtain ⟨y, st1, h1, h2⟩ := run_some e
      cases v with
      | val t b =>
        cases t with
        | int l =>
          obtain ⟨rfl, rfl⟩ := run_ret h1
          obtain ⟨h3, h4⟩ := h
          have := VR.int h3
          subst this
          obtain ⟨e1, e2⟩ := ih h2 h4
          refine ⟨e1, ?_⟩
          rw [List.foldlM_cons, Sem.run_bind]
          exact e2
        | _ => cases h1
      | _ => cases h1

/-- a call of a builtin -/
theorem copyclear_sound {o : Oper} {c : Call} {b : Builtin} (ho : o.op = .call c) (hc : c.callee = .builtin b) (hb : b = .copy ∨ b = .clear) (r : Rel Z B st a.tmps w) {v : AV} (e : run (opP E o) st = some (v, st')) : Did E Z B st a w o v st' := by
  unfold opP at e
  simp only [ho, hc] at e
  have hts : c.argTypes = c.argTypes.toList.toArray := by simp
  rcases hb with rfl | rfl
  · obtain ⟨vs, st1, h1, ea⟩ := run_some e
    obtain ⟨rfl, hv⟩ := opdl_sound r h1
    split at ea
    · rename_i d x
      cases hcs : c.args.toList.map a.eval with
      | nil => rw [hcs] at hv; exact hv.elim
      | cons p rest =>
        rw [hcs] at hv
        cases rest with
        | nil => exact hv.2.elim
        | cons q rest =>
          cases rest with
          | cons _ _ => exact hv.2.2.elim
          | nil =>
            obtain ⟨val, w', hrun, ra, sa, ta, va⟩ := copyP_sound (ty := o.type) r hv.1 hv.2.1 ea
            refine ⟨val, B, w', .inl (exec_builtin ho hc ?_), ra, sa, ta, va⟩
            rw [args_of hcs, hts]
            simp only [builtin, Sem.run_bind, hrun, Result.andThen_ok, Sem.run_pure]
    · cases ea
  · obtain ⟨vs, st1, h1, ea⟩ := run_some e
    obtain ⟨rfl, hv⟩ := opdl_sound r h1
    split at ea
    · rename_i d
      cases hcs : c.args.toList.map a.eval with
      | nil => rw [hcs] at hv; exact hv.elim
      | cons p rest =>
        rw [hcs] at hv
        cases rest with
        | cons _ _ => exact hv.2.elim
        | nil =>
          obtain ⟨val, w', hrun, ra, sa, ta, va⟩ := clearP_sound (ty := o.type) r hv.1 ea
          refine ⟨val, B, w', .inl (exec_builtin ho hc ?_), ra, sa, ta, va⟩
          rw [args_of hcs, hts]
          simp only [builtin, Sem.run_bind, hrun, Result.andThen_ok, Sem.run_pure]
    · cases ea

theorem builtin_sound {o : Oper} {c : Call} {b : Builtin} (ho : o.op = .call c) (hc : c.callee = .builtin b) (r : Rel Z B st a.tmps w) (hZ : ∀ b, Z b → b < w.heap.size) {v : AV} (e : run (opP E o) st = some (v, st')) : Did E Z B st a w o v st' := by
  by_cases hcc : b = .copy ∨ b = .clear
  · exact copyclear_sound ho hc hcc r e
  unfold opP at e
  simp only [ho, hc] at e
  cases b with
  | copy => exact absurd (.inl rfl) hcc
  | clear => exact absurd (.inr rfl) hcc
  | len =>
    obtain ⟨vs, st1, h1, ea⟩ := run_some e
    obtain ⟨rfl, hv⟩ := opdl_sound r h1
    have done : ∀ {n : Nat}, (Builtin.len_ c.argTypes o.type (c.args.map a.eval)).run E.P w = .ok (goInt n) w → v = .val (.int .i64) (n : Int) → st' = st1 → Did E Z B st1 a w o v st' := fun h e1 e2 => by
      subst e1; subst e2
      refine Did.pure r (val := goInt _) (exec_builtin ho hc ?_) (VR.ofInt _ _)
      simp only [builtin, Sem.run_bind, h, Result.andThen_ok, Sem.run_pure]
    cases hk : (c.argTypes[0]?).bind E.P.underlying with
    | none =>
      simp only [hk] at ea
      cases ea
    | some d =>
      obtain ⟨t, ht, hu⟩ := Option.bind_eq_some_iff.1 hk
      simp only [hk] at ea
      split at ea
      · rename_i u ety hd
        cases hd
        cases hcs : c.args.toList.map a.eval with
        | nil => rw [hcs] at hv; exact hv.elim
        | cons pv rest =>
          rw [hcs] at hv
          cases rest with
          | cons _ _ => exact hv.2.elim
          | nil =>
            obtain ⟨_, st0, h0, eb⟩ := run_some ea
            obtain ⟨hsl, rfl⟩ := run_guard h0
            obtain ⟨n, st2, h2, h3⟩ := run_some eb
            obtain ⟨rfl, rfl⟩ := run_pure h3
            obtain ⟨rfl, hl⟩ := lenP_sound r hv.1 h2
            refine done ?_ rfl rfl
            rw [args_of hcs]
            rcases hl with ⟨x, cc, rfl⟩ | ⟨s, rfl, _, _⟩ | ⟨m, u, l, rfl, rfl⟩
            · simp [Builtin.len_, ht, run_underlying hu]
            · cases hsl
            · cases hsl
      · rename_i s hd
        cases hd
        cases hcs : c.args.toList.map a.eval with
        | nil => rw [hcs] at hv; exact hv.elim
        | cons pv rest =>
          rw [hcs] at hv
          cases rest with
          | cons _ _ => exact hv.2.elim
          | nil =>
            obtain ⟨rfl, rfl⟩ := run_pure ea
            have := hv.1.str
            subst this
            refine done ?_ rfl rfl
            rw [args_of hcs]
            simp [Builtin.len_, ht, run_underlying hu]
      · rename_i n e' hd
        cases hd
        cases hcs : c.args.toList.map a.eval with
        | nil => rw [hcs] at hv; exact hv.elim
        | cons pv rest =>
          obtain ⟨rfl, rfl⟩ := run_pure ea
          refine done ?_ rfl rfl
          rw [args_of hcs]
          simp [Builtin.len_, ht, run_underlying hu]
      · cases ea
  | append =>
    dsimp only at e
    split at e
    · rename_i d hd
      obtain ⟨vs, st1, h1, ea⟩ := run_some e
      obtain ⟨rfl, hv⟩ := opdl_sound r h1
      split at ea
      · rename_i s x
        cases hcs : c.args.toList.map a.eval with
        | nil => rw [hcs] at hv; exact hv.elim
        | cons p1 rest =>
          rw [hcs] at hv
          cases rest with
          | nil => exact hv.2.elim
          | cons p2 rest =>
            cases rest with
            | cons _ _ => exact hv.2.2.elim
            | nil =>
              obtain ⟨val, B', w', hrun, r', s', t', v'⟩ := appendP_sound (ty := o.type) r hZ hv.1 hv.2.1 ea
              refine ⟨val, B', w', .inl (exec_builtin ho hc ?_), r', s', t', v'⟩
              rw [args_of hcs]
              simp only [builtin, Sem.run_bind, hrun, Result.andThen_ok, Sem.run_pure]
      · cases ea
    · cases e
  | min =>
    obtain ⟨vs, st1, h1, ea⟩ := run_some e
    obtain ⟨rfl, hv⟩ := opdl_sound r h1
    unfold minP at ea
    split at ea
    · rename_i k x rest
      obtain ⟨n, st2, h2, h3⟩ := run_some ea
      obtain ⟨rfl, rfl⟩ := run_ret h3
      cases hcs : c.args.toList.map a.eval with
      | nil => rw [hcs] at hv; exact hv.elim
      | cons p1 cs =>
        rw [hcs] at hv
        have := VR.int hv.1
        subst this
        obtain ⟨rfl, e2⟩ := fold_min (k := k) h2 hv.2
        refine Did.pure r (val := .int k n) (exec_builtin ho hc ?_) (VR.ofInt _ _)
        rw [args_of hcs]
        have hm : (Builtin.min_ c.argTypes o.type (Value.int k x :: cs).toArray).run E.P w = .ok (.int k n) w := e2
        simp only [builtin, Sem.run_bind, hm, Result.andThen_ok, Sem.run_pure]
    · cases ea
  | max =>
    obtain ⟨vs, st1, h1, ea⟩ := run_some e
    obtain ⟨rfl, hv⟩ := opdl_sound r h1
    unfold maxP at ea
    split at ea
    · rename_i k x rest
      obtain ⟨n, st2, h2, h3⟩ := run_some ea
      obtain ⟨rfl, rfl⟩ := run_ret h3
      cases hcs : c.args.toList.map a.eval with
      | nil => rw [hcs] at hv; exact hv.elim
      | cons p1 cs =>
        rw [hcs] at hv
        have := VR.int hv.1
        subst this
        obtain ⟨rfl, e2⟩ := fold_max (k := k) h2 hv.2
        refine Did.pure r (val := .int k n) (exec_builtin ho hc ?_) (VR.ofInt _ _)
        rw [args_of hcs]
        have hm : (Builtin.max_ c.argTypes o.type (Value.int k x :: cs).toArray).run E.P w = .ok (.int k n) w := e2
        simp only [builtin, Sem.run_bind, hm, Result.andThen_ok, Sem.run_pure]
    · cases ea
  | _ => cases e

/-- a state's part of what a step leaves -/
structure Inv (n : Nat) (pn : Nat → Option Nat) (Z M : Nat → Prop) (w0 : World) (B : Nat → Option Nat) (st : St) (tm : Array Value) (w : World) : Prop where
  rel : Rel Z B st tm w
  tr : Tr M w0 w
  own : ∀ b, b < w0.heap.size → L B st b → M b
  hz : ∀ b, Z b → b < w0.heap.size
  size : tm.size = n
  pin : ∀ h b, pn h = some b → st.gen h = 1 → B h = some b

theorem Inv.zlt {n : Nat} {pn : Nat → Option Nat} {M : Nat → Prop} {w0 : World} {tm : Array Value} (i : Inv n pn Z M w0 B st tm w) : ∀ b, Z b → b < w.heap.size := fun b h => Nat.lt_of_lt_of_le (i.hz b h) i.tr.size

theorem Inv.next {n : Nat} {pn : Nat → Option Nat} {M : Nat → Prop} {w0 w' : World} {tm tm' : Array Value} {B' : Nat → Option Nat} (i : Inv n pn Z M w0 B st tm w) (r : Rel Z B' st' tm' w') (s : Stay w w' (Owned Z B st) (Owned Z B' st') B B' st st') (t : Tr (L B st) w w') (hn : tm'.size = tm.size) :
    Inv n pn Z M w0 B' st' tm' w' := by
  refine ⟨r, i.tr.trans t (fun _ h => h) fun b hb h => i.own b hb h, fun b hb hl => ?_, i.hz, hn.trans i.size, fun p b hp h1 => ?_⟩
  have hlt : b < w.heap.size := Nat.lt_of_lt_of_le hb i.tr.size
  rcases s.sub b hlt (.inr hl) with h | h
  · obtain ⟨k, h1, h2⟩ := hl
    exact absurd h (r.ext k b h1 h2)
  · exact i.own b hb h
  · have h0 := (s.gen p).one h1
    rw [(s.hk p (h1.trans h0.symm)).1]
    exact i.pin p b hp h0

structure Good (E : Env) : Prop where
  known : ∀ f as S, E.C f as = some S → Known E.P f S
  mixed : E.P.follows .mixedOrders = true

theorem callP_known {d f : Nat} {ts : List TypeId} {vs : List AV} {v : AV} (e : run (callP E d f ts vs) st = some (v, st')) : ∃ as S, E.C f as = some S := by
  unfold callP at e
  obtain ⟨z, st1, e1, ea⟩ := run_some e
  obtain ⟨as, st2, e2, eb⟩ := run_some ea
  cases hS : E.C f as with
  | none => rw [hS] at eb; cases eb
  | some S => exact ⟨as, S, hS⟩

theorem callF_known {d f : Nat} {ts : List TypeId} {vs : List AV} {v : AV} (e : run (callF E d f ts vs) st = some (v, st')) : ∃ as S, E.C f as = some S := by
  unfold callF at e
  cases hm : E.mv.contains f with
  | false => rw [hm] at e; exact callP_known e
  | true =>
    rw [hm] at e
    cases vs with
    | nil => cases e
    | cons u vs => cases vs with
      | cons _ _ => cases e
      | nil =>
        have e : run (callO E d f u) st = some (v, st') := e
        unfold callO at e
        split at e
        · rename_i h g
          obtain ⟨c, st1, h1, h2⟩ := run_some e
          split at h2
          · rename_i t l
            simp only [run] at h2
            cases hS : E.C f [.own t l] with
            | none => rw [hS] at h2; cases h2
            | some S => exact ⟨_, S, hS⟩
          · cases h2
        · cases e

/-- any operation -/
theorem opP_wp (G : Good E) {o : Oper} (r : Rel Z B st a.tmps w) (hZ : ∀ b, Z b → b < w.heap.size) {v : AV} (e : run (opP E o) st = some (v, st')) {K : Act → World → Prop} {Q : Exit → Act → World → Prop}
    (h : ∀ val B' w', Rel Z B' st' a.tmps w' → Stay w w' (Owned Z B st) (Owned Z B' st') B B' st st' → Tr (L B st) w w' → VR w' (Owned Z B' st') B' st' v val → K (a.put o.dst val) w') : o.wp E.P a w K Q := by
  have done : Did E Z B st a w o v st' → o.wp E.P a w K Q := by
    rintro ⟨val, B', w', hx | ⟨hx, rfl⟩, hr, hs, ht, hv⟩
    · unfold Oper.wp; rw [hx]; exact h val B' w' hr hs ht hv
    · unfold Oper.wp; rw [hx]; exact h undef B' w' hr hs ht hv
  cases ho : o.op with
  | move x => exact done (move_sound ho r e)
  | assign x => exact done (assign_sound ho r e)
  | pick c x y => exact done (pick_sound ho r e)
  | alloc t => exact done (alloc_sound ho r hZ e)
  | box t x => exact done (box_sound ho r hZ e)
  | build t ps => exact done (build_sound ho r e)
  | buildSlice t n ps => exact done (buildSlice_sound ho r hZ e)
  | load t x => exact done (load_sound ho r e)
  | store t x y => exact done (store_sound ho r e)
  | nilCheck x => exact done (nilCheck_sound ho r e)
  | binOp op t x y t' => exact done (binOp_sound ho r e)
  | unOp op t x => exact done (unOp_sound ho r e)
  | convert s t x => exact done (convert_sound ho r e)
  | makeSlice t n c => exact done (makeSlice_sound ho r hZ e)
  | slice t x lo hi mx => exact done (slice_sound ho r e)
  | fieldAddr t x f => exact done (fieldAddr_sound ho r e)
  | field t x f => exact done (field_sound ho r e)
  | indexAddr t x i => exact done (indexAddr_sound ho r e)
  | index t x i => exact done (index_sound ho r e)
  | extract x i => exact done (extract_sound ho r e)
  | makeFunc fn x y => exact done (makeFunc_sound ho r e)
  | makeMap t m => cases m with
    | none => exact done (makeMap_sound ho r hZ e)
    | some m => unfold opP at e; simp only [ho] at e; cases e
  | insert t m k x =>
    refine done ?_
    unfold opP at e
    simp only [ho] at e
    obtain ⟨m', st1, h1, ea⟩ := run_some e
    obtain ⟨rfl, hm⟩ := opd_sound r h1
    obtain ⟨k', st2, h2, eb⟩ := run_some ea
    obtain ⟨rfl, hk⟩ := opd_sound r h2
    obtain ⟨x', st3, h3, ec⟩ := run_some eb
    obtain ⟨rfl, hx⟩ := opd_sound r h3
    obtain ⟨w', hrun, ra, sa, ta, rfl⟩ := mapPutP_sound r hm hk hx ec
    exact ⟨undef, B, w', .inr ⟨by unfold execOp; simp [ho, hrun], rfl⟩, ra, sa, ta, trivial⟩
  | mapUpdate t m k x =>
    refine done ?_
    unfold opP at e
    simp only [ho] at e
    obtain ⟨m', st1, h1, ea⟩ := run_some e
    obtain ⟨rfl, hm⟩ := opd_sound r h1
    obtain ⟨k', st2, h2, eb⟩ := run_some ea
    obtain ⟨rfl, hk⟩ := opd_sound r h2
    obtain ⟨x', st3, h3, ec⟩ := run_some eb
    obtain ⟨rfl, hx⟩ := opd_sound r h3
    obtain ⟨w', hrun, ra, sa, ta, rfl⟩ := mapPutP_sound r hm hk hx ec
    exact ⟨undef, B, w', .inr ⟨by unfold execOp; simp [ho, hrun], rfl⟩, ra, sa, ta, trivial⟩
  | lookup t m k ok =>
    refine done ?_
    unfold opP at e
    simp only [ho] at e
    obtain ⟨m', st1, h1, ea⟩ := run_some e
    obtain ⟨rfl, hm⟩ := opd_sound r h1
    obtain ⟨k', st2, h2, eb⟩ := run_some ea
    obtain ⟨rfl, hk⟩ := opd_sound r h2
    obtain ⟨val, hrun, rfl, hv⟩ := lookupP_sound r hm hk eb
    exact Did.pure r (by unfold execOp; simp [ho, hrun]) hv
  | call c =>
    cases hc : c.callee with
    | builtin b => exact done (builtin_sound ho hc r hZ e)
    | invoke x m => unfold opP at e; simp only [ho, hc] at e; cases e
    | value x =>
      cases x with
      | func f =>
        unfold opP at e
        simp only [ho, hc] at e
        obtain ⟨vs, st1, h1, h2⟩ := run_some e
        obtain ⟨rfl, hv⟩ := opdl_sound r h1
        have hkn := callF_known h2
        obtain ⟨as, S, hS⟩ := hkn
        obtain ⟨fn, cd, hf, hname, hb⟩ := (G.known f as S hS).code
        have hcall := callF_sound (fun f as S h => (G.known f as S h).sound) r hZ h2 (cvs := c.args.map a.eval) (by simpa using hv)
        have hx : (execOp a.eval o).run E.P w = .ok (.enter f (c.args.map a.eval)) w := by
          unfold execOp
          simp only [ho, resolve, hc, Sem.run_bind, Act.eval, Deferred.ofValue, Sem.run_pure, Result.andThen_ok, invoke]
          rw [show (#[] ++ c.args.map a.eval) ++ #[] = c.args.map a.eval from by simp]
          exact MuLone.run_callFunc_enter hf hname hb _ w
        unfold Oper.wp
        rw [hx, Oper.upon_enter]
        refine hcall.mono ?_
        rintro en w' ⟨val, B', rfl, hr, hs, ht, hv'⟩
        exact h val B' w' hr hs ht hv'
      | tmp t =>
        unfold opP at e
        simp only [ho, hc] at e
        obtain ⟨vs, st1, h1, ea⟩ := run_some e
        obtain ⟨rfl, hv⟩ := opdl_sound r h1
        obtain ⟨u, st2, h2, h3⟩ := run_some ea
        obtain ⟨rfl, hu⟩ := opd_sound r h2
        obtain ⟨f, fv, cv, huv, ⟨as, S, hS⟩, hcall⟩ := callV_sound (fun f as S h => (G.known f as S h).sound) r hZ h3 hu (cvs := c.args.map a.eval) (by simpa using hv)
        obtain ⟨fn, cd, hf, hname, hb⟩ := (G.known f as S hS).code
        have hx : (execOp a.eval o).run E.P w = .ok (.enter f (fv ++ c.args.map a.eval ++ cv)) w := by
          unfold execOp
          simp only [ho, resolve, hc, Sem.run_bind, huv, Deferred.ofValue, Sem.run_pure, Result.andThen_ok, invoke]
          exact MuLone.run_callFunc_enter hf hname hb _ w
        unfold Oper.wp
        rw [hx, Oper.upon_enter]
        refine hcall.mono ?_
        rintro en w' ⟨val, B', rfl, hr, hs, ht, hv'⟩
        exact h val B' w' hr hs ht hv'
      | _ => unfold opP at e; simp only [ho, hc] at e; cases e
  | _ => unfold opP at e; simp only [ho] at e; cases e
end
end Go.Pv
