/- copy and clear in place; functions' values; maps. -/
import Derived.Test.YtcdobfeeabhkeaaPvP
import Derived.Laws.CopyRow
import Derived.MapKept
set_option autoImplicit false
set_option linter.unusedVariables false
set_option linter.unusedSimpArgs false
namespace Go.Pv

section
variable {E : Env} {Z : Nat → Prop} {B : Nat → Option Nat} {st st' : St} {tm : Array Value} {w : World}

theorem Row.splice {α : Type} {R : α → List Value → Prop} {k : Nat} (hk : ∀ x cs, R x cs → cs.length = k) {l m : List α} {cs ds : List Value} {o : Nat} (h : Row R l cs) (hm : Row R m ds) (ho : o + m.length ≤ l.length) :
    ∃ c1 mid c2, cs = c1 ++ mid ++ c2 ∧ c1.length = o * k ∧ mid.length = m.length * k ∧ ds.length = m.length * k ∧ Row R (Pv.splice l o m) (c1 ++ ds ++ c2) := by
  obtain ⟨c1, d, c2, e, h1, h2, h3⟩ := h.take o m.length
  refine ⟨c1, d, c2, e, ?_, ?_, hm.len hk, ?_⟩
  · rw [h1.len hk, List.length_take, Nat.min_eq_left (by omega)]
  · rw [h2.len hk, List.length_take, List.length_drop, Nat.min_eq_left (by omega)]
  · unfold Pv.splice
    rw [List.drop_drop] at h3
    exact (h1.append hm).append h3

theorem splice_length {α : Type} (l : List α) (o : Nat) (m : List α) (h : o + m.length ≤ l.length) : (Pv.splice l o m).length = l.length := by
  unfold Pv.splice; simp; omega

def StoresTo (P : Program) (base : Option Addr) (ds : List Value) (w w' : World) : Prop := match base with
  | some a => (storeCells a ds).run P w = .ok () w'
  | none => w' = w

/-- a part of one's own list is written over -/
theorem splice_sound (r : Rel Z B st tm w) {h : Nat} {s : Option (Nat × Nat)} {u : Ty} {l m : List (El u)} (hc : st.cont h = .own u l) {v : Value} (hv : V1 w (Owned Z B st) B st (.lref h (st.gen h) s) v)
    {ds : List Value} (hm : Row (Cells w (Owned Z B st) u) m ds) (hl : m.length ≤ sLen l.length s) :
    ∃ base len c w', v = .slice base len c ∧ len = sLen l.length s ∧ StoresTo E.P base ds w w' ∧
      Rel Z B (st.seth h (st.gen h) (.own u (Pv.splice l (sOff s) m))) tm w' ∧ Stay w w' (Owned Z B st) (Owned Z B (st.seth h (st.gen h) (.own u (Pv.splice l (sOff s) m)))) B B st (st.seth h (st.gen h) (.own u (Pv.splice l (sOff s) m))) ∧ Tr (L B st) w w' := by
  obtain ⟨hb1, base, c, rfl, hlc, hcase⟩ := hv.2 rfl u l (by rw [hc]; rfl)
  refine ⟨base, sLen l.length s, c, ?_⟩
  have hbl := r.hr h
  rw [hc] at hbl
  have stay0 : m = [] → ds = [] → Rel Z B (st.seth h (st.gen h) (.own u (Pv.splice l (sOff s) m))) tm w ∧ Stay w w (Owned Z B st) (Owned Z B (st.seth h (st.gen h) (.own u (Pv.splice l (sOff s) m)))) B B st (st.seth h (st.gen h) (.own u (Pv.splice l (sOff s) m))) := fun hm0 _ => by
    subst hm0
    have e : Pv.splice l (sOff s) ([] : List (El u)) = l := by unfold Pv.splice; simp
    rw [e]
    have hgen : ∀ k, (st.seth h (st.gen h) (.own u l)).gen k = st.gen k := fun k => by rw [gen_seth]; split <;> simp_all
    have hcont : ∀ k, (st.seth h (st.gen h) (.own u l)).cont k = st.cont k := fun k => by
      rw [cont_seth]; split
      · rename_i e; subst e; rw [hc]
      · rfl
    have hO : Owned Z B (st.seth h (st.gen h) (.own u l)) = Owned Z B st := funext fun b => propext (by unfold Owned; simp only [hcont])
    have s0 : Stay w w (Owned Z B st) (Owned Z B (st.seth h (st.gen h) (.own u l))) B B st (st.seth h (st.gen h) (.own u l)) := by
      rw [hO]
      exact ⟨Nat.le_refl _, fun _ _ _ => rfl, fun _ _ h => h, fun k => by rw [hgen]; exact .refl _, fun k _ => ⟨rfl, fun t l' hl => ⟨l', by rw [← hcont]; exact hl, rfl⟩⟩, fun b arr e h => ⟨arr, h, rfl⟩⟩
    exact ⟨r.step s0 (fun k => .inl ⟨hcont k, rfl, fun _ _ => rfl⟩) (fun k k' x h1 h2 h3 h4 => r.inj k k' x (by rwa [hcont] at h1) (by rwa [hcont] at h2) h3 h4) (fun k x h1 h2 => r.ext k x (by rwa [hcont] at h1) h2) fun t => .inl ⟨rfl, rfl⟩, s0⟩
  have nothing : m = [] → ds = [] → ∃ w', Value.slice base (sLen l.length s) c = .slice base (sLen l.length s) c ∧ sLen l.length s = sLen l.length s ∧ StoresTo E.P base ds w w' ∧
      Rel Z B (st.seth h (st.gen h) (.own u (Pv.splice l (sOff s) m))) tm w' ∧ Stay w w' (Owned Z B st) (Owned Z B (st.seth h (st.gen h) (.own u (Pv.splice l (sOff s) m)))) B B st (st.seth h (st.gen h) (.own u (Pv.splice l (sOff s) m))) ∧ Tr (L B st) w w' := fun h1 h2 => by
    obtain ⟨ra, sa⟩ := stay0 h1 h2
    subst h2
    refine ⟨w, rfl, rfl, ?_, ra, sa, Tr.refl _ _⟩
    cases base with
    | none => rfl
    | some a => simp [StoresTo, storeCells]
  rcases hcase with ⟨h0, _⟩ | ⟨b, arr, e, hB, rfl, hh, hsz⟩
  · have hm0 : m = [] := List.eq_nil_of_length_eq_zero (by omega)
    subst hm0
    cases hm
    exact nothing rfl rfl
  · by_cases hm0 : m = []
    · subst hm0; cases hm; exact nothing rfl rfl
    · have hmpos : 1 ≤ m.length := by
        cases m with
        | nil => exact absurd rfl hm0
        | cons _ _ => simp
      rcases hbl with ⟨hn, rfl⟩ | ⟨b', arr', e', cs, rest, hB', hh', hcs, hrow⟩
      · simp [List.length_nil] at hb1 hl; omega
      · rw [hB] at hB'; cases hB'
        rw [hh] at hh'; cases hh'
        obtain ⟨c1, mid, c2, rfl, l1, l2, l3, hrow'⟩ := hrow.splice (fun _ _ h => h.len) hm (o := sOff s) (by omega)
        have hone : ∀ v ∈ ds, v.oneCell' = true := hm.all fun _ _ h => h.one
        have hasz : arr.size = c1.length + (mid.length + (c2.length + rest.length)) := by
          have : arr.toList.length = arr.size := rfl
          rw [← this, hcs]; simp [Nat.add_assoc]
        have hst := run_storeCells_at E.P b (sOff s * u.size) e ds 0 arr w hh (by omega) hone
        have hval : (arr.toList.take (sOff s * u.size + 0) ++ ds ++ arr.toList.drop (sOff s * u.size + 0 + ds.length)) = (c1 ++ ds ++ c2) ++ rest := by
          rw [hcs, Nat.add_zero]
          have e1 : sOff s * u.size + ds.length = (c1 ++ mid).length := by simp; omega
          rw [e1, show c1 ++ mid ++ c2 ++ rest = (c1 ++ mid) ++ (c2 ++ rest) by simp, List.drop_left' rfl, show (c1 ++ mid) ++ (c2 ++ rest) = c1 ++ (mid ++ (c2 ++ rest)) by simp, List.take_left' l1]
          simp
        rw [hval] at hst
        have tr := Tr.setRow (arr' := ((c1 ++ ds ++ c2) ++ rest).toArray) hh (by simp; omega)
        have hlv : live (st.cont h) = true := by rw [hc]; rfl
        obtain ⟨ra, sa⟩ := r.write (c := .own u (Pv.splice l (sOff s) m)) hB hlv tr rfl (fun t l' hl' => by
          simp only [asList, Option.some.injEq, Sigma.mk.injEq] at hl'
          obtain ⟨rfl, hl'⟩ := hl'
          cases hl'
          exact ⟨l, by rw [hc]; rfl, splice_length _ _ _ (by omega)⟩) fun sa => .inr ⟨b, _, e, c1 ++ ds ++ c2, rest, rfl, setRow_heap w b arr _ e (0, 0) hh, by simp, hrow'.mono fun _ _ h => h.mono sa.size sa.same sa.sub⟩
        exact ⟨_, rfl, rfl, hst, ra, sa, tr.imp fun x hx => ⟨h, hlv, by rw [hB, hx]⟩⟩

theorem copyP_sound (r : Rel Z B st tm w) {ts : List TypeId} {ty : TypeId} {d x v : AV} {vd vx : Value} (hd : VR w (Owned Z B st) B st d vd) (hx : VR w (Owned Z B st) B st x vx) (e : run (copyP E ts d x) st = some (v, st')) :
    ∃ val w', (Builtin.copy_ ts.toArray ty #[vd, vx]).run E.P w = .ok val w' ∧ Rel Z B st' tm w' ∧ Stay w w' (Owned Z B st) (Owned Z B st') B B st st' ∧ Tr (L B st) w w' ∧ VR w' (Owned Z B st') B st' v val := by
  unfold copyP at e
  split at e
  · rename_i t tx
    split at e
    · rename_i el hu
      obtain ⟨u, st1, e1, ea⟩ := run_some e
      obtain ⟨hty, rfl⟩ := run_lift e1
      split at ea
      · rename_i h g s
        obtain ⟨l2, st2, e2, eb⟩ := run_some ea
        obtain ⟨rfl, a, c, rfl, hc, hr⟩ := listAt_sound r hx e2
        obtain ⟨_, st3, e3, ec⟩ := run_some eb
        have hfr : Rel Z B st3 tm w ∧ Stay w w (Owned Z B st2) (Owned Z B st3) B B st2 st3 ∧ ∀ k, live (st3.cont k) = true → live (st2.cont k) = true := by
          cases hf : u.flat with
          | true => rw [hf] at e3; obtain ⟨_, rfl⟩ := run_ret e3; exact ⟨r, Stay.refl, fun _ h => h⟩
          | false =>
            rw [hf] at e3
            obtain ⟨rf, sf, _⟩ := freeze_sound r e3
            exact ⟨rf, sf, (freeze_live e3).1⟩
        obtain ⟨rf, sf, lf⟩ := hfr
        obtain ⟨c0, st4, e4, ed⟩ := run_some ec
        obtain ⟨rfl, hcc, rfl⟩ := run_home e4
        rw [hcc] at ed
        split at ed
        · rename_i t' l hown
          obtain ⟨l', st5, e5, ee⟩ := run_some ed
          obtain ⟨hcast, rfl⟩ := run_lift e5
          obtain ⟨q1, q2⟩ := castEl_some hcast
          cases q1
          have q2 : l = l' := q2
          subst q2
          simp only [run, Option.some.injEq, Prod.mk.injEq] at ee
          obtain ⟨rfl, rfl⟩ := ee
          have hn : Nat.min l2.length (sLen (List.length l) s) ≤ l2.length := Nat.min_le_left _ _
          have hsrc : ∃ ds, (Builtin.firstCells u.size (Nat.min l2.length (sLen (List.length l) s)) (.slice a l2.length c)).run E.P w = .ok ds.toArray w ∧ Row (Cells w (Owned Z B st5) u) (l2.take (Nat.min l2.length (sLen (List.length l) s))) ds := by
            rcases hr with rfl | ⟨b, off, ds, rfl, hb, hlies, hrow⟩
            · refine ⟨[], ?_, by simp; rfl⟩
              cases a with
              | none => exact run_firstCells_none w _ _ _ _
              | some a => exact run_firstCells_some w _ _ a _ _ [] (by simp) fun j v h => by cases h
            · obtain ⟨c1, d1, c2, rfl, h1, h2, h3⟩ := hrow.take 0 (Nat.min l2.length (sLen (List.length l) s))
              simp only [List.take_zero] at h1
              cases h1
              rw [List.drop_zero] at h2
              refine ⟨d1, run_firstCells_some w _ _ _ _ _ d1 ?_ fun j v h => ?_, h2.mono fun _ _ h => h.mono sf.size sf.same sf.sub⟩
              · rw [h2.len fun _ _ h => h.len, List.length_take, Nat.min_eq_left hn]
              · rw [Addr.add_lit]
                exact hlies j v (by
                  have hj : j < d1.length := (List.getElem?_eq_some_iff.1 h).1
                  rw [List.nil_append, List.getElem?_append_left hj]; exact h)
          obtain ⟨ds, hf, hrow⟩ := hsrc
          obtain ⟨base, len, cp, w', rfl, rfl, hst, ra, sa, ta⟩ := splice_sound rf hown (hd.mono sf) hrow (by rw [List.length_take, Nat.min_eq_left hn]; exact Nat.min_le_right _ _)
          refine ⟨goInt (Nat.min l2.length (sLen (List.length l) s)), w', ?_, ra, sf.trans sa, ta.imp fun x ⟨k, h1, h2⟩ => ⟨k, lf k h1, h2⟩, VR.ofInt _ _⟩
          cases base with
          | none =>
            have hst : w' = w := hst
            subst hst
            simp [Builtin.copy_, run_underlying hu, Builtin.lenOf, run_sizeOf hty, hf]
          | some p =>
            have hst : (storeCells p ds).run E.P w = .ok () w' := hst
            simp [Builtin.copy_, run_underlying hu, Builtin.lenOf, run_sizeOf hty, hf, hst]
        · cases ed
      · cases ea
    · cases e
  · cases e

theorem clearP_sound (r : Rel Z B st tm w) {ts : List TypeId} {ty : TypeId} {d v : AV} {vd : Value} (hd : VR w (Owned Z B st) B st d vd) (e : run (clearP E ts d) st = some (v, st')) :
    ∃ val w', (Builtin.clear_ ts.toArray ty #[vd]).run E.P w = .ok val w' ∧ Rel Z B st' tm w' ∧ Stay w w' (Owned Z B st) (Owned Z B st') B B st st' ∧ Tr (L B st) w w' ∧ VR w' (Owned Z B st') B st' v val := by
  unfold clearP at e
  split at e
  · rename_i t
    split at e
    · rename_i el hu
      obtain ⟨u, st1, e1, ea⟩ := run_some e
      obtain ⟨hty, rfl⟩ := run_lift e1
      obtain ⟨_, st2, e2, eb⟩ := run_some ea
      obtain ⟨hz, rfl⟩ := run_guard e2
      obtain ⟨i, z, hi, hzr, hcs, hnf⟩ := zeroOk_some hz
      split at eb
      · rename_i h g s
        obtain ⟨c0, st4, e4, ed⟩ := run_some eb
        obtain ⟨rfl, hcc, rfl⟩ := run_home e4
        rw [hcc] at ed
        split at ed
        · rename_i t' l hown
          obtain ⟨l', st5, e5, ee⟩ := run_some ed
          obtain ⟨hcast, rfl⟩ := run_lift e5
          obtain ⟨q1, q2⟩ := castEl_some hcast
          cases q1
          have q2 : l = l' := q2
          subst q2
          simp only [run, Option.some.injEq, Prod.mk.injEq] at ee
          obtain ⟨rfl, rfl⟩ := ee
          have hrow : Row (Cells w (Owned Z B st5) u) (List.replicate (sLen (List.length l) s) (zeroEl u)) (List.replicate (sLen (List.length l) s) (zeroCs u)).flatten := Row.replicate (zero_cells hnf) _
          obtain ⟨base, len, cp, w', rfl, rfl, hst, ra, sa, ta⟩ := splice_sound (E := E) r hown hd hrow (by simp)
          refine ⟨.tuple #[], w', ?_, ra, sa, ta, ⟨#[], rfl, trivial⟩⟩
          have hrep : (Builtin.zeroCells z.cells (sLen (List.length l) s)).toList = (List.replicate (sLen (List.length l) s) (zeroCs u)).flatten := by
            unfold Builtin.zeroCells
            rw [made_cells, hcs]
          cases base with
          | none =>
            have hst : w' = w := hst
            subst hst
            simp [Builtin.clear_, run_underlying hu]
          | some p =>
            have hst : (storeCells p _).run E.P w = .ok () w' := hst
            cases hn : sLen (List.length l) s with
            | zero =>
              rw [hn] at hst
              simp [storeCells] at hst
              simp [Builtin.clear_, run_underlying hu, hst]
            | succ n =>
              rw [← hn]
              rw [← hrep] at hst
              have hzv : (zeroValue el).run E.P w = .ok z w := by simp [zeroValue, typeInfo, hi, hzr]
              simp [Builtin.clear_, run_underlying hu, hn]
              rw [← hn]
              simp [hzv, hst]
        · cases ed
      · cases eb
    · cases e
  · cases e

/-! ### functions' values -/
theorem makeFunc_sound {a : Act} {o : Oper} {fn : Fn} {first captured : Array Operand} (ho : o.op = .makeFunc fn first captured) (r : Rel Z B st a.tmps w) {v : AV} (e : run (opP E o) st = some (v, st')) : Did E Z B st a w o v st' := by
  unfold opP at e
  simp only [ho] at e
  unfold makeFuncP at e
  have hx : (execOp a.eval o).run E.P w = .ok (.value (.func fn (first.map a.eval) (captured.map a.eval))) w := by
    unfold execOp
    simp [ho, Instr.makeFunc]
  have e1 : ∀ {l : List Operand}, first.toList = l → first.map a.eval = (l.map a.eval).toArray := fun h => by subst h; apply Array.ext'; simp
  have e2 : ∀ {l : List Operand}, captured.toList = l → captured.map a.eval = (l.map a.eval).toArray := fun h => by subst h; apply Array.ext'; simp
  split at e
  · rename_i f h1 h2
    obtain ⟨rfl, rfl⟩ := run_ret e
    rw [e1 h1, e2 h2] at hx
    exact .pure r hx ⟨[_], ⟨#[], #[], rfl, fun _ => rfl, (fun h => by cases h), fun _ => rfl, (fun h => by cases h)⟩, rfl⟩
  · rename_i f x h1 h2
    obtain ⟨u, st1, h3, ea⟩ := run_some e
    obtain ⟨rfl, hv⟩ := opd_sound r h3
    obtain ⟨ty, st2, h4, eb⟩ := run_some ea
    obtain ⟨_, rfl⟩ := run_lift h4
    obtain ⟨_, st3, h5, ec⟩ := run_some eb
    obtain ⟨hu, rfl⟩ := run_guard h5
    obtain ⟨y, st4, h6, ed⟩ := run_some ec
    obtain ⟨rfl, rfl⟩ := run_pure ed
    obtain ⟨ra, sa, ka⟩ := toEl_sound r h6
    obtain ⟨cs, c1, c2⟩ := ka _ hv
    rw [e1 h1, e2 h2] at hx
    have hu' : isU ty = false := by simpa using hu
    exact ⟨_, B, w, .inl hx, ra, sa, Tr.refl _ _, ⟨[_], ⟨_, _, rfl, (fun h => by rw [hu'] at h; cases h), (fun _ => ⟨cs, c1, by simp [c2]⟩), (fun _ => rfl), (fun h => by cases h)⟩, rfl⟩⟩
  · rename_i f x h1 h2
    obtain ⟨u, st1, h3, ea⟩ := run_some e
    obtain ⟨rfl, hv⟩ := opd_sound r h3
    rw [e1 h1, e2 h2] at hx
    split at ea
    · rename_i h g
      obtain ⟨c, st2, h4, eb⟩ := run_some ea
      obtain ⟨rfl, hcc, rfl⟩ := run_home h4
      obtain ⟨rfl, rfl⟩ := run_pure eb
      obtain ⟨b, hb, hp⟩ := hv.2 rfl
      exact .pure r hx ⟨Nat.le_refl _, fun _ => ⟨b, hb, by simp [hp, poff]⟩⟩
    · rename_i t y
      obtain ⟨_, st3, h5, ec⟩ := run_some ea
      obtain ⟨hu, rfl⟩ := run_guard h5
      obtain ⟨rfl, rfl⟩ := run_pure ec
      obtain ⟨b, off, cs, hp, g1, g2, g3, g4⟩ := hv
      have hu' : isU t = false := by simpa using hu
      exact .pure r hx ⟨[_], ⟨_, _, rfl, (fun _ => rfl), (fun h => by cases h), (fun h => by rw [hu'] at h; cases h), fun _ => ⟨b, off, cs, by simp [hp], g1, g2, g3, g4⟩⟩, rfl⟩
    · cases ea
  · cases e

/-! ### maps -/
theorem isI64_some {P : Program} {t : TypeId} (h : isI64 P t = true) : P.underlying t = some (.int .i64) := by
  unfold isI64 at h
  split at h
  · assumption
  · cases h

theorem mapTy_some {P : Program} {t : TypeId} {u : TypeId × Ty} (h : mapTy P t = some u) : ∃ k, P.underlying t = some (.map k u.1) ∧ P.underlying k = some (.int .i64) ∧ tyOf P u.1 = some u.2 := by
  unfold mapTy at h
  split at h
  · rename_i k e hu
    split at h
    · rename_i hk
      obtain ⟨v, h1, rfl⟩ := Option.map_eq_some_iff.1 h
      exact ⟨k, hu, isI64_some hk, h1⟩
    · cases h
  · cases h

theorem makeMap_sound {a : Act} {o : Oper} {t : TypeId} (ho : o.op = .makeMap t none) (r : Rel Z B st a.tmps w) (hz : ∀ b, Z b → b < w.heap.size) {v : AV} (e : run (opP E o) st = some (v, st')) : Did E Z B st a w o v st' := by
  unfold opP at e
  simp only [ho] at e
  split at e
  · rename_i d hd
    unfold makeMapP at e
    obtain ⟨u, st1, h1, ea⟩ := run_some e
    obtain ⟨ht, rfl⟩ := run_lift h1
    simp only [run, Option.some.injEq, Prod.mk.injEq] at ea
    obtain ⟨rfl, rfl⟩ := ea
    have hp : (w.alloc (.map #[] 0)).heap = w.heap.push (.map #[] 0) := rfl
    obtain ⟨ra, sa⟩ := r.fresh (Tr.push hp) [w.heap.size] (by simp)
    obtain ⟨B', rb, sb, vb⟩ := ra.attachMap (t := u.2) (l := []) (by simp) (fun x hx => by simp at hx; subst hx; exact fun h => Nat.lt_irrefl _ (hz _ h)) ⟨#[], 0, get_push hp, rfl⟩ (sh d) (st1.gen (sh d) + 2) (Nat.le_refl _)
    have hO : (Owned (ZX Z []) B' (st1.seth (sh d) (st1.gen (sh d) + 2) (.mp u.2 []))) = (Owned Z B' (st1.seth (sh d) (st1.gen (sh d) + 2) (.mp u.2 []))) := Owned.nil
    rw [hO] at sb vb
    exact ⟨_, B', _, .inl (by
      unfold execOp
      simp [ho, Instr.makeMap]), rb.congr (ZX_nil Z), sa.trans sb, (Tr.push hp).imp fun _ h => h.elim, vb⟩
  · cases e

theorem modify_set {α : Type} (f : α → α) : ∀ {l : List α} {j : Nat} {e : α}, l[j]? = some e → l.modify j f = l.set j (f e)
  | [], _, _, h => by cases h
  | a :: l, 0, e, h => by cases h; rfl
  | a :: l, j + 1, e, h => by simp [modify_set f (l := l) (j := j) (e := e) (by simpa using h)]

theorem ME.find {O : Nat → Prop} {t : Ty} : ∀ {l : List (Int × El t)} {es : List MapEntry}, ME w O t l es → ∀ (k : Int) (i : Nat),
    (lookM k l = none ∧ Instr.findNow (.int .i64) (.int .i64 k) es i = some none ∧ ∀ y cs e', Cells w O t y cs → e'.key = .int .i64 k → e'.val = toV t cs → ME w O t (setM k y l) (es ++ [e'])) ∨
    (∃ j e x, lookM k l = some x ∧ Instr.findNow (.int .i64) (.int .i64 k) es i = some (some (i + j, e.val)) ∧ es[j]? = some e ∧ e.key = .int .i64 k ∧ (∃ cs, Cells w O t x cs ∧ e.val = toV t cs) ∧
      ∀ y cs e', Cells w O t y cs → e'.key = .int .i64 k → e'.val = toV t cs → ME w O t (setM k y l) (es.set j e'))
  | [], es, h, k, i => by
    cases h
    exact .inl ⟨rfl, rfl, fun y cs e' h1 h2 h3 => ⟨e', [], rfl, h2, ⟨cs, h1, h3⟩, rfl⟩⟩
  | p :: l, es, h, k, i => by
    obtain ⟨e, r, rfl, hk, hv, hr⟩ := h
    by_cases hp : p.1 = k
    · subst hp
      refine .inr ⟨0, e, p.2, by simp [lookM], by simp [Instr.findNow, Instr.sameNow, hk], rfl, hk, hv, fun y cs e' h1 h2 h3 => ?_⟩
      simp only [setM, if_true, List.set_cons_zero]
      exact ⟨e', r, rfl, h2, ⟨cs, h1, h3⟩, hr⟩
    · have hne : (k == p.1) = false := by simpa using fun h => hp h.symm
      rcases ME.find hr k (i + 1) with ⟨h1, h2, h3⟩ | ⟨j, e0, x, h1, h2, h3, h4, h5, h6⟩
      · refine .inl ⟨by simp [lookM, hp, h1], by simp [Instr.findNow, Instr.sameNow, hk, hne, h2], fun y cs e' g1 g2 g3 => ?_⟩
        simp only [setM, hp, if_false]
        exact ⟨e, r ++ [e'], rfl, hk, hv, h3 y cs e' g1 g2 g3⟩
      · refine .inr ⟨j + 1, e0, x, by simp [lookM, hp, h1], by simp [Instr.findNow, Instr.sameNow, hk, hne, h2]; omega, by simpa using h3, h4, h5, fun y cs e' g1 g2 g3 => ?_⟩
        simp only [setM, hp, if_false, List.set_cons_succ]
        exact ⟨e, r.set j e', rfl, hk, hv, h6 y cs e' g1 g2 g3⟩

theorem Tr.putMap {b : Nat} {es : Array MapEntry} {c : Nat} (h : w.heap[b]? = some (.map es c)) (o : Obj) : Tr (fun x => x = b) w { w with heap := w.heap.setIfInBounds b o } := by
  refine ⟨by simp, fun x hx hn => by simp [Ne.symm hn], ⟨rfl, rfl, rfl⟩, fun x arr e hx hb => ?_⟩
  subst hb; rw [h] at hx; cases hx

theorem mapPutP_sound (r : Rel Z B st tm w) {t : TypeId} {m k x v : AV} {mv kv xv : Value} (hm : VR w (Owned Z B st) B st m mv) (hk : VR w (Owned Z B st) B st k kv) (hx : VR w (Owned Z B st) B st x xv) (e : run (mapPutP E t m k x) st = some (v, st')) :
    ∃ w', (Instr.mapUpdate t mv kv xv).run E.P w = .ok () w' ∧ Rel Z B st' tm w' ∧ Stay w w' (Owned Z B st) (Owned Z B st') B B st st' ∧ Tr (L B st) w w' ∧ v = .undef := by
  unfold mapPutP at e
  obtain ⟨u, st1, h1, ea⟩ := run_some e
  obtain ⟨ht, rfl⟩ := run_lift h1
  obtain ⟨⟨kk, n⟩, st2, h2, eb⟩ := run_some ea
  obtain ⟨rfl, rfl⟩ := asI_some h2
  obtain ⟨_, st3, h3, ec⟩ := run_some eb
  obtain ⟨hkk, rfl⟩ := run_guard h3
  have hkk := of_decide_eq_true hkk
  have hkk : kk = .i64 := hkk
  subst hkk
  obtain ⟨y, st4, h4, ed⟩ := run_some ec
  obtain ⟨ra, sa, ka⟩ := toEl_sound r h4
  obtain ⟨cs, c1, rfl⟩ := ka _ hx
  split at ed
  · rename_i h g
    obtain ⟨c0, st5, h5, ee⟩ := run_some ed
    obtain ⟨rfl, hcc, rfl⟩ := run_home h5
    rw [hcc] at ee
    split at ee
    · rename_i t' l hmp
      obtain ⟨l', st6, h6, ef⟩ := run_some ee
      obtain ⟨hcast, rfl⟩ := run_lift h6
      obtain ⟨q1, q2⟩ := castEl_some hcast
      cases q1
      have q2 : l = l' := q2
      subst q2
      simp only [run, Option.some.injEq, Prod.mk.injEq] at ef
      obtain ⟨rfl, rfl⟩ := ef
      have hr := ra.hr h
      rw [hmp] at hr
      obtain ⟨b, hb, es, clock, hh, hme⟩ := hr
      obtain ⟨b', hb', rfl⟩ := (hm.mono sa).2 rfl
      rw [hb] at hb'; cases hb'
      obtain ⟨kt, hu, hku, hty⟩ := mapTy_some ht
      have ekv := hk.int
      subst ekv
      have hlv : live (st6.cont h) = true := by rw [hmp]; rfl
      have fin : ∀ (es' : Array MapEntry) (clock' : Nat), ME w (Owned Z B st6) u.2 (setM n y l) es'.toList → (Instr.mapUpdate t (.map (some b)) (.int .i64 n) (toV u.2 cs)).run E.P w = .ok () { w with heap := w.heap.setIfInBounds b (.map es' clock') } →
          ∃ w', (Instr.mapUpdate t (.map (some b)) (.int .i64 n) (toV u.2 cs)).run E.P w = .ok () w' ∧ Rel Z B (st6.seth h (st6.gen h) (.mp u.2 (setM n y l))) tm w' ∧ Stay w w' (Owned Z B st3) (Owned Z B (st6.seth h (st6.gen h) (.mp u.2 (setM n y l)))) B B st3 (st6.seth h (st6.gen h) (.mp u.2 (setM n y l))) ∧ Tr (L B st3) w w' ∧ AV.undef = .undef := fun es' clock' hme' hrun => by
        have tr := Tr.putMap hh (.map es' clock')
        obtain ⟨rb, sb⟩ := ra.write (c := .mp u.2 (setM n y l)) hb hlv tr rfl (fun t l' hl' => by cases hl') fun sb => ⟨b, rfl, es', clock', (MapKept.heap_set hh).1, hme'.mono fun _ _ h => h.mono sb.size sb.same sb.sub⟩
        exact ⟨_, hrun, rb, sa.trans sb, tr.imp fun q hq => by
          subst hq
          exact (sa.sub _ (lt_of_get hh) (.inr ⟨h, hlv, hb⟩)).resolve_left (ra.ext h _ hlv hb), rfl⟩
      have hck : (Instr.checkKey false 10000 kt (.int .i64 n)).run E.P w = .ok () w := MapKept.run_checkKey hku (by trivial) _ _
      rcases hme.find n 0 with ⟨f1, f2, f3⟩ | ⟨j, e0, x0, f1, f2, f3, f4, f5, f6⟩
      · refine fin (es.push { key := .int .i64 n, val := toV u.2 cs, born := clock }) (clock + 1) (by rw [Array.toList_push]; exact f3 y cs _ c1 rfl rfl) ?_
        have hf := MapKept.run_findKey (w := w) hku f2
        simp [Instr.mapUpdate, run_underlying hu, MapKept.run_getObj_map hh, hck, hf, MapKept.run_setObj_map _ hh]
      · refine fin (es.modify j fun e => { e with key := .int .i64 n, val := toV u.2 cs }) clock (by rw [Array.toList_modify, modify_set _ f3]; exact f6 y cs _ c1 rfl rfl) ?_
        have hf := MapKept.run_findKey (w := w) hku f2
        have f3' : es[j]? = some e0 := by simpa using f3
        simp [Instr.mapUpdate, run_underlying hu, MapKept.run_getObj_map hh, hck, hf, MapKept.run_setObj_map _ hh, f3', f4, Instr.keyThatStays, Instr.sameBits]
    · cases ee
  · cases ed

theorem zero_toV {P : Program} {t : TypeId} {u : Ty} {i : TypeInfo} {z : Value} (hi : P.info? t = some i) (hz : i.zero = some z) (hc : z.cells.toList = zeroCs u) (ha : zeroAgg P t u = true) : z = toV u (zeroCs u) := by
  unfold zeroAgg at ha
  rw [hi, Option.bind_some, hz] at ha
  cases z with
  | agg cs =>
    have ha : u.isAgg = true := ha
    have hc : cs.toList = zeroCs u := hc
    unfold toV; rw [ha, ← hc]; rfl
  | _ =>
    have ha : u.isAgg = false := by simpa using ha
    unfold toV; rw [ha, ← hc]; rfl

theorem lookupP_sound (r : Rel Z B st tm w) {t : TypeId} {m k v : AV} {ok : Bool} {mv kv : Value} (hm : VR w (Owned Z B st) B st m mv) (hk : VR w (Owned Z B st) B st k kv) (e : run (lookupP E t m k ok) st = some (v, st')) :
    ∃ val, (Instr.lookup t mv kv ok).run E.P w = .ok val w ∧ st' = st ∧ VR w (Owned Z B st) B st v val := by
  unfold lookupP at e
  obtain ⟨u, st1, h1, ea⟩ := run_some e
  obtain ⟨ht, rfl⟩ := run_lift h1
  obtain ⟨_, st0, h0, ea'⟩ := run_some ea
  obtain ⟨hz, rfl⟩ := run_guard h0
  rw [Bool.and_eq_true] at hz
  obtain ⟨i, z, hi, hzr, hcs, hnf⟩ := zeroOk_some hz.1
  obtain ⟨⟨kk, n⟩, st2, h2, eb⟩ := run_some ea'
  obtain ⟨rfl, rfl⟩ := asI_some h2
  obtain ⟨_, st3, h3, ec⟩ := run_some eb
  obtain ⟨hkk, rfl⟩ := run_guard h3
  have hkk := of_decide_eq_true hkk
  have hkk : kk = .i64 := hkk
  subst hkk
  split at ec
  · rename_i h g
    obtain ⟨c0, st5, h5, ee⟩ := run_some ec
    obtain ⟨rfl, hcc, rfl⟩ := run_home h5
    rw [hcc] at ee
    split at ee
    · rename_i t' l hmp
      obtain ⟨l', st6, h6, ef⟩ := run_some ee
      obtain ⟨hcast, rfl⟩ := run_lift h6
      obtain ⟨q1, q2⟩ := castEl_some hcast
      cases q1
      have q2 : l = l' := q2
      subst q2
      have hr := r.hr h
      rw [hmp] at hr
      obtain ⟨b, hb, es, clock, hh, hme⟩ := hr
      obtain ⟨b', hb', rfl⟩ := hm.2 rfl
      rw [hb] at hb'; cases hb'
      obtain ⟨kt, hu, hku, hty⟩ := mapTy_some ht
      have ekv := hk.int
      subst ekv
      have hck : (Instr.checkKey es.isEmpty 10000 kt (.int .i64 n)).run E.P w = .ok () w := MapKept.run_checkKey hku (by trivial) _ _
      have hzv : (zeroValue u.1).run E.P w = .ok z w := by simp [zeroValue, typeInfo, hi, hzr]
      have hzz := zero_toV hi hzr hcs hz.2
      have hval : ∃ val, (Instr.lookup t (.map (some b)) (.int .i64 n) ok).run E.P w = .ok (if ok then .tuple #[val, .bool (lookM n l).isSome] else val) w ∧ VR w (Owned Z B st6) B st6 (.val u.2 ((lookM n l).getD (zeroEl u.2))) val := by
        rcases hme.find n 0 with ⟨f1, f2, f3⟩ | ⟨j, e0, x0, f1, f2, f3, f4, f5, f6⟩
        · have hf := MapKept.run_findKey (w := w) hku f2
          refine ⟨z, ?_, ?_⟩
          · simp [Instr.lookup, run_underlying hu, MapKept.run_getObj_map hh, hck, hf, hzv, f1]
          · rw [f1, hzz]
            exact ⟨_, zero_cells hnf, rfl⟩
        · have hf := MapKept.run_findKey (w := w) hku f2
          refine ⟨e0.val, ?_, ?_⟩
          · simp [Instr.lookup, run_underlying hu, MapKept.run_getObj_map hh, hck, hf, f1]
          · rw [f1]
            exact f5
      obtain ⟨val, hrun, hvr⟩ := hval
      cases ok with
      | true =>
        obtain ⟨rfl, rfl⟩ := run_pure ef
        exact ⟨_, hrun, rfl, ⟨#[val, .bool _], rfl, hvr, ⟨[_], rfl, rfl⟩, trivial⟩⟩
      | false =>
        obtain ⟨rfl, rfl⟩ := run_pure ef
        exact ⟨_, hrun, rfl, hvr⟩
    · cases ee
  · cases ec
end
end Go.Pv
