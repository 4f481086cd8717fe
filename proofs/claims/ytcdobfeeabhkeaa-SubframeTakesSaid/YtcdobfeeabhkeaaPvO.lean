/- The operations that write, and append. -/
import Derived.Test.YtcdobfeeabhkeaaPvN
set_option autoImplicit false
set_option linter.unusedVariables false
set_option linter.unusedSimpArgs false
namespace Go.Pv

section
variable {E : Env} {Z : Nat → Prop} {B : Nat → Option Nat} {st st' : St} {w : World}

theorem makeSlice_sound {a : Act} {o : Oper} {t : TypeId} {n c : Operand} (ho : o.op = .makeSlice t n c) (r : Rel Z B st a.tmps w) (hZ : ∀ b, Z b → b < w.heap.size) {v : AV} (e : run (opP E o) st = some (v, st')) : Did E Z B st a w o v st' := by
  unfold opP at e
  simp only [ho] at e
  split at e
  · rename_i d hd
    obtain ⟨_, st1, h1, ea⟩ := run_some e
    obtain ⟨hsame, rfl⟩ := run_guard h1
    obtain ⟨u1, st2, h2, eb⟩ := run_some ea
    obtain ⟨rfl, v1⟩ := opd_sound r h2
    unfold makeSliceP at eb
    obtain ⟨⟨k, m⟩, st3, h3, ec⟩ := run_some eb
    obtain ⟨rfl, rfl⟩ := asI_some h3
    obtain ⟨_, st4, h4, ed⟩ := run_some ec
    obtain ⟨hk, rfl⟩ := run_guard h4
    have hk : k = .i64 := of_decide_eq_true hk
    have e1 : a.eval n = .int k m := v1.int
    have hc : ∃ k', a.eval c = .int k' m := by
      unfold sameOpd at hsame
      split at hsame
      · have := Nat.eq_of_beq_eq_true hsame
        subst this; exact ⟨k, e1⟩
      · rename_i k1 p k2 q
        have := of_decide_eq_true hsame
        subst this
        simp only [Act.eval, Value.int.injEq] at e1
        exact ⟨k2, by simp [Act.eval, e1.2]⟩
      · cases hsame
    obtain ⟨k', e2⟩ := hc
    split at ed
    · rename_i ety hu
      obtain ⟨u, st5, h5, ee⟩ := run_some ed
      obtain ⟨hs, rfl⟩ := run_lift h5
      obtain ⟨_, st6, h6, ef⟩ := run_some ee
      obtain ⟨hg, rfl⟩ := run_guard h6
      simp only [Bool.and_eq_true] at hg
      obtain ⟨hu0, hz⟩ := hg
      have hu0 : u.size ≠ 0 := fun h => by rw [h] at hu0; cases hu0
      obtain ⟨ie, z, hie, hzr, hcs, hnf⟩ := zeroOk_some hz
      obtain ⟨_, ie', hie', hsz⟩ := tyOf_some hs
      rw [hie] at hie'; cases hie'
      obtain ⟨i, st7, h7, eg⟩ := run_some ef
      obtain ⟨hi, rfl⟩ := run_lift h7
      rw [hie] at hi; cases hi
      obtain ⟨_, st8, h8, eh⟩ := run_some eg
      obtain ⟨hb0, rfl⟩ := run_guard h8
      rw [Nat.blt_eq] at hb0
      obtain ⟨l, st9, h9, ei⟩ := run_some eh
      obtain ⟨hl, rfl⟩ := run_ask h9
      unfold mk at hl
      split at hl
      · rename_i hm
        have hl := Option.some.inj hl
        obtain ⟨m0, m1⟩ := hm
        have m63 : m ≤ 9223372036854775807 := by
          have : (1 : Int) * m ≤ (ie.bytes : Int) * m := Int.mul_le_mul_of_nonneg_right (by omega) m0
          omega
        have hrun := run_make (P := E.P) w t ety ie z hu hie hzr k k' m m m0 (Int.le_refl _) m1 m63
        have hzs : z.cells.size = u.size := by
          have : z.cells.toList.length = z.cells.size := rfl
          rw [← this, hcs]; exact (zero_cells (w := w) (O := fun _ => False) hnf).len
        have hcl : (madeCells z.cells (m.toNat * ie.size)).toList = (List.replicate m.toNat (zeroCs u)).flatten := by
          have := made_cells z.cells m.toNat
          rw [hcs, hzs] at this
          rw [hsz, madeCells, hzs]; exact this
        have hp : (w.alloc (.cells (madeCells z.cells (m.toNat * ie.size)) ety)).heap = w.heap.push (.cells (madeCells z.cells (m.toNat * ie.size)) ety) := rfl
        obtain ⟨rb, sb⟩ := r.fresh (Tr.push hp) [w.heap.size] (by simp)
        have hll : l.length = m.toNat := by rw [← hl]; simp
        have hov : OV1 (w.alloc (.cells (madeCells z.cells (m.toNat * ie.size)) ety)) (Owned (ZX Z [w.heap.size]) B st9) (.own u l) [.slice (some ⟨w.heap.size, 0, none⟩) m.toNat m.toNat] [w.heap.size] := by
          refine ⟨_, some w.heap.size, rfl, ⟨_, m.toNat, by rw [hll], by omega, .inr ⟨w.heap.size, _, ety, rfl, by simp, get_push hp, by rw [Nat.zero_add, size_madeCells, hsz]; exact Nat.le_refl _⟩⟩, .inr ⟨w.heap.size, _, ety, _, [], rfl, get_push hp, (List.append_nil _).symm, ?_⟩, rfl⟩
          rw [hcl, ← hl]
          exact Row.replicate (zero_cells hnf) m.toNat
        obtain ⟨B', rc, sc, vc⟩ := newOwn_sound rb (by simp) (by simpa using fun h => Nat.lt_irrefl _ (hZ _ h)) hov ei
        refine ⟨_, B', _, .inl ?_, rc, sb.trans sc, (Tr.push hp).imp fun _ h => h.elim, vc⟩
        unfold execOp
        simp only [ho, e1, e2, Sem.run_bind, hrun, Result.andThen_ok, Sem.run_pure]
      · cases hl
    · cases ed
  · cases e

/-! ### stores -/
theorem Tr.setRow {g : Nat} {arr arr' : Array Value} {e : TypeId} (h : w.heap[g]? = some (.cells arr e (0, 0))) (hs : arr'.size = arr.size) : Tr (fun x => x = g) w (w.setRow g arr') := by
  refine ⟨by rw [setRow_size]; exact Nat.le_refl _, fun b hb hn => setRow_other w g b arr' hn, ⟨rfl, rfl, rfl⟩, fun b cur e' hb hm => ?_⟩
  subst hm
  rw [h] at hb
  cases hb
  exact ⟨arr', setRow_heap w b arr arr' e (0, 0) h, hs⟩

theorem run_storeAt {t : TypeId} {ty : Ty} (ht : tyOf E.P t = some ty) {b o : Nat} {arr : Array Value} {e : TypeId} (hh : w.heap[b]? = some (.cells arr e (0, 0))) {val : Value} {c1 d0 c2 : List Value} (ha : arr.toList = c1 ++ d0 ++ c2) (h1 : c1.length = o)
    (hd : d0.length = val.cells.toList.length) (hs : val.cells.toList.length = ty.size) (hone : ∀ u ∈ val.cells.toList, u.oneCell' = true) :
    (Instr.storeAt t (.pointer (some ⟨b, o, none⟩)) val).run E.P w = .ok () (w.setRow b (c1 ++ val.cells.toList ++ c2).toArray) := by
  have hsz : arr.size = c1.length + (d0.length + c2.length) := by
    have : arr.toList.length = arr.size := rfl
    rw [← this, ha]; simp
  have hst := run_storeCells_at E.P b o e val.cells.toList 0 arr w hh (by omega) hone
  have hs' : val.cells.size = ty.size := hs
  unfold Instr.storeAt storeVar
  simp only [Instr.sureAddr, pure_bind, Sem.run_bind, run_sizeOf ht, Result.andThen_ok, hs']
  simp only [ne_eq, not_true_eq_false, if_false, pure_bind, hst]
  congr 3
  rw [ha, Nat.add_zero]
  have e1 : o + val.cells.toList.length = (c1 ++ d0).length := by simp [hd, h1]
  rw [e1, List.drop_left' rfl, List.append_assoc c1 d0 c2, List.take_left' h1]

theorem putEl_sound {O : Nat → Prop} : ∀ {t : Ty} {x x' : El t} {j : Nat} {u : Ty} {y : El u} {cs d : List Value}, putEl t x j u y = some x' → Cells w O t x cs → Cells w O u y d → ∃ c1 old c2, cs = c1 ++ old ++ c2 ∧ c1.length = j ∧ old.length = u.size ∧ Cells w O t x' (c1 ++ d ++ c2) := by
  intro t
  induction t with
  | pair p q ihp ihq =>
    intro x x' j u y cs d h hc hd
    have h2 : (match Nat.blt j p.size with
      | true => (putEl p x.1 j u y).map fun z => ((z, x.2) : El p × El q)
      | false => (putEl q x.2 (j - p.size) u y).map fun z => (x.1, z)) = some x' → ∃ c1 old c2, cs = c1 ++ old ++ c2 ∧ c1.length = j ∧ old.length = u.size ∧ Cells w O (.pair p q) x' (c1 ++ d ++ c2) := by
      intro h
      obtain ⟨c1, c2, rfl, h1, h2⟩ := hc
      split at h
      · cases hz : putEl p x.1 j u y with
        | none => rw [hz] at h; cases h
        | some z =>
          rw [hz] at h; cases h
          obtain ⟨d1, old, d2, rfl, g1, g2, g3⟩ := ihp hz h1 hd
          exact ⟨d1, old, d2 ++ c2, by simp, g1, g2, d1 ++ d ++ d2, c2, by simp, g3, h2⟩
      · rename_i hb
        have hle : p.size ≤ j := by
          rcases Nat.lt_or_ge j p.size with h' | h'
          · have : Nat.blt j p.size = true := by rw [Nat.blt_eq]; exact h'
            rw [this] at hb; cases hb
          · exact h'
        cases hz : putEl q x.2 (j - p.size) u y with
        | none => rw [hz] at h; cases h
        | some z =>
          rw [hz] at h; cases h
          obtain ⟨d1, old, d2, rfl, g1, g2, g3⟩ := ihq hz h2 hd
          exact ⟨c1 ++ d1, old, d2, by simp, by rw [List.length_append, g1, h1.len]; omega, g2, c1, d1 ++ d ++ d2, by simp, h1, g3⟩
    unfold putEl at h
    split at h
    · rename_i hj hcst
      cases h
      obtain ⟨e, h3⟩ := castEl_some hcst
      subst e; subst h3
      have := Nat.eq_of_beq_eq_true hj
      subst this
      exact ⟨[], cs, [], by simp, rfl, hc.len, by simpa using hd⟩
    · exact h2 h
  | _ =>
    intro x x' j u y cs d h hc hd
    unfold putEl at h
    split at h
    · rename_i hj
      obtain ⟨e, h3⟩ := castEl_some h
      subst e; subst h3
      have := Nat.eq_of_beq_eq_true hj
      subst this
      exact ⟨[], cs, [], by simp, rfl, hc.len, by simpa using hd⟩
    · cases h

theorem F1.one {O : Nat → Prop} {f : AV} {cs : List Value} (h : F1 w O B st f cs) : ∀ v ∈ cs, v.oneCell' = true := by
  cases f <;> first
    | exact Cells.one h
    | (obtain ⟨v, rfl, ho, _⟩ := h; simpa using ho)

theorem Fs.one {O : Nat → Prop} {fs : List AV} {cs : List Value} (h : Fs w O B st fs cs) : ∀ v ∈ cs, v.oneCell' = true := Row.all (fun _ _ h => F1.one h) h

theorem storeP_sound {a : Act} (r : Rel Z B st a.tmps w) {t : TypeId} {ty : Ty} (ht : tyOf E.P t = some ty) {p v : AV} {pv val : Value} (hp : VR w (Owned Z B st) B st p pv) (hv : VR w (Owned Z B st) B st v val) (e : run (storeP E ty p v) st = some ((), st')) :
    ∃ B' w', (Instr.storeAt t pv val).run E.P w = .ok () w' ∧ Rel Z B' st' a.tmps w' ∧ Stay w w' (Owned Z B st) (Owned Z B' st') B B' st st' ∧ Tr (L B st) w w' := by
  cases p with
  | ptr h g k i =>
    cases i with
    | none =>
      obtain ⟨new, st1, h1, ea⟩ := run_some e
      obtain ⟨_, st2, h2, eb⟩ := run_some ea
      obtain ⟨hfit, e2⟩ := run_guard h2
      obtain ⟨rfl, hnew⟩ := fieldsOf_sound r hv h1 hfit
      subst e2
      obtain ⟨c, st3, h3, ec⟩ := run_some eb
      obtain ⟨rfl, hcc, rfl⟩ := run_home h3
      obtain ⟨b, hb, rfl⟩ := hp.2 rfl
      have hr := r.hr h
      rw [hcc] at ec
      split at ec
      · rename_i fs hbox
        rw [hbox] at hr
        obtain ⟨b', arr, ety, hb', hh, hf⟩ := hr
        rw [hb] at hb'; cases hb'
        obtain ⟨pre, st4, h4, ed⟩ := run_some ec
        obtain ⟨hpre, rfl⟩ := run_lift h4
        obtain ⟨_, st5, h5, ee⟩ := run_some ed
        obtain ⟨hss, rfl⟩ := run_guard h5
        obtain ⟨new', st6, h6, ef⟩ := run_some ee
        simp only [run, Option.some.injEq, Prod.mk.injEq, true_and] at ef
        obtain ⟨B1, r1, s1, f1, k1⟩ := putAll_sound (X := []) List.nodup_nil (by simp) r.nil h6 (by rw [Owned.nil]; exact hnew)
        have hO1 : ∀ st'', (Owned (ZX Z []) B1 st'') = (Owned Z B1 st'') := fun st'' => funext fun x => propext (Owned.congr (ZX_nil Z) x)
        rw [Owned.nil, hO1] at s1
        rw [hO1] at f1
        have r1 := r1.congr (ZX_nil Z)
        obtain ⟨g1, g2, g3⟩ := k1 h (Nat.le_refl _) ⟨fs, hbox⟩
        obtain ⟨c1, d0, c2, hcs, hk, hd0, q1, q2⟩ := replace_fs hf hpre hss hnew
        have hlen := fitAll_size hfit hnew
        have hrun := run_storeAt ht hh hcs hk hd0 hlen (Fs.one hnew)
        have hsz : (c1 ++ val.cells.toList ++ c2).toArray.size = arr.size := by
          have : arr.toList.length = arr.size := rfl
          rw [← this, hcs]; simp [hd0]
        have htr := Tr.setRow (w := w) hh hsz
        have hb1 : B1 h = some b := g3.trans hb
        have hl1 : live (st6.cont h) = true := by rw [g1, hbox]; rfl
        obtain ⟨r2, s2⟩ := r1.write hb1 hl1 htr (c := .box (pre ++ new' ++ fs.drop (pre.length + new.length))) rfl (fun t l h => by cases h) (fun s => by
          refine ⟨b, _, ety, rfl, setRow_heap w b arr _ ety (0, 0) hh, ?_⟩
          exact Row.append (Row.append (Fs.mono s (Fs.mono s1 q1)) (Fs.mono s f1)) (Fs.mono s (Fs.mono s1 q2)))
        rw [g2] at r2 s2
        subst ef
        refine ⟨B1, _, by simpa [poff] using hrun, r2, s1.trans s2, htr.imp fun x hx => ?_⟩
        subst hx
        exact ⟨h, by rw [hbox]; rfl, hb⟩
      · cases ec
    | some ij =>
      obtain ⟨esz, i, j⟩ := ij
      obtain ⟨y, st1, h1, ea⟩ := run_some e
      obtain ⟨r1, s1, k1⟩ := toEl_sound r h1
      obtain ⟨ds, hds, rfl⟩ := k1 val hv
      obtain ⟨c, st2, h2, eb⟩ := run_some ea
      obtain ⟨rfl, hcc, rfl⟩ := run_home h2
      obtain ⟨b, hb, rfl⟩ := (hp.mono s1).2 rfl
      have hr := r1.hr h
      have hval : (toV ty ds).cells.toList = ds := hds.toV_cells
      have hLb : live (st2.cont h) = true → L B st b := fun hl => by
        rcases s1.sub b (r1.blk hb (.inr hl)) (.inr ⟨h, hl, hb⟩) with hZ | hL
        · exact absurd hZ (r1.ext h b hl hb)
        · exact hL
      rw [hcc] at eb
      split at eb
      · rename_i t' l hown
        rw [hown] at hr
        obtain ⟨_, st3, h3, ec⟩ := run_some eb
        obtain ⟨hg, rfl⟩ := run_guard h3
        obtain ⟨x, st4, h4, ed⟩ := run_some ec
        obtain ⟨hx, rfl⟩ := run_ask h4
        obtain ⟨x', st5, h5, ee⟩ := run_some ed
        obtain ⟨hx', rfl⟩ := run_lift h5
        simp only [run, Option.some.injEq, Prod.mk.injEq, true_and] at ee
        rw [Bool.and_eq_true] at hg
        have hk := Nat.eq_of_beq_eq_true hg.1
        have hs := Nat.eq_of_beq_eq_true hg.2
        subst hk; subst hs
        obtain ⟨h0, hxl, hlt⟩ := idx_some hx
        rcases hr with ⟨hn, rfl⟩ | ⟨b', arr, ety, cs, rest, m1, m2, m3, m4⟩
        · cases hxl
        · rw [hb] at m1; cases m1
          obtain ⟨c1, d, c2, e1, hd, hl, q1, q2⟩ := m4.get (fun _ _ h => h.len) hxl
          obtain ⟨e1', old, e2', rfl, hj, hold, hnew⟩ := putEl_sound hx' hd hds
          have harr : arr.toList = (c1 ++ e1') ++ old ++ (e2' ++ c2 ++ rest) := by rw [m3, e1]; simp
          have hrun := run_storeAt (val := toV ty ds) ht m2 (o := poff 0 (some (t'.size, i, j))) harr (by rw [List.length_append, hl, hj]; simp [poff]) (by rw [hval, hold, hds.len]) (by rw [hval]; exact hds.len) (by rw [hval]; exact hds.one)
          rw [hval] at hrun
          have hsz : ((c1 ++ e1') ++ ds ++ (e2' ++ c2 ++ rest)).toArray.size = arr.size := by
            have : arr.toList.length = arr.size := rfl
            rw [← this, harr]; simp [hold, hds.len]
          have htr := Tr.setRow (w := w) m2 hsz
          obtain ⟨r2, s2⟩ := r1.write hb (by rw [hown]; rfl) htr (c := .own t' (l.set i.toNat x')) rfl (fun t2 l2 hl2 => by
              simp only [asList, Option.some.injEq, Sigma.mk.injEq] at hl2
              obtain ⟨rfl, hl2⟩ := hl2
              cases hl2
              exact ⟨l, by rw [hown]; rfl, by simp⟩) (fun s => by
            refine .inr ⟨b, _, ety, c1 ++ (e1' ++ ds ++ e2') ++ c2, rest, rfl, setRow_heap w b arr _ ety (0, 0) m2, by simp, ?_⟩
            have hm : ∀ {u : Ty} {x : El u} {cs : List Value}, Cells w (Owned Z B st5) u x cs → Cells (w.setRow b (c1 ++ e1' ++ ds ++ (e2' ++ c2 ++ rest)).toArray) (Owned Z B (st5.seth h (st5.gen h) (.own t' (l.set i.toNat x')))) u x cs := fun hc => hc.mono s.size s.same s.sub
            exact Row.set hlt (q1.mono fun _ _ h => hm h) (hm hnew) (q2.mono fun _ _ h => hm h))
          subst ee
          exact ⟨B, _, hrun, r2, s1.trans s2, htr.imp fun x hx => by subst hx; exact hLb (by rw [hown]; rfl)⟩
      · rename_i fs hbox
        rw [hbox] at hr
        obtain ⟨b', arr, ety, hb', hh, hf⟩ := hr
        rw [hb] at hb'; cases hb'
        obtain ⟨pre, st3, h3, ec⟩ := run_some eb
        obtain ⟨hpre, rfl⟩ := run_lift h3
        obtain ⟨c1, c2, rr, hfs, hcs, hk, q1, q2⟩ := takeAt_sound hpre hf
        subst hfs
        rw [List.drop_left' rfl] at ec
        cases rr with
        | nil => cases ec
        | cons f rr =>
          cases f with
          | val s l =>
            cases s with
            | arr n t' =>
              obtain ⟨_, st4, h4, ed⟩ := run_some ec
              obtain ⟨hs, rfl⟩ := run_guard h4
              have hs := Nat.eq_of_beq_eq_true hs
              subst hs
              obtain ⟨x, st5, h5, ee⟩ := run_some ed
              obtain ⟨hx, rfl⟩ := run_ask h5
              obtain ⟨x', st6, h6, ef⟩ := run_some ee
              obtain ⟨hx', rfl⟩ := run_lift h6
              simp only [run, Option.some.injEq, Prod.mk.injEq, true_and] at ef
              obtain ⟨h0, hxl, hlt⟩ := idx_some hx
              obtain ⟨d2, d3, rfl, ⟨hn, hrow⟩, q3⟩ := q2
              obtain ⟨p1, d, p2, rfl, hd, hl, z1, z2⟩ := hrow.get (fun _ _ h => h.len) hxl
              obtain ⟨e1', old, e2', rfl, hj, hold, hnew⟩ := putEl_sound hx' hd hds
              have harr : arr.toList = (c1 ++ p1 ++ e1') ++ old ++ (e2' ++ p2 ++ d3) := by rw [hcs]; simp
              have hrun := run_storeAt (val := toV ty ds) ht hh (o := poff k (some (t'.size, i, j))) harr (by rw [List.length_append, List.length_append, hk, hl, hj]; simp [poff]) (by rw [hval, hold, hds.len]) (by rw [hval]; exact hds.len) (by rw [hval]; exact hds.one)
              rw [hval] at hrun
              have hsz : ((c1 ++ p1 ++ e1') ++ ds ++ (e2' ++ p2 ++ d3)).toArray.size = arr.size := by
                have : arr.toList.length = arr.size := rfl
                rw [← this, harr]; simp [hold, hds.len]
              have htr := Tr.setRow (w := w) hh hsz
              obtain ⟨r2, s2⟩ := r1.write hb (by rw [hbox]; rfl) htr (c := .box (pre ++ .val (.arr n t') (List.set (α := El t') l i.toNat x') :: rr)) rfl (fun t l h => by cases h) (fun s => by
                refine ⟨b, _, ety, rfl, setRow_heap w b arr _ ety (0, 0) hh, ?_⟩
                have hm : ∀ {u : Ty} {x : El u} {cs : List Value}, Cells w (Owned Z B st6) u x cs → Cells (w.setRow b (c1 ++ p1 ++ e1' ++ ds ++ (e2' ++ p2 ++ d3)).toArray) (Owned Z B (st6.seth h (st6.gen h) (.box (pre ++ .val (.arr n t') (List.set (α := El t') l i.toNat x') :: rr)))) u x cs := fun hc => hc.mono s.size s.same s.sub
                rw [show ((c1 ++ p1 ++ e1' ++ ds ++ (e2' ++ p2 ++ d3)).toArray).toList = c1 ++ ((p1 ++ (e1' ++ ds ++ e2') ++ p2) ++ d3) from by simp]
                refine Row.append (Fs.mono s q1) ⟨p1 ++ (e1' ++ ds ++ e2') ++ p2, d3, rfl, ⟨by simp [hn], ?_⟩, Fs.mono s q3⟩
                exact Row.set hlt (z1.mono fun _ _ h => hm h) (hm hnew) (z2.mono fun _ _ h => hm h))
              subst ef
              exact ⟨B, _, hrun, r2, s1.trans s2, htr.imp fun x hx => by subst hx; exact hLb (by rw [hbox]; rfl)⟩
            | _ => cases ec
          | _ => cases ec
      · cases eb
  | _ => cases e

theorem store_sound {a : Act} {o : Oper} {t : TypeId} {x y : Operand} (ho : o.op = .store t x y) (r : Rel Z B st a.tmps w) {v : AV} (e : run (opP E o) st = some (v, st')) : Did E Z B st a w o v st' := by
  unfold opP at e
  simp only [ho] at e
  obtain ⟨p, st1, h1, ea⟩ := run_some e
  obtain ⟨rfl, v1⟩ := opd_sound r h1
  obtain ⟨q, st2, h2, eb⟩ := run_some ea
  obtain ⟨rfl, v2⟩ := opd_sound r h2
  obtain ⟨ty, st3, h3, ec⟩ := run_some eb
  obtain ⟨ht, rfl⟩ := run_lift h3
  obtain ⟨_, st4, h4, ed⟩ := run_some ec
  obtain ⟨rfl, rfl⟩ := run_pure ed
  obtain ⟨B', w', hrun, hr, hs, htr⟩ := storeP_sound r ht v1 v2 h4
  exact ⟨undef, B', w', .inr ⟨by unfold execOp; simp only [ho, Sem.run_bind, hrun, Result.andThen_ok, Sem.run_pure], rfl⟩, hr, hs, htr, trivial⟩
end
end Go.Pv
