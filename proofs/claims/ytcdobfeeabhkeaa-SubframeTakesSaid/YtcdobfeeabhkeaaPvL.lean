/- The rest of the operations that only read; what is given to a variable. -/
import Derived.Test.YtcdobfeeabhkeaaPvK
set_option autoImplicit false
set_option linter.unusedVariables false
set_option linter.unusedSimpArgs false
namespace Go.Pv

section
variable {E : Env} {Z : Nat → Prop} {B : Nat → Option Nat} {st st' : St} {a : Act} {w : World}

theorem run_part {t : TypeId} {ty : Ty} (ht : tyOf E.P t = some ty) {cs : Array Value} {c1 d c2 : List Value} (e : cs.toList = c1 ++ d ++ c2) (hd : d.length = ty.size) (h1 : ty.isAgg = false → ∃ v, d = [v]) :
    (part t cs c1.length).run E.P w = .ok (toV ty d) w := by
  unfold part
  simp only [Sem.run_bind, run_isAgg ht, Result.andThen_ok]
  cases hg : ty.isAgg with
  | true =>
    simp only [if_true, Sem.run_bind, run_sizeOf ht, Result.andThen_ok, Sem.run_pure, toV, hg]
    congr 2
    apply Array.ext'
    rw [Array.toList_extract, e, ← hd]
    simp [List.extract]
  | false =>
    obtain ⟨v, rfl⟩ := h1 hg
    have : cs[c1.length]? = some v := by rw [← Array.getElem?_toList, e]; simp
    simp [this, toV, hg]

theorem field_sound {o : Oper} {t : TypeId} {x : Operand} {f : Nat} (ho : o.op = .field t x f) (r : Rel Z B st a.tmps w) {v : AV} (e : run (opP E o) st = some (v, st')) : Did E Z B st a w o v st' := by
  unfold opP at e
  simp only [ho] at e
  obtain ⟨p, st1, h1, ea⟩ := run_some e
  obtain ⟨rfl, v1⟩ := opd_sound r h1
  unfold fieldP at ea
  split at ea
  · rename_i fs hu
    split at ea
    · rename_i fd hfd
      obtain ⟨ty, st2, h2, eb⟩ := run_some ea
      obtain ⟨ht, rfl⟩ := run_lift h2
      have hx : ∀ (arr : Array Value) (c1 d c2 : List Value), a.eval x = .agg arr → arr.toList = c1 ++ d ++ c2 → c1.length = fd.offset → d.length = ty.size → (ty.isAgg = false → ∃ v, d = [v]) → (execOp a.eval o).run E.P w = .ok (.value (toV ty d)) w := by
        intro arr c1 d c2 hv h2 h3 h4 h5
        have := run_part (w := w) ht h2 h4 h5
        rw [h3] at this
        unfold execOp
        simp only [ho, hv, Instr.field, asAgg, pure_bind, Sem.run_bind, run_underlying hu, Result.andThen_ok, hfd, this, Sem.run_pure]
      split at eb
      · rename_i u y
        obtain ⟨_, st3, h3, ec⟩ := run_some eb
        obtain ⟨hg, rfl⟩ := run_guard h3
        obtain ⟨z, st4, h4, ed⟩ := run_some ec
        obtain ⟨hz, rfl⟩ := run_lift h4
        obtain ⟨rfl, rfl⟩ := run_pure ed
        obtain ⟨cs, hc, e1⟩ := v1
        obtain ⟨c1, d, c2, rfl, hk, hd⟩ := partEl_sound hz hc
        rw [toV_append_agg hg] at e1
        exact .pure r (hx _ c1 d c2 e1 rfl hk hd.len fun h => hd.single h) ⟨d, hd, rfl⟩
      · rename_i gs
        obtain ⟨q, st3, h3, ec⟩ := run_some eb
        obtain ⟨hq, rfl⟩ := run_lift h3
        obtain ⟨arr, e1, hf⟩ := v1
        obtain ⟨c1, c2, e2, hk, hq'⟩ := dropAt_sound hq hf
        split at ec
        · rename_i hlf
          split at ec
          · rename_i g q'
            obtain ⟨_, st4, h4, ed⟩ := run_some ec
            obtain ⟨hfit, rfl⟩ := run_guard h4
            obtain ⟨rfl, rfl⟩ := run_pure ed
            obtain ⟨d, d2, rfl, hd, _⟩ := hq'
            obtain ⟨g1, g2, g3⟩ := fits_leaf hfit hlf hd
            exact .pure r (hx arr c1 d d2 e1 (by rw [e2]; simp) hk g2 g3) g1
          · cases ec
        · rename_i hlf
          obtain ⟨s, st4, h4, ed⟩ := run_some ec
          obtain ⟨hs, rfl⟩ := run_lift h4
          obtain ⟨_, st5, h5, ee⟩ := run_some ed
          obtain ⟨hfit, rfl⟩ := run_guard h5
          obtain ⟨rfl, rfl⟩ := run_pure ee
          obtain ⟨d, d2, rr, _, rfl, hd, hs', _⟩ := takeAt_sound hs hq'
          have hagg : ty.isAgg = true := by cases ty <;> simp [isLeafTy] at hlf <;> rfl
          refine .pure r (hx arr c1 d d2 e1 (by rw [e2]; simp) hk hd (by rw [hagg]; simp)) ?_
          rw [toV_append_agg hagg]
          exact ⟨_, rfl, hs'⟩
      · cases eb
    · cases ea
  · cases ea

theorem index_sound {o : Oper} {t : TypeId} {x i : Operand} (ho : o.op = .index t x i) (r : Rel Z B st a.tmps w) {v : AV} (e : run (opP E o) st = some (v, st')) : Did E Z B st a w o v st' := by
  unfold opP at e
  simp only [ho] at e
  obtain ⟨p, st1, h1, ea⟩ := run_some e
  obtain ⟨rfl, v1⟩ := opd_sound r h1
  obtain ⟨q, st2, h2, eb⟩ := run_some ea
  obtain ⟨rfl, v2⟩ := opd_sound r h2
  obtain ⟨⟨k, n⟩, st3, h3, ec⟩ := run_some eb
  obtain ⟨rfl, rfl⟩ := asI_some h3
  have e2 := v2.int
  simp only at ec
  split at ec
  · rename_i m ety hu
    split at ec
    · rename_i m' u l
      obtain ⟨ty, st4, h4, ed⟩ := run_some ec
      obtain ⟨ht, rfl⟩ := run_lift h4
      obtain ⟨_, st5, h5, ee⟩ := run_some ed
      obtain ⟨hg, rfl⟩ := run_guard h5
      rw [Bool.and_eq_true] at hg
      have hm := Nat.eq_of_beq_eq_true hg.1
      have hu' := of_decide_eq_true hg.2
      subst hm; subst hu'
      obtain ⟨y, st6, h6, ef⟩ := run_some ee
      obtain ⟨hy, rfl⟩ := run_ask h6
      obtain ⟨rfl, rfl⟩ := run_pure ef
      obtain ⟨h0, hy', hlt⟩ := idx_some hy
      obtain ⟨cs, ⟨hlen, hr⟩, e1⟩ := v1
      have e1 : a.eval x = .agg cs.toArray := e1
      obtain ⟨c1, d, c2, e4, hd, hl, _, _⟩ := hr.get (fun _ _ h => h.len) hy'
      have hp := run_part (w := w) ht (cs := cs.toArray) (c1 := c1) (d := d) (c2 := c2) e4 hd.len fun h => hd.single h
      rw [hl] at hp
      refine .pure r (val := toV u d) ?_ ⟨d, hd, rfl⟩
      unfold execOp
      simp [ho, e1, e2, Instr.index, run_asIntOf, run_underlying hu, run_sizeOf ht, h0, hp]
      intro h
      exfalso
      have : n.toNat < List.length l := hlt
      omega
    · cases ec
  · cases ec

theorem rng_some {n : Nat} {lo hi : Int} {p : Nat × Nat} (h : rng n lo hi = some p) : 0 ≤ lo ∧ lo ≤ hi ∧ hi ≤ n ∧ p = (lo.toNat, hi.toNat - lo.toNat) := by
  unfold rng at h
  split at h
  · rename_i h0; exact ⟨h0.1, h0.2.1, h0.2.2, (Option.some.inj h).symm⟩
  · cases h

/-- a bound's operand -/
def BoundOf (a : Act) (x : Option Operand) (n : Option Int) : Prop :=
  match x, n with
  | none, none => True
  | some x, some n => ∃ k, a.eval x = .int k n
  | _, _ => False

theorem run_bounds {lo hi : Option Operand} {lo' hi' : Option Int} (hl : BoundOf a lo lo') (hh : BoundOf a hi hi') {len cap : Nat} (hc : len ≤ cap) {p : Nat × Nat} (hr : rng len (lo'.getD 0) (hi'.getD len) = some p) :
    (Instr.sliceBounds true len cap (lo.map a.eval) (hi.map a.eval) none).run E.P w = .ok (p.1, p.1 + p.2, cap) w := by
  obtain ⟨h0, h1, h2, rfl⟩ := rng_some hr
  unfold Instr.sliceBounds
  cases hi with
  | none =>
    cases hi' with
    | some n => exact hh.elim
    | none =>
      simp only [Option.getD_none] at h1 h2
      cases lo with
      | none =>
        cases lo' with
        | some n => exact hl.elim
        | none => simp
      | some x =>
        cases lo' with
        | none => exact hl.elim
        | some n =>
          obtain ⟨k, e1⟩ := hl
          simp only [Option.getD_some] at h0 h1
          simp [Instr.sliceBound, e1, run_asIntOf, h0, h1]
          try omega
  | some y =>
    cases hi' with
    | none => exact hh.elim
    | some m =>
      obtain ⟨k', e2⟩ := hh
      simp only [Option.getD_some] at h1 h2
      have hm : 0 ≤ m := by omega
      have hm' : m ≤ (cap : Int) := by omega
      cases lo with
      | none =>
        cases lo' with
        | some n => exact hl.elim
        | none => simp [Instr.sliceBound, e2, run_asIntOf, hm, hm']
      | some x =>
        cases lo' with
        | none => exact hl.elim
        | some n =>
          obtain ⟨k, e1⟩ := hl
          simp only [Option.getD_some] at h0 h1
          have : n ≤ (m.toNat : Int) := by omega
          have h3 : n.toNat + (m.toNat - n.toNat) = m.toNat := by omega
          simp [Instr.sliceBound, e1, e2, run_asIntOf, h0, hm, hm', this, h3]
          intro hcon
          exfalso
          omega

def BoundIs : Option AV → Option Int → Prop
  | none, none => True
  | some u, some n => ∃ k, u = .val (.int k) n
  | _, _ => False

theorem boundP_sound {x : Option AV} {n : Option Int} {s s' : St} (h : run (boundP x) s = some (n, s')) : s' = s ∧ BoundIs x n := by
  cases x with
  | none => obtain ⟨rfl, rfl⟩ := run_ret h; exact ⟨rfl, trivial⟩
  | some u =>
    obtain ⟨⟨k, m⟩, s1, h3, h4⟩ := run_some h
    obtain ⟨rfl, rfl⟩ := asI_some h3
    obtain ⟨rfl, rfl⟩ := run_pure h4
    exact ⟨rfl, k, rfl⟩

theorem optP_sound (r : Rel Z B st a.tmps w) {x : Option Operand} {y : Option AV} (h : run (optP x) st = some (y, st')) : st' = st ∧ ∀ n, BoundIs y n → BoundOf a x n := by
  cases x with
  | none => obtain ⟨rfl, rfl⟩ := run_ret h; exact ⟨rfl, fun n h => by cases n <;> simp_all [BoundIs, BoundOf]⟩
  | some u =>
    obtain ⟨v, s1, h3, h4⟩ := run_some h
    obtain ⟨rfl, v1⟩ := opd_sound r h3
    obtain ⟨rfl, rfl⟩ := run_pure h4
    refine ⟨rfl, fun n h => ?_⟩
    cases n with
    | none => exact h
    | some n => obtain ⟨k, rfl⟩ := h; exact ⟨k, v1.int⟩

theorem sameTy_sound {u : Ty} {h g : Nat} {s : Option (Nat × Nat)} (e : run (sameTy u (.lref h g s)) st = some ((), st')) : st' = st ∧ ∀ t l, asList (st.cont h) = some ⟨t, l⟩ → t = u := by
  obtain ⟨c, st1, h1, ea⟩ := run_some e
  obtain ⟨rfl, hcc, rfl⟩ := run_home h1
  rw [hcc] at ea
  split at ea
  · rename_i t l hc
    obtain ⟨hg, rfl⟩ := run_guard ea
    refine ⟨rfl, fun t' l' hl => ?_⟩
    rw [hc] at hl
    simp only [asList, Option.some.injEq, Sigma.mk.injEq] at hl
    rw [← hl.1]; exact of_decide_eq_true hg
  · rename_i t l hc
    obtain ⟨hg, rfl⟩ := run_guard ea
    refine ⟨rfl, fun t' l' hl => ?_⟩
    rw [hc] at hl
    simp only [asList, Option.some.injEq, Sigma.mk.injEq] at hl
    rw [← hl.1]; exact of_decide_eq_true hg
  · cases ea

theorem view_view {α : Type} (l : List α) (s : Option (Nat × Nat)) (p : Nat × Nat) (h : p.1 + p.2 ≤ sLen l.length s) : view (view l s) (some p) = view l (some (sOff s + p.1, p.2)) := by
  obtain ⟨o, n⟩ := p
  cases s with
  | none => simp [view, sOff]
  | some q =>
    obtain ⟨o', m⟩ := q
    simp only [sLen] at h
    simp only [view, sOff, List.drop_take, List.take_take, List.drop_drop]
    rw [Nat.min_eq_left (by omega)]

theorem slice_sound {o : Oper} {t : TypeId} {x : Operand} {lo hi mx : Option Operand} (ho : o.op = .slice t x lo hi mx) (r : Rel Z B st a.tmps w) {v : AV} (e : run (opP E o) st = some (v, st')) : Did E Z B st a w o v st' := by
  unfold opP at e
  simp only [ho] at e
  cases mx with
  | some m => cases e
  | none =>
  simp only at e
  obtain ⟨p, st1, h1, ea⟩ := run_some e
  obtain ⟨rfl, v1⟩ := opd_sound r h1
  obtain ⟨l, st2, h2, eb⟩ := run_some ea
  obtain ⟨rfl, b1⟩ := optP_sound r h2
  obtain ⟨h, st3, h3, ec⟩ := run_some eb
  obtain ⟨rfl, b2⟩ := optP_sound r h3
  unfold sliceP at ec
  obtain ⟨lo', st4, h4, ed⟩ := run_some ec
  obtain ⟨rfl, k1⟩ := boundP_sound h4
  obtain ⟨hi', st5, h5, ee⟩ := run_some ed
  obtain ⟨rfl, k2⟩ := boundP_sound h5
  have k1 := b1 _ k1
  have k2 := b2 _ k2
  clear b1 b2 h2 h3 h4 h5 ea eb ec ed e
  split at ee
  · rename_i ety hu
    obtain ⟨u, st6, h6, ef⟩ := run_some ee
    obtain ⟨hs, rfl⟩ := run_lift h6
    have hx : ∀ (aa : Option Addr) (len cap : Nat) (p : Nat × Nat), a.eval x = .slice aa len cap → len ≤ cap → rng len (lo'.getD 0) (hi'.getD len) = some p →
        (execOp a.eval o).run E.P w = .ok (.value (.slice (if cap = p.1 then aa else aa.map (·.add (p.1 * u.size))) p.2 (cap - p.1))) w := by
      intro aa len cap p hv hc hr
      have := run_bounds (E := E) (w := w) k1 k2 hc hr
      obtain ⟨h0, h1', h2', rfl⟩ := rng_some hr
      unfold execOp
      simp [ho, hv, Instr.sliceAt, Instr.slice, run_underlying hu, this, run_sizeOf hs]
    split at ef
    · rename_i s l
      obtain ⟨l', st7, h7, eg⟩ := run_some ef
      obtain ⟨hcst, rfl⟩ := run_lift h7
      obtain ⟨p, st8, h8, eh⟩ := run_some eg
      obtain ⟨hr, rfl⟩ := run_ask h8
      obtain ⟨rfl, rfl⟩ := run_pure eh
      obtain ⟨e1, h9⟩ := castEl_some hcst
      subst e1
      have h9 : l = l' := h9
      subst h9
      obtain ⟨cs, ⟨aa, c, rfl, hc, hl⟩, e3⟩ := v1
      have e3 : a.eval x = .slice aa (List.length l) c := e3
      have hex := hx aa _ c p e3 hc hr
      obtain ⟨h0, h1', h2', hpe⟩ := rng_some hr
      have hp : p.1 + p.2 ≤ List.length l := by rw [hpe]; simp only; omega
      have hvl : (view l (some p)).length = p.2 := by
        obtain ⟨o', n⟩ := p; simp only [view, List.length_take, List.length_drop]; simp only at hp; omega
      refine .pure r hex ⟨[_], ⟨_, _, by rw [hvl], by rw [hvl]; omega, ?_⟩, rfl⟩
      by_cases hz : p.2 = 0
      · left; exact List.eq_nil_of_length_eq_zero (by rw [hvl, hz])
      · right
        rcases hl with hl | ⟨b, off, ds, rfl, hO, hb, hli, hrow⟩
        · have : List.length l = 0 := by rw [show l = [] from hl]; rfl
          omega
        · obtain ⟨c1, d, c2, e4, n2, n3, _⟩ := hrow.take p.1 p.2
          rw [e4] at hli
          have hlp := hli.part
          refine ⟨b, off + c1.length, d, ?_, hO, hb, hlp, by obtain ⟨o', n⟩ := p; exact n3⟩
          rw [if_neg (by omega), n2.len fun _ _ h => h.len, List.length_take, Nat.min_eq_left (by omega)]
          simp [Addr.add_lit]
    · rename_i hh g s
      obtain ⟨_, st10, h10, ef'⟩ := run_some ef
      obtain ⟨rfl, hsame⟩ := sameTy_sound h10
      obtain ⟨n, st7, h7, eg⟩ := run_some ef'
      obtain ⟨rfl, _⟩ := lenP_sound r v1 h7
      obtain ⟨p, st8, h8, eh⟩ := run_some eg
      obtain ⟨hr, rfl⟩ := run_ask h8
      obtain ⟨rfl, rfl⟩ := run_pure eh
      obtain ⟨c, st9, h9, ei⟩ := run_some h7
      obtain ⟨rfl, hcc, rfl⟩ := run_home h9
      obtain ⟨g1, g2⟩ := v1
      have key : ∀ (t' : Ty) (l : List (El t')), asList (st9.cont hh) = some ⟨t', l⟩ → n = sLen l.length s → t'.size = u.size → Did E Z B st9 a w o (.lref hh (st9.gen hh) (some (sOff s + p.1, p.2))) st9 := by
        intro t' l hl hn hsz
        subst hn
        obtain ⟨hle, aa, cc, e3, hc1, hc2⟩ := g2 rfl t' l hl
        have hex := hx aa _ cc p e3 hc1 hr
        obtain ⟨h0, h1', h2', hpe⟩ := rng_some hr
        have hp : p.1 + p.2 ≤ sLen l.length s := by rw [hpe]; simp only; omega
        refine .pure r hex ⟨Nat.le_refl _, fun _ t2 l2 hl2 => ?_⟩
        rw [hl] at hl2
        simp only [Option.some.injEq, Sigma.mk.injEq] at hl2
        obtain ⟨rfl, hl2⟩ := hl2
        cases hl2
        refine ⟨by show sOff s + p.1 + p.2 ≤ l.length; omega, _, _, rfl, by show p.2 ≤ cc - p.1; omega, ?_⟩
        by_cases hz : cc = p.1
        · left
          have h20 : p.2 = 0 := by omega
          exact ⟨h20, by omega⟩
        · right
          rcases hc2 with ⟨h10, h11⟩ | ⟨b, arr, ty, hb, rfl, hhp, hcap⟩
          · omega
          · refine ⟨b, arr, ty, hb, ?_, hhp, ?_⟩
            · rw [if_neg hz]; simp [Addr.add_lit, sOff, Nat.add_mul, hsz]
            · have h21 : sOff (some (sOff s + p.1, p.2)) = sOff s + p.1 := rfl
              have h22 : sOff (some (sOff s + p.1, p.2)) + (cc - p.1) = sOff s + cc := by omega
              rw [h22]; exact hcap
      rw [hcc] at ei
      split at ei
      · rename_i t' l hcc'
        obtain ⟨hn, _⟩ := run_ret ei
        have ha : asList (st9.cont hh) = some ⟨t', l⟩ := by rw [hcc']; rfl
        exact key t' l ha hn (by rw [hsame t' l ha])
      · rename_i t' l hcc'
        obtain ⟨hn, _⟩ := run_ret ei
        have ha : asList (st9.cont hh) = some ⟨t', l⟩ := by rw [hcc']; rfl
        exact key t' l ha hn (by rw [hsame t' l ha])
      · cases ei
    · cases ef
  · cases ee

theorem run_part0 {P : Program} {t : TypeId} {ty : Ty} (ht : tyOf P t = some ty) {cs : Array Value} {c1 d c2 : List Value} (e : cs.toList = c1 ++ d ++ c2) {o : Nat} (ho : o = c1.length) (hd : d.length = ty.size) (h1 : ty.isAgg = false → ∃ v, d = [v]) (w : World) :
    (part t cs o).run P w = .ok (toV ty d) w := by
  subst ho
  exact run_part (E := ⟨P, fun _ _ => none, [], 0, false, []⟩) ht e hd h1

/-- the fields of two structs, one after the other -/
theorem cmp_fields {P : Program} {O : Nat → Prop} {d : Nat} {rec : TypeId → Ty → Bool} {xs ys : Array Value}
    (ih : ∀ t ty, rec t ty = true → ∀ (a b : El ty) (ca cb : List Value), Cells w O ty a ca → Cells w O ty b cb → (Op.equalIn d t (toV ty ca) (toV ty cb)).run P w = .ok (beqEl ty a b) w) :
    ∀ {fs : List Field} {ty : Ty} {off : Nat} {a b : El ty} {p1 p2 ca cb : List Value}, cmpFs P rec off fs ty = true → xs.toList = p1 ++ ca → ys.toList = p2 ++ cb → p1.length = off → p2.length = off → Cells w O ty a ca → Cells w O ty b cb →
      (do
        for f in fs do
          if f.name ≠ "_" then
            if !(← Op.equalIn d f.type (← part f.type xs f.offset) (← part f.type ys f.offset)) then return false
        pure true : Sem Bool).run P w = .ok (beqEl ty a b) w := by
  intro fs
  induction fs with
  | nil =>
    intro ty off a b p1 p2 ca cb h ex ey e1 e2 h1 h2
    cases ty <;> simp [cmpFs] at h
    rfl
  | cons f fs ihf =>
    intro ty off a b p1 p2 ca cb h ex ey e1 e2 h1 h2
    cases ty with
    | pair s t =>
      simp only [cmpFs, Bool.and_eq_true, decide_eq_true_eq, bne_iff_ne] at h
      obtain ⟨⟨⟨⟨hn, hoff⟩, hty⟩, hrec⟩, hrest⟩ := h
      have hoff := Nat.eq_of_beq_eq_true hoff
      obtain ⟨a1, a2, rfl, ha1, ha2⟩ := h1
      obtain ⟨b1, b2, rfl, hb1, hb2⟩ := h2
      have px := run_part0 hty (cs := xs) (c1 := p1) (d := a1) (c2 := a2) (by rw [ex, List.append_assoc]) (o := f.offset) (by omega) ha1.len (fun h => ha1.single h) w
      have py := run_part0 hty (cs := ys) (c1 := p2) (d := b1) (c2 := b2) (by rw [ey, List.append_assoc]) (o := f.offset) (by omega) hb1.len (fun h => hb1.single h) w
      have hr := ihf (off := off + s.size) (p1 := p1 ++ a1) (p2 := p2 ++ b1) hrest (by rw [ex, List.append_assoc]) (by rw [ey, List.append_assoc]) (by rw [List.length_append, ha1.len, e1]) (by rw [List.length_append, hb1.len, e2]) ha2 hb2
      have hq := ih _ _ hrec _ _ _ _ ha1 hb1
      rw [List.forIn_cons]
      simp only [hn, ne_eq, not_false_eq_true, if_true, Sem.run_bind, px, py, hq, Result.andThen_ok]
      show _ = Result.ok (beqEl s a.1 b.1 && beqEl t a.2 b.2) w
      cases hb : beqEl s a.1 b.1 with
      | false => rfl
      | true =>
        simp only [Sem.run_bind] at hr
        simpa using hr
    | _ => simp [cmpFs] at h


/-- the elements of two arrays, one after the other -/
theorem cmp_rows {P : Program} {O : Nat → Prop} {d : Nat} {e : TypeId} {u : Ty} {xs ys : Array Value} (hty : tyOf P e = some u)
    (ih : ∀ (a b : El u) (ca cb : List Value), Cells w O u a ca → Cells w O u b cb → (Op.equalIn d e (toV u ca) (toV u cb)).run P w = .ok (beqEl u a b) w) :
    ∀ {la lb : List (El u)} {k : Nat} {p1 p2 ca cb : List Value}, la.length = lb.length → xs.toList = p1 ++ ca → ys.toList = p2 ++ cb → p1.length = k * u.size → p2.length = k * u.size → Row (Cells w O u) la ca → Row (Cells w O u) lb cb →
      (do
        for i in List.range' k la.length do
          if !(← Op.equalIn d e (← part e xs (i * u.size)) (← part e ys (i * u.size))) then return false
        pure true : Sem Bool).run P w = .ok ((la.zip lb).all fun p => beqEl u p.1 p.2) w := by
  intro la
  induction la with
  | nil =>
    intro lb k p1 p2 ca cb hl ex ey e1 e2 h1 h2
    rfl
  | cons a la iha =>
    intro lb k p1 p2 ca cb hl ex ey e1 e2 h1 h2
    cases lb with
    | nil => cases hl
    | cons b lb =>
      obtain ⟨a1, a2, rfl, ha1, ha2⟩ := h1
      obtain ⟨b1, b2, rfl, hb1, hb2⟩ := h2
      have px := run_part0 hty (cs := xs) (c1 := p1) (d := a1) (c2 := a2) (by rw [ex, List.append_assoc]) (o := k * u.size) e1.symm ha1.len (fun h => ha1.single h) w
      have py := run_part0 hty (cs := ys) (c1 := p2) (d := b1) (c2 := b2) (by rw [ey, List.append_assoc]) (o := k * u.size) e2.symm hb1.len (fun h => hb1.single h) w
      have hr := iha (k := k + 1) (p1 := p1 ++ a1) (p2 := p2 ++ b1) (by simpa using hl) (by rw [ex, List.append_assoc]) (by rw [ey, List.append_assoc]) (by rw [List.length_append, ha1.len, e1, Nat.add_mul]; omega) (by rw [List.length_append, hb1.len, e2, Nat.add_mul]; omega) ha2 hb2
      have hq := ih _ _ _ _ ha1 hb1
      rw [List.length_cons, List.range'_succ, List.forIn_cons]
      simp only [Sem.run_bind, px, py, hq, Result.andThen_ok]
      show _ = Result.ok (beqEl u a b && (la.zip lb).all fun p => beqEl u p.1 p.2) w
      cases hb : beqEl u a b with
      | false => rfl
      | true =>
        simp only [Sem.run_bind] at hr
        simpa using hr

theorem cmpFs_agg {P : Program} {rec : TypeId → Ty → Bool} {off : Nat} {fs : List Field} {ty : Ty} (h : cmpFs P rec off fs ty = true) : ty.isAgg = true := by
  cases ty <;> first | rfl | (cases fs <;> cases h)

theorem cmp_sound {P : Program} {O : Nat → Prop} : ∀ {n d : Nat} {t : TypeId} {ty : Ty}, cmpOk P n t ty = true → n ≤ d → ∀ (a b : El ty) (ca cb : List Value), Cells w O ty a ca → Cells w O ty b cb → (Op.equalIn d t (toV ty ca) (toV ty cb)).run P w = .ok (beqEl ty a b) w := by
  intro n
  induction n with
  | zero => intro d t ty h; cases h
  | succ n ih =>
    intro d t ty h hd a b ca cb h1 h2
    obtain ⟨d, rfl⟩ : ∃ d', d = d' + 1 := ⟨d - 1, by omega⟩
    unfold cmpOk at h
    split at h
    · rename_i hu
      cases h1; cases h2
      unfold Op.equalIn
      simp [run_underlying hu, toV, Ty.isAgg]
      exact Bool.eq_iff_iff.2 (by simp [beqEl])
    · rename_i hu
      cases h1; cases h2
      unfold Op.equalIn
      simp [run_underlying hu, toV, Ty.isAgg]
      rfl
    · rename_i ty0 x0 ty1 fs hu
      simp only [Bool.and_eq_true, Bool.not_eq_true'] at h
      have hag : ty0.isAgg = true := by
        exact cmpFs_agg h.2
      unfold Op.equalIn
      simp only [Sem.run_bind, run_underlying hu, Result.andThen_ok, toV, hag, if_true, run_program, h.1]
      have := cmp_fields (xs := ca.toArray) (ys := cb.toArray) (p1 := []) (p2 := []) (d := d) (fun t ty hr => ih hr (Nat.le_of_succ_le_succ hd)) h.2 rfl rfl rfl rfl h1 h2
      rw [← Array.forIn_toList]
      simpa using this
    · rename_i m e m' u hu
      simp only [Bool.and_eq_true, decide_eq_true_eq] at h
      obtain ⟨⟨hm, hty⟩, hrec⟩ := h
      have hm := Nat.eq_of_beq_eq_true hm
      subst hm
      obtain ⟨l1, h1⟩ := h1
      obtain ⟨l2, h2⟩ := h2
      unfold Op.equalIn
      simp only [Sem.run_bind, run_underlying hu, Result.andThen_ok, toV, Ty.isAgg, if_true, run_sizeOf hty]
      have := cmp_rows (xs := ca.toArray) (ys := cb.toArray) (p1 := []) (p2 := []) (k := 0) hty (ih (d := d) hrec (Nat.le_of_succ_le_succ hd)) (l1.trans l2.symm) rfl rfl (by simp) (by simp) h1 h2
      have hb : beqEl (.arr m u) a b = ((List.zip a b).all fun p => beqEl u p.1 p.2) := by
        show ((List.length a == List.length b) && _) = _
        rw [l1, l2]; simp
      rw [hb, Std.Legacy.Range.forIn_eq_forIn_range']
      rw [l1] at this
      simpa [Std.Legacy.Range.size] using this
    · cases h


theorem notNil_some {n : Nat} {b : Bool} (h : notNil n = some b) : b = false ∧ 1 ≤ n := by
  cases n with
  | zero => cases h
  | succ n => cases h; exact ⟨rfl, by omega⟩

theorem slDesc_some {P : Program} {t : TypeId} (h : slDesc P t = true) : ∃ e, P.underlying t = some (.slice e) := by
  unfold slDesc at h
  split at h
  · rename_i e he; exact ⟨e, he⟩
  · cases h

theorem run_equal_nil {t e : TypeId} (hu : E.P.underlying t = some (.slice e)) (p : Addr) (n c : Nat) : (Op.equal t (.slice (some p) n c) (.slice none 0 0)).run E.P w = .ok false w := by
  unfold Op.equal Op.maxDepth Op.equalIn; simp [run_underlying hu]
theorem run_equal_nils {t e : TypeId} (hu : E.P.underlying t = some (.slice e)) : (Op.equal t (.slice none 0 0) (.slice none 0 0)).run E.P w = .ok true w := by
  unfold Op.equal Op.maxDepth Op.equalIn; simp [run_underlying hu]

/-- == and !=, by what the model's equality says -/
theorem eqR_core {o : Oper} {op : BinOp} {t t' : TypeId} {x y : Operand} (ho : o.op = .binOp op t x y t') {b : Bool} {v : AV} (e : run (eqR op b) st = some (v, st'))
    (hg : (eqGuard op t x y (a.eval x) (a.eval y)).run E.P w = .ok () w) (hq : (Op.equal t (a.eval x) (a.eval y)).run E.P w = .ok b w)
    (hb : ∀ q, (q = .eql ∨ q = .neq) → binOp q t (a.eval x) (a.eval y) = if q = .eql then (do pure (.bool (← Op.equal t (a.eval x) (a.eval y)))) else (do pure (.bool (!(← Op.equal t (a.eval x) (a.eval y)))))) : st' = st ∧ ∃ c, v = .val .bool c ∧ (execOp a.eval o).run E.P w = .ok (.value (.bool c)) w := by
  unfold eqR at e
  split at e
  · obtain ⟨rfl, rfl⟩ := run_ret e
    exact ⟨rfl, _, rfl, exec_binOp ho hg (by rw [hb .eql (.inl rfl)]; exact run_eql hq)⟩
  · obtain ⟨rfl, rfl⟩ := run_ret e
    exact ⟨rfl, _, rfl, exec_binOp ho hg (by rw [hb .neq (.inr rfl)]; exact run_neq hq)⟩
  · cases e

theorem eqR_sound {o : Oper} {op : BinOp} {t t' : TypeId} {x y : Operand} (ho : o.op = .binOp op t x y t') (r : Rel Z B st a.tmps w) {b : Bool} {v : AV} (e : run (eqR op b) st = some (v, st'))
    (hg : (eqGuard op t x y (a.eval x) (a.eval y)).run E.P w = .ok () w) (hq : (Op.equal t (a.eval x) (a.eval y)).run E.P w = .ok b w)
    (hb : ∀ q, (q = .eql ∨ q = .neq) → binOp q t (a.eval x) (a.eval y) = if q = .eql then (do pure (.bool (← Op.equal t (a.eval x) (a.eval y)))) else (do pure (.bool (!(← Op.equal t (a.eval x) (a.eval y)))))) : Did E Z B st a w o v st' := by
  obtain ⟨rfl, c, rfl, h⟩ := eqR_core ho e hg hq hb
  exact .pure r h (VR.ofBool _)

theorem eqP_sound {o : Oper} {op : BinOp} {t t' : TypeId} {x y : Operand} (ho : o.op = .binOp op t x y t') (r : Rel Z B st a.tmps w) (hs : isShift op = false) {u1 u2 v : AV} (v1 : VR w (Owned Z B st) B st u1 (a.eval x)) (v2 : VR w (Owned Z B st) B st u2 (a.eval y))
    (e : run (eqP E.P t op u1 u2) st = some (v, st')) : Did E Z B st a w o v st' := by
  unfold eqP at e
  split at e
  · rename_i t1 l
    obtain ⟨_, st1, h1, ea⟩ := run_some e
    obtain ⟨hd, rfl⟩ := run_guard h1
    obtain ⟨b, st2, h2, eb⟩ := run_some ea
    obtain ⟨hb, rfl⟩ := run_ask h2
    obtain ⟨rfl, hn⟩ := notNil_some hb
    obtain ⟨el, hu⟩ := slDesc_some hd
    obtain ⟨cs, ⟨aa, c, rfl, hlc, hcell⟩, e1⟩ := v1
    rcases hcell with rfl | ⟨b, off, ds, rfl, _⟩
    · exact absurd hn (by simp)
    · have e1 : a.eval x = .slice (some ⟨b, off, none⟩) (List.length l) c := e1
      have e2 : a.eval y = .slice none 0 0 := v2
      exact eqR_sound ho r eb (by rw [e1]; exact run_eqGuard (by simp) (by simp)) (by rw [e1, e2]; exact run_equal_nil hu _ _ _) (fun q hq => by rw [e1, e2]; rcases hq with rfl | rfl <;> rfl)
  · rename_i h g s
    obtain ⟨_, st1, h1, ea⟩ := run_some e
    obtain ⟨hd, rfl⟩ := run_guard h1
    obtain ⟨n, st2, h2, eb⟩ := run_some ea
    obtain ⟨b, st3, h3, ec⟩ := run_some eb
    obtain ⟨hb, rfl⟩ := run_ask h3
    obtain ⟨rfl, hn⟩ := notNil_some hb
    obtain ⟨el, hu⟩ := slDesc_some hd
    have hh : st3 = st1 ∧ ∃ p c, a.eval x = .slice (some p) n c := by
      obtain ⟨c, st4, h4, ed⟩ := run_some h2
      obtain ⟨rfl, hcc, rfl⟩ := run_home h4
      rw [hcc] at ed
      have key : ∀ {t l}, asList (st4.cont h) = some ⟨t, l⟩ → sLen (List.length l) s = n → ∃ p c, a.eval x = .slice (some p) n c := fun {t l} hl hlen => by
        obtain ⟨_, aa, cc, e1, _, hcase⟩ := v1.2 rfl t l hl
        rcases hcase with ⟨h0, _⟩ | ⟨b, arr, e, _, rfl, _⟩
        · rw [hlen] at h0; omega
        · exact ⟨_, cc, by rw [e1, hlen]⟩
      split at ed
      · rename_i t l hc
        obtain ⟨rfl, rfl⟩ := run_ret ed
        exact ⟨rfl, key (by rw [hc]; rfl) rfl⟩
      · rename_i t l hc
        obtain ⟨rfl, rfl⟩ := run_ret ed
        exact ⟨rfl, key (by rw [hc]; rfl) rfl⟩
      · cases ed
    obtain ⟨rfl, p, c, e1⟩ := hh
    have e2 : a.eval y = .slice none 0 0 := v2
    exact eqR_sound ho r ec (by rw [e1]; exact run_eqGuard (by simp) (by simp)) (by rw [e1, e2]; exact run_equal_nil hu _ _ _) (fun q hq => by rw [e1, e2]; rcases hq with rfl | rfl <;> rfl)
  · obtain ⟨_, st1, h1, ea⟩ := run_some e
    obtain ⟨hd, rfl⟩ := run_guard h1
    obtain ⟨el, hu⟩ := slDesc_some hd
    have e1 : a.eval x = .slice none 0 0 := v1
    have e2 : a.eval y = .slice none 0 0 := v2
    exact eqR_sound ho r ea (by rw [e1]; exact run_eqGuard (by simp) (by simp)) (by rw [e1, e2]; exact run_equal_nils hu) (fun q hq => by rw [e1, e2]; rcases hq with rfl | rfl <;> rfl)
  · obtain ⟨ty, st1, h1, ea⟩ := run_some e
    obtain ⟨hty, rfl⟩ := run_lift h1
    obtain ⟨_, st2, h2, eb⟩ := run_some ea
    obtain ⟨hd, rfl⟩ := run_guard h2
    simp only [Bool.and_eq_true, Bool.not_eq_true'] at hd
    obtain ⟨p, st3, h3, ec⟩ := run_some eb
    obtain ⟨q, st4, h4, ed⟩ := run_some ec
    obtain ⟨ra, sa, ka⟩ := toEl_sound r h3
    obtain ⟨rb, sb, kb⟩ := toEl_sound ra h4
    obtain ⟨ca, c1, e1⟩ := ka _ v1
    obtain ⟨cb, c2, e2⟩ := kb _ (v2.mono sa)
    have c1' := Cells.mono sb.size sb.same sb.sub c1
    have hq := cmp_sound (d := 10000) hd.1.2 (by omega) p q ca cb c1' c2
    have g1 : toV ty ca = .agg ca.toArray := by unfold toV; rw [hd.1.1]; rfl
    have g2 : toV ty cb = .agg cb.toArray := by unfold toV; rw [hd.1.1]; rfl
    have hgd : (eqGuard op t x y (a.eval x) (a.eval y)).run E.P w = .ok () w := by
      rw [e1, e2, g1, g2]
      unfold eqGuard
      cases op <;> first | rfl | simp [run_program, hd.2]
    obtain ⟨rfl, c, rfl, hx⟩ := eqR_core ho ed hgd (by rw [e1, e2]; exact hq) (fun q hq => by rw [e1, e2, g1, g2]; rcases hq with rfl | rfl <;> rfl)
    exact ⟨_, B, w, .inl hx, rb, sa.trans sb, Tr.refl _ _, VR.ofBool _⟩

theorem binOp_sound {o : Oper} {op : BinOp} {t t' : TypeId} {x y : Operand} (ho : o.op = .binOp op t x y t') (r : Rel Z B st a.tmps w) {v : AV} (e : run (opP E o) st = some (v, st')) : Did E Z B st a w o v st' := by
  unfold opP at e
  simp only [ho] at e
  obtain ⟨u1, st1, h1, ea⟩ := run_some e
  obtain ⟨u2, st2, h2, eb⟩ := run_some ea
  clear e ea
  obtain ⟨rfl, v1⟩ := opd_sound r h1
  obtain ⟨rfl, v2⟩ := opd_sound r h2
  clear h1 h2
  unfold binP at eb
  cases hs : isShift op with
  | true =>
    simp only [hs] at eb
    obtain ⟨⟨k, p⟩, st3, h3, ec⟩ := run_some eb
    obtain ⟨rfl, rfl⟩ := asI_some h3
    obtain ⟨⟨k', q⟩, st4, h4, ed⟩ := run_some ec
    obtain ⟨rfl, rfl⟩ := asI_some h4
    clear eb ec h3 h4
    have e1 := v1.int
    have e2 := v2.int
    have hg : (eqGuard op t x y (a.eval x) (a.eval y)).run E.P w = .ok () w := by rw [e1]; exact run_eqGuard (by simp) (by simp)
    cases op <;> simp only [isShift, Bool.false_eq_true] at hs <;> simp only at ed
    case shl =>
      obtain ⟨n, st5, h5, ee⟩ := run_some ed
      obtain ⟨h6, rfl⟩ := run_ask h5
      obtain ⟨rfl, rfl⟩ := run_pure ee
      unfold shlI at h6
      split at h6
      · cases h6
      · rename_i hq
        cases h6
        exact .pure r (exec_binOp ho hg (by rw [e1, e2]; simp only [binOp, Op.shift, hq, if_false]; rfl)) (VR.ofInt _ _)
    case shr =>
      obtain ⟨n, st5, h5, ee⟩ := run_some ed
      obtain ⟨h6, rfl⟩ := run_ask h5
      obtain ⟨rfl, rfl⟩ := run_pure ee
      unfold shrI at h6
      split at h6
      · cases h6
      · rename_i hq
        cases h6
        exact .pure r (exec_binOp ho hg (by rw [e1, e2]; simp only [binOp, Op.shift, hq, if_false]; rfl)) (VR.ofInt _ _)
  | false =>
    simp only [hs] at eb
    split at eb
    · rename_i k p l q
      have e1 := v1.int
      have e2 := v2.int
      split at eb
      · rename_i hk
        have hk := of_decide_eq_true hk
        subst hk
        obtain ⟨rfl, val, hb, hv⟩ := binInt_sound (E := E) (w := w) (B := B) eb hs
        exact .pure r (exec_binOp ho (by rw [e1]; exact run_eqGuard (by simp) (by simp)) (by rw [e1, e2, binOp_type]; exact hb)) (hv _)
      · cases eb
    · rename_i p q
      have e1 := v1.bool
      have e2 := v2.bool
      split at eb
      · rename_i hu
        obtain ⟨rfl, rfl⟩ := run_ret eb
        exact .pure r (exec_binOp ho (by rw [e1]; exact run_eqGuard (by simp) (by simp)) (by rw [e1, e2]; exact run_eql (run_equal_bool hu _ _))) (VR.ofBool _)
      · rename_i hu
        obtain ⟨rfl, rfl⟩ := run_ret eb
        exact .pure r (exec_binOp ho (by rw [e1]; exact run_eqGuard (by simp) (by simp)) (by rw [e1, e2]; exact run_neq (run_equal_bool hu _ _))) (VR.ofBool _)
      · cases eb
    · rename_i h g k i
      obtain ⟨c, st3, h3, ec⟩ := run_some eb
      obtain ⟨rfl, _, rfl⟩ := run_home h3
      obtain ⟨b, hb, e1⟩ := v1.2 rfl
      have e2 : a.eval y = .pointer none := v2
      split at ec
      · rename_i hu
        obtain ⟨rfl, rfl⟩ := run_ret ec
        exact .pure r (exec_binOp ho (by rw [e1]; exact run_eqGuard (by simp) (by simp)) (by rw [e1, e2]; exact run_eql (run_equal_ptr hu _))) (VR.ofBool _)
      · rename_i hu
        obtain ⟨rfl, rfl⟩ := run_ret ec
        exact .pure r (exec_binOp ho (by rw [e1]; exact run_eqGuard (by simp) (by simp)) (by rw [e1, e2]; exact run_neq (run_equal_ptr hu _))) (VR.ofBool _)
      · cases ec
    · rename_i p q
      have e1 := v1.str
      have e2 := v2.str
      split at eb
      · obtain ⟨rfl, rfl⟩ := run_ret eb
        exact .pure r (exec_binOp ho (by rw [e1]; exact run_eqGuard (by simp) (by simp)) (by rw [e1, e2]; rfl)) (VR.ofBool _)
      · obtain ⟨rfl, rfl⟩ := run_ret eb
        exact .pure r (exec_binOp ho (by rw [e1]; exact run_eqGuard (by simp) (by simp)) (by rw [e1, e2]; rfl)) (VR.ofBool _)
      · cases eb
    · exact eqP_sound ho r hs v1 v2 eb
end
end Go.Pv
