/- The operations that read memory. -/
import Derived.Test.YtcdobfeeabhkeaaPvJ
set_option autoImplicit false
set_option linter.unusedVariables false
set_option linter.unusedSimpArgs false
namespace Go.Pv

section
variable {E : Env} {Z : Nat → Prop} {B : Nat → Option Nat} {st st' : St} {a : Act} {w : World}

theorem tyOf_leaf {P : Program} {t : TypeId} {ty : Ty} (h : isLeafTy ty = true) : ty.isAgg = false ∨ ∃ n u, ty = .arr n u := by
  cases ty <;> simp [isLeafTy] at h <;> first | exact .inl rfl | exact .inr ⟨_, _, rfl⟩

theorem toV_append_agg {ty : Ty} (h : ty.isAgg = true) (cs : List Value) : toV ty cs = .agg cs.toArray := by unfold toV; rw [h]; rfl

theorem Cells.single {O : Nat → Prop} {t : Ty} {x : El t} {cs : List Value} (h : Cells w O t x cs) (ha : t.isAgg = false) : ∃ v, cs = [v] := by
  have hl := h.len
  cases t <;> simp [Ty.isAgg] at ha <;> exact List.length_eq_one_iff.1 hl

theorem Lies.part {b o : Nat} {c1 d c2 : List Value} (h : Lies w b o (c1 ++ d ++ c2)) : Lies w b (o + c1.length) d := by
  intro j v hv
  have hj : j < d.length := by
    rcases Nat.lt_or_ge j d.length with h1 | h1
    · exact h1
    · rw [List.getElem?_eq_none h1] at hv; cases hv
  have := h (c1.length + j) v (by rw [List.append_assoc, List.getElem?_append_right (by omega), List.getElem?_append_left (by omega)]; simpa using hv)
  rw [Nat.add_assoc]; exact this

/-- an element of a row in a block -/
theorem row_at {O : Nat → Prop} {b : Nat} {arr : Array Value} {e : TypeId} {t : Ty} {l : List (El t)} {c0 cs rest : List Value} (hh : w.heap[b]? = some (.cells arr e (0, 0))) (ha : arr.toList = c0 ++ cs ++ rest) (hr : Row (Cells w O t) l cs)
    {i : Nat} {x : El t} (hx : l[i]? = some x) {j : Nat} {u : Ty} {y : El u} (hp : partEl t x j u = some y) : ∃ d, Cells w O u y d ∧ Lies w b (c0.length + i * t.size + j) d := by
  obtain ⟨c1, d, c2, e1, hd, hl, _, _⟩ := hr.get (fun _ _ h => h.len) hx
  obtain ⟨d1, d', d2, e2, hl2, hc⟩ := partEl_sound hp hd
  refine ⟨d', hc, ?_⟩
  have := Lies.of_heap (c1 := c0 ++ c1 ++ d1) (d := d') (c2 := d2 ++ c2 ++ rest) hh (by rw [ha, e1, e2]; simp)
  rw [List.length_append, List.length_append, hl, hl2] at this
  exact this

theorem loadP_sound (r : Rel Z B st a.tmps w) {t : TypeId} {ty : Ty} (ht : tyOf E.P t = some ty) {p v : AV} {pv : Value} (hp : VR w (Owned Z B st) B st p pv) (e : run (loadP ty p) st = some (v, st')) :
    st' = st ∧ ∃ val, (Instr.loadAt t pv).run E.P w = .ok val w ∧ VR w (Owned Z B st) B st v val := by
  have key : ∀ (b o : Nat) (cs : List Value), pv = .pointer (some ⟨b, o, none⟩) → Lies w b o cs → cs.length = ty.size → (ty.isAgg = false → ∃ v, cs = [v]) → (Instr.loadAt t pv).run E.P w = .ok (toV ty cs) w := by
    rintro b o cs rfl h1 h2 h3
    simp only [Instr.loadAt, Instr.sureAddr, pure_bind]
    exact run_loadVar ht h1 h2 h3
  have keyEl : ∀ (b o : Nat) (y : El ty) (cs : List Value), pv = .pointer (some ⟨b, o, none⟩) → Cells w (Owned Z B st) ty y cs → Lies w b o cs → ∃ val, (Instr.loadAt t pv).run E.P w = .ok val w ∧ VR w (Owned Z B st) B st (.val ty y) val := by
    intro b o y cs e1 hc hl
    exact ⟨_, key b o cs e1 hl hc.len fun h => hc.single h, cs, hc, rfl⟩
  cases p with
  | ptr h g k i =>
    cases i with
    | none =>
      obtain ⟨c, st1, h1, ea⟩ := run_some e
      obtain ⟨rfl, rfl, rfl⟩ := run_home h1
      obtain ⟨b, hb, rfl⟩ := hp.2 rfl
      have hr := r.hr h
      generalize st1.cont h = c at ea hr
      cases c with
      | box fs =>
        obtain ⟨b', arr, ety, hb', hh, hf⟩ := hr
        rw [hb] at hb'; cases hb'
        obtain ⟨q, st2, h2, eb⟩ := run_some ea
        obtain ⟨hq, rfl⟩ := run_lift h2
        obtain ⟨c1, c2, e1, hk, hq'⟩ := dropAt_sound hq hf
        cases hlf : isLeafTy ty with
        | true =>
          simp only [hlf] at eb
          cases q with
          | nil => cases eb
          | cons f q =>
            obtain ⟨_, st3, h3, ec⟩ := run_some eb
            obtain ⟨hfit, rfl⟩ := run_guard h3
            obtain ⟨rfl, rfl⟩ := run_pure ec
            obtain ⟨d, d2, rfl, hd, _⟩ := hq'
            obtain ⟨g1, g2, g3⟩ := fits_leaf hfit hlf hd
            have hl := Lies.of_heap (c1 := c1) (d := d) (c2 := d2) hh (by rw [e1]; simp)
            rw [hk] at hl
            exact ⟨rfl, _, key b k d rfl hl g2 g3, g1⟩
        | false =>
          simp only [hlf] at eb
          obtain ⟨s, st3, h3, ec⟩ := run_some eb
          obtain ⟨hs, rfl⟩ := run_lift h3
          obtain ⟨_, st4, h4, ed⟩ := run_some ec
          obtain ⟨hfit, rfl⟩ := run_guard h4
          obtain ⟨rfl, rfl⟩ := run_pure ed
          obtain ⟨d, d2, rr, _, rfl, hd, hs', _⟩ := takeAt_sound hs hq'
          have hl := Lies.of_heap (c1 := c1) (d := d) (c2 := d2) hh (by rw [e1]; simp)
          rw [hk] at hl
          have hagg : ty.isAgg = true := by cases ty <;> simp [isLeafTy] at hlf <;> rfl
          refine ⟨rfl, _, key b k d rfl hl hd (by rw [hagg]; simp), ?_⟩
          rw [toV_append_agg hagg]
          exact ⟨_, rfl, hs'⟩
      | _ => cases ea
    | some ij =>
      obtain ⟨esz, i, j⟩ := ij
      obtain ⟨c, st1, h1, ea⟩ := run_some e
      obtain ⟨rfl, rfl, rfl⟩ := run_home h1
      obtain ⟨b, hb, rfl⟩ := hp.2 rfl
      have hr := r.hr h
      generalize st1.cont h = c at ea hr
      have kblk : ∀ (t' : Ty) (l : List (El t')), Blk w (Owned Z B st1) (B h) t' l → run (do
            guardB (Nat.beq k 0 && Nat.beq esz t'.size)
            let x ← ask (idx l i)
            let y ← lift (partEl t' x j ty)
            pure (AV.val ty y)) st1 = some (v, st') → st' = st1 ∧ ∃ val, (Instr.loadAt t (.pointer (some ⟨b, poff k (some (esz, i, j)), none⟩))).run E.P w = .ok val w ∧ VR w (Owned Z B st1) B st1 v val := by
        intro t' l hbk eb
        obtain ⟨_, st2, h2, ec⟩ := run_some eb
        obtain ⟨hg, rfl⟩ := run_guard h2
        obtain ⟨x, st3, h3, ed⟩ := run_some ec
        obtain ⟨hx, rfl⟩ := run_ask h3
        obtain ⟨y, st4, h4, ee⟩ := run_some ed
        obtain ⟨hy, rfl⟩ := run_lift h4
        obtain ⟨rfl, rfl⟩ := run_pure ee
        rw [Bool.and_eq_true] at hg
        have hk := Nat.eq_of_beq_eq_true hg.1
        have hs := Nat.eq_of_beq_eq_true hg.2
        subst hk; subst hs
        obtain ⟨_, hx', _⟩ := idx_some hx
        rcases hbk with ⟨hn, rfl⟩ | ⟨b', arr, ety, cs, rest, m1, m2, m3, m4⟩
        · cases hx'
        · rw [hb] at m1; cases m1
          obtain ⟨d, hd, hl⟩ := row_at (c0 := []) m2 (by simpa using m3) m4 hx' hy
          exact ⟨rfl, keyEl b (poff 0 (some (t'.size, i, j))) y d rfl hd (by simpa [poff] using hl)⟩
      cases c with
      | own t' l => exact kblk t' l hr ea
      | val t' l =>
        cases t' with
        | slice t' => exact kblk t' l hr.1 ea
        | _ => cases ea
      | box fs =>
        obtain ⟨b', arr, ety, hb', hh, hf⟩ := hr
        rw [hb] at hb'; cases hb'
        obtain ⟨q, st2, h2, eb⟩ := run_some ea
        obtain ⟨hq, rfl⟩ := run_lift h2
        obtain ⟨c1, c2, e1, hk, hq'⟩ := dropAt_sound hq hf
        cases q with
        | nil => cases eb
        | cons f q =>
          cases f with
          | val s l =>
            cases s with
            | arr n t' =>
              obtain ⟨_, st3, h3, ec⟩ := run_some eb
              obtain ⟨hs, rfl⟩ := run_guard h3
              have hs := Nat.eq_of_beq_eq_true hs
              subst hs
              obtain ⟨x, st4, h4, ed⟩ := run_some ec
              obtain ⟨hx, rfl⟩ := run_ask h4
              obtain ⟨y, st5, h5, ee⟩ := run_some ed
              obtain ⟨hy, rfl⟩ := run_lift h5
              obtain ⟨rfl, rfl⟩ := run_pure ee
              obtain ⟨_, hx', _⟩ := idx_some hx
              obtain ⟨d, d2, rfl, ⟨hn, hd⟩, _⟩ := hq'
              obtain ⟨d', hd', hl⟩ := row_at (c0 := c1) (rest := d2) hh (by rw [e1]; simp) hd hx' hy
              rw [hk] at hl
              exact ⟨rfl, keyEl b (poff k (some (t'.size, i, j))) y d' rfl hd' hl⟩
            | _ => cases eb
          | _ => cases eb
      | _ => cases ea
  | eptr t' x k =>
    obtain ⟨y, st1, h1, ea⟩ := run_some e
    obtain ⟨hy, rfl⟩ := run_lift h1
    obtain ⟨rfl, rfl⟩ := run_pure ea
    obtain ⟨b, o, cs, rfl, _, _, hl, hc⟩ := hp
    obtain ⟨c1, d, c2, rfl, hk, hd⟩ := partEl_sound hy hc
    have := hl.part
    rw [hk] at this
    exact ⟨rfl, keyEl b _ y d rfl hd this⟩
  | _ => cases e

theorem load_sound {o : Oper} {t : TypeId} {x : Operand} (ho : o.op = .load t x) (r : Rel Z B st a.tmps w) {v : AV} (e : run (opP E o) st = some (v, st')) : Did E Z B st a w o v st' := by
  unfold opP at e
  simp only [ho] at e
  obtain ⟨p, st1, h1, ea⟩ := run_some e
  obtain ⟨rfl, v1⟩ := opd_sound r h1
  obtain ⟨ty, st2, h2, eb⟩ := run_some ea
  obtain ⟨ht, rfl⟩ := run_lift h2
  obtain ⟨rfl, val, hv, hr⟩ := loadP_sound r ht v1 eb
  exact .pure r (by unfold execOp; simp only [ho, Sem.run_bind, hv, Result.andThen_ok, Sem.run_pure]) hr

theorem run_fieldPlace {b o : Nat} {f : Field} {i : TypeInfo} (hi : E.P.info? f.type = some i) (h0 : i.size ≠ 0) : (fieldPlace ⟨b, o, none⟩ f).run E.P w = .ok ⟨b, o + f.offset, none⟩ w := by
  unfold fieldPlace
  simp [sizeOf, typeInfo, hi, h0, Addr.add_lit]

theorem fieldAddr_sound {o : Oper} {t : TypeId} {x : Operand} {f : Nat} (ho : o.op = .fieldAddr t x f) (r : Rel Z B st a.tmps w) {v : AV} (e : run (opP E o) st = some (v, st')) : Did E Z B st a w o v st' := by
  unfold opP at e
  simp only [ho] at e
  obtain ⟨p, st1, h1, ea⟩ := run_some e
  obtain ⟨rfl, v1⟩ := opd_sound r h1
  unfold fieldAddrP at ea
  split at ea
  · rename_i fs hu
    split at ea
    · rename_i fd hfd
      split at ea
      · rename_i i hi
        split at ea
        · cases ea
        · rename_i h0
          have h0 : i.size ≠ 0 := fun h => by rw [h] at h0; cases h0
          have hx : ∀ b off, a.eval x = .pointer (some ⟨b, off, none⟩) → (execOp a.eval o).run E.P w = .ok (.value (.pointer (some ⟨b, off + fd.offset, none⟩))) w := fun b off hv => by
            unfold execOp
            simp only [ho, hv, Instr.fieldAt, Instr.sureAddr, pure_bind, Sem.run_bind, run_underlying hu, Result.andThen_ok, hfd, run_fieldPlace hi h0, Sem.run_pure]
          split at ea
          · rename_i h g k
            obtain ⟨c, st2, h2, eb⟩ := run_some ea
            obtain ⟨rfl, _, rfl⟩ := run_home h2
            obtain ⟨rfl, rfl⟩ := run_pure eb
            obtain ⟨g1, g2⟩ := v1
            obtain ⟨b, hb, e1⟩ := g2 rfl
            exact .pure r (hx _ _ e1) ⟨g1, fun _ => ⟨b, hb, rfl⟩⟩
          · rename_i h g k e' i' j
            obtain ⟨c, st2, h2, eb⟩ := run_some ea
            obtain ⟨rfl, _, rfl⟩ := run_home h2
            obtain ⟨rfl, rfl⟩ := run_pure eb
            obtain ⟨g1, g2⟩ := v1
            obtain ⟨b, hb, e1⟩ := g2 rfl
            exact .pure r (hx _ _ e1) ⟨g1, fun _ => ⟨b, hb, by simp [poff, Nat.add_assoc]⟩⟩
          · obtain ⟨rfl, rfl⟩ := run_ret ea
            obtain ⟨b, o, cs, e1, hO, hb, hl, hc⟩ := v1
            exact .pure r (hx _ _ e1) ⟨b, o, cs, by rw [Nat.add_assoc], hO, hb, hl, hc⟩
          · cases ea
      · cases ea
    · cases ea
  · cases ea

theorem run_asIntOf (k : IntKind) (n : Int) : (asIntOf (.int k n)).run E.P w = .ok (k, n) w := rfl

theorem inb_some {i : Int} {n : Nat} {u : Unit} (h : inb i n = some u) : 0 ≤ i ∧ i < n := by
  unfold inb at h
  split at h
  · assumption
  · cases h

theorem run_indexAt_slice {t e : TypeId} {u : Ty} (hu : E.P.underlying t = some (.slice e)) (hs : tyOf E.P e = some u) {b off len cap : Nat} {k : IntKind} {i : Int} (h0 : 0 ≤ i) (h1 : i < len) :
    (Instr.indexAt t (.slice (some ⟨b, off, none⟩) len cap) (.int k i)).run E.P w = .ok (.pointer (some ⟨b, off + i.toNat * u.size, none⟩)) w := by
  unfold Instr.indexAt
  simp [run_asIntOf, run_underlying hu, run_sizeOf hs, h0, h1, Addr.add_lit]

theorem run_indexAt_array {t e : TypeId} {u : Ty} {n : Nat} (hu : E.P.underlying t = some (.array n e)) (hs : tyOf E.P e = some u) {b off : Nat} {k : IntKind} {i : Int} (h0 : 0 ≤ i) (h1 : i < n) :
    (Instr.indexAt t (.pointer (some ⟨b, off, none⟩)) (.int k i)).run E.P w = .ok (.pointer (some ⟨b, off + i.toNat * u.size, none⟩)) w := by
  unfold Instr.indexAt
  simp [run_asIntOf, run_underlying hu, run_sizeOf hs, h0, h1, Addr.add_lit, Instr.sureAddr]

theorem indexAddr_sound {o : Oper} {t : TypeId} {x i : Operand} (ho : o.op = .indexAddr t x i) (r : Rel Z B st a.tmps w) {v : AV} (e : run (opP E o) st = some (v, st')) : Did E Z B st a w o v st' := by
  unfold opP at e
  simp only [ho] at e
  obtain ⟨p, st1, h1, ea⟩ := run_some e
  obtain ⟨rfl, v1⟩ := opd_sound r h1
  obtain ⟨q, st2, h2, eb⟩ := run_some ea
  obtain ⟨rfl, v2⟩ := opd_sound r h2
  obtain ⟨⟨k, n⟩, st3, h3, ec⟩ := run_some eb
  obtain ⟨rfl, rfl⟩ := asI_some h3
  have e2 := v2.int
  have hx : ∀ val, (Instr.indexAt t (a.eval x) (.int k n)).run E.P w = .ok val w → (execOp a.eval o).run E.P w = .ok (.value val) w := fun val h => by
    unfold execOp
    simp only [ho, e2, h, Sem.run_bind, Result.andThen_ok, Sem.run_pure]
  simp only at ec
  split at ec
  · rename_i ety hu
    obtain ⟨u, st4, h4, ed⟩ := run_some ec
    obtain ⟨hs, rfl⟩ := run_lift h4
    split at ed
    · rename_i s l
      obtain ⟨l', st5, h5, ee⟩ := run_some ed
      obtain ⟨hcst, rfl⟩ := run_lift h5
      obtain ⟨y, st6, h6, ef⟩ := run_some ee
      obtain ⟨hy, rfl⟩ := run_ask h6
      obtain ⟨rfl, rfl⟩ := run_pure ef
      obtain ⟨e1, h7⟩ := castEl_some hcst
      subst e1; subst h7
      obtain ⟨h0, hy', hlt⟩ := idx_some hy
      obtain ⟨cs, ⟨aa, c, rfl, hc, hl⟩, e3⟩ := v1
      rcases hl with hl | ⟨b, off, ds, rfl, hO, hb, hli, hr⟩
      · have hl' : (l : List (El u)) = [] := hl
        rw [hl'] at hy'; cases hy'
      · have e3 : a.eval x = .slice (some ⟨b, off, none⟩) (List.length l) c := e3
        obtain ⟨c1, d, c2, e4, hd, hlen, _, _⟩ := hr.get (fun _ _ h => h.len) hy'
        rw [e4] at hli
        have hlp := hli.part
        refine .pure r (hx _ (by rw [e3]; exact run_indexAt_slice hu hs h0 (by have : n.toNat < List.length l := hlt; omega))) ⟨b, off + n.toNat * u.size, d, rfl, hO, hb, ?_, hd⟩
        rw [hlen] at hlp; exact hlp
    · rename_i h g s
      obtain ⟨_, st5, h5, ee⟩ := run_some ed
      obtain ⟨hsz, rfl⟩ := run_guard h5
      obtain ⟨c, st6, h6, ef⟩ := run_some ee
      obtain ⟨rfl, hcc, rfl⟩ := run_home h6
      have key : ∀ (t' : Ty) (l : List (El t')), asList (st6.cont h) = some ⟨t', l⟩ → run (do
            guardB (decide (t' = u))
            ask (inb n (sLen l.length s))
            pure (AV.ptr h (st6.gen h) 0 (some (u.size, addS n s, 0)))) st6 = some (v, st') → Did E Z B st6 a w o v st' := by
        intro t' l hl eg
        obtain ⟨_, st7, h7, eh⟩ := run_some eg
        obtain ⟨ht', rfl⟩ := run_guard h7
        have ht' := of_decide_eq_true ht'
        subst ht'
        obtain ⟨_, st8, h8, ei⟩ := run_some eh
        obtain ⟨hin, rfl⟩ := run_ask h8
        obtain ⟨rfl, rfl⟩ := run_pure ei
        obtain ⟨h0, h9⟩ := inb_some hin
        obtain ⟨_, v1'⟩ := v1
        obtain ⟨hle, aa, cc, e3, hc1, hc2⟩ := v1' rfl t' l hl
        have hn : n < (sLen l.length s : Nat) := h9
        rcases hc2 with ⟨h10, _⟩ | ⟨b, arr, ty, hb, rfl, hh, hcap⟩
        · omega
        · refine .pure r (hx _ (by rw [e3]; exact run_indexAt_slice hu hs h0 hn)) ⟨Nat.le_refl _, fun _ => ⟨b, hb, ?_⟩⟩
          congr 2
          cases s with
          | none => simp [poff, sOff, addS]
          | some p =>
            obtain ⟨o', m⟩ := p
            have : ((o' : Int) + n).toNat = o' + n.toNat := by omega
            simp [poff, sOff, addS, this, Nat.add_mul]
      rw [hcc] at ef
      split at ef
      · rename_i t' l hcc'
        exact key t' l (by rw [hcc']; rfl) ef
      · rename_i t' l hcc'
        exact key t' l (by rw [hcc']; rfl) ef
      · cases ef
    · cases ed
  · rename_i m ety hu
    obtain ⟨u, st4, h4, ed⟩ := run_some ec
    obtain ⟨hs, rfl⟩ := run_lift h4
    split at ed
    · rename_i h g k'
      obtain ⟨c, st5, h5, ee⟩ := run_some ed
      obtain ⟨rfl, _, rfl⟩ := run_home h5
      obtain ⟨_, st6, h6, ef⟩ := run_some ee
      obtain ⟨hin, rfl⟩ := run_ask h6
      obtain ⟨rfl, rfl⟩ := run_pure ef
      obtain ⟨h0, h9⟩ := inb_some hin
      obtain ⟨b, hb, e3⟩ := v1.2 rfl
      exact .pure r (hx _ (by rw [e3]; exact run_indexAt_array hu hs h0 h9)) ⟨Nat.le_refl _, fun _ => ⟨b, hb, by simp [poff]⟩⟩
    · cases ed
  · cases ec

theorem extract_sound {o : Oper} {x : Operand} {i : Nat} (ho : o.op = .extract x i) (r : Rel Z B st a.tmps w) {v : AV} (e : run (opP E o) st = some (v, st')) : Did E Z B st a w o v st' := by
  unfold opP at e
  simp only [ho] at e
  obtain ⟨p, st1, h1, ea⟩ := run_some e
  obtain ⟨rfl, v1⟩ := opd_sound r h1
  cases p with
  | tup vs =>
    obtain ⟨hv, rfl⟩ := run_lift ea
    obtain ⟨arr, e1, hall⟩ := v1
    have : ∀ (vs : List AV) (l : List Value) (i : Nat), All2 (V1 w (Owned Z B st') B st') vs l → vs[i]? = some v → ∃ u, l[i]? = some u ∧ V1 w (Owned Z B st') B st' v u := by
      intro vs
      induction vs with
      | nil => intro l i _ h; cases h
      | cons p ps ih =>
        intro l i h hi
        cases l with
        | nil => exact h.elim
        | cons u us =>
          cases i with
          | zero => cases hi; exact ⟨u, rfl, h.1⟩
          | succ i => exact ih us i h.2 hi
    obtain ⟨u, hu, hvu⟩ := this vs _ i hall hv
    refine .pure r (val := u) ?_ hvu.toVR
    unfold execOp
    rw [Array.getElem?_toList] at hu
    simp [ho, e1, Instr.extract, hu]
  | _ => cases ea

theorem lenP_sound {tm : Array Value} (r : Rel Z B st tm w) {p : AV} {n : Nat} {pv : Value} (hp : VR w (Owned Z B st) B st p pv) (e : run (lenP p) st = some (n, st')) :
    st' = st ∧ ((∃ x c, pv = .slice x n c) ∨ (∃ s, p = .val .str s ∧ pv = .string s ∧ ByteArray.size s = n) ∨ ∃ m u l, p = .val (.arr m u) l ∧ n = m) := by
  cases p with
  | nils => obtain ⟨rfl, rfl⟩ := run_ret e; exact ⟨rfl, .inl ⟨none, 0, hp⟩⟩
  | val t x =>
    cases t with
    | slice t =>
      obtain ⟨rfl, rfl⟩ := run_ret e
      obtain ⟨cs, ⟨aa, c, rfl, _, _⟩, rfl⟩ := hp
      exact ⟨rfl, .inl ⟨aa, c, rfl⟩⟩
    | str => obtain ⟨rfl, rfl⟩ := run_ret e; exact ⟨rfl, .inr (.inl ⟨x, rfl, hp.str, rfl⟩)⟩
    | arr m t => obtain ⟨rfl, rfl⟩ := run_ret e; exact ⟨rfl, .inr (.inr ⟨_, t, x, rfl, rfl⟩)⟩
    | _ => cases e
  | lref h g s =>
    obtain ⟨c, st1, h1, ea⟩ := run_some e
    obtain ⟨rfl, hcc, rfl⟩ := run_home h1
    rw [hcc] at ea
    split at ea
    · rename_i t l hc
      obtain ⟨rfl, rfl⟩ := run_ret ea
      obtain ⟨_, aa, cc, rfl, _⟩ := hp.2 rfl t l (by rw [hc]; rfl)
      exact ⟨rfl, .inl ⟨aa, cc, rfl⟩⟩
    · rename_i t l hc
      obtain ⟨rfl, rfl⟩ := run_ret ea
      obtain ⟨_, aa, cc, rfl, _⟩ := hp.2 rfl t l (by rw [hc]; rfl)
      exact ⟨rfl, .inl ⟨aa, cc, rfl⟩⟩
    · cases ea
  | _ => cases e
end
end Go.Pv
