/- The operations that build, and that write. -/
import Derived.Test.YtcdobfeeabhkeaaPvM
import Derived.Great.BuildSlice
import Derived.Laws.MakeOwn
set_option autoImplicit false
set_option linter.unusedVariables false
set_option linter.unusedSimpArgs false
namespace Go.Pv

section
variable {E : Env} {Z : Nat → Prop} {B : Nat → Option Nat} {st st' : St} {w : World}

theorem opds_sound {a : Act} (r : Rel Z B st a.tmps w) : ∀ {ps : List (Nat × Operand)} {vs : List (Nat × AV)}, run (opds ps) st = some (vs, st') → st' = st ∧ vs.map (·.1) = ps.map (·.1) ∧ All2 (VR w (Owned Z B st) B st) (vs.map (·.2)) (ps.map fun p => a.eval p.2) := by
  intro ps
  induction ps with
  | nil => intro vs e; obtain ⟨rfl, rfl⟩ := run_ret e; exact ⟨rfl, rfl, trivial⟩
  | cons p ps ih =>
    obtain ⟨i, x⟩ := p
    intro vs e
    obtain ⟨v, st1, h1, ea⟩ := run_some e
    obtain ⟨rfl, v1⟩ := opd_sound r h1
    obtain ⟨vs', st2, h2, eb⟩ := run_some ea
    obtain ⟨rfl, rfl⟩ := run_pure eb
    obtain ⟨rfl, g1, g2⟩ := ih h2
    exact ⟨rfl, by simp [g1], v1, g2⟩

theorem opdl_sound {a : Act} (r : Rel Z B st a.tmps w) : ∀ {ps : List Operand} {vs : List AV}, run (opdl ps) st = some (vs, st') → st' = st ∧ All2 (VR w (Owned Z B st) B st) vs (ps.map a.eval) := by
  intro ps
  induction ps with
  | nil => intro vs e; obtain ⟨rfl, rfl⟩ := run_ret e; exact ⟨rfl, trivial⟩
  | cons x ps ih =>
    intro vs e
    obtain ⟨v, st1, h1, ea⟩ := run_some e
    obtain ⟨rfl, v1⟩ := opd_sound r h1
    obtain ⟨vs', st2, h2, eb⟩ := run_some ea
    obtain ⟨rfl, rfl⟩ := run_pure eb
    obtain ⟨rfl, g2⟩ := ih h2
    exact ⟨rfl, v1, g2⟩

/-! ### a row's literal -/
theorem foldl_set (off : Nat) : ∀ (d : List Value) (k : Nat) (cs : Array Value), (((d.zipIdx k).foldl (fun (cs : Array Value) (p : Value × Nat) => cs.setIfInBounds (off + p.2) p.1) cs).toList =
    if off + k + d.length ≤ cs.size then cs.toList.take (off + k) ++ d ++ cs.toList.drop (off + k + d.length) else ((d.zipIdx k).foldl (fun (cs : Array Value) (p : Value × Nat) => cs.setIfInBounds (off + p.2) p.1) cs).toList)
  | [], k, cs => by simp
  | v :: d, k, cs => by
    split
    · rename_i hle
      simp only [List.length_cons] at hle
      rw [List.zipIdx_cons, List.foldl_cons, foldl_set off d (k + 1) (cs.setIfInBounds (off + k) v), if_pos (by simp; omega)]
      have hlt : off + k < cs.toList.length := by simp; omega
      rw [Array.toList_setIfInBounds]
      rw [show off + (k + 1) = off + k + 1 from by omega]
      rw [List.take_set, List.drop_set_of_lt (by omega)]
      rw [List.take_succ_eq_append_getElem hlt, List.set_append_right _ _ (by simp; omega)]
      simp only [List.length_take, Nat.min_eq_left (Nat.le_of_lt hlt), Nat.sub_self, List.set_cons_zero, List.append_assoc, List.singleton_append, List.cons_append, List.nil_append, List.length_cons]
      have hl : cs.toList.length = cs.size := rfl
      simp only [Nat.add_assoc, Nat.add_comm 1]
    · rfl

theorem fill_one {off sz : Nat} {cs : Array Value} {v : Value} {c1 d0 c2 : List Value} (h : cs.toList = c1 ++ d0 ++ c2) (h1 : c1.length = off) (hd : d0.length = v.cells.size) :
    (v.cells.zipIdx.foldl (fun (cs : Array Value) (p : Value × Nat) => cs.setIfInBounds (off + p.2) p.1) cs).toList = c1 ++ v.cells.toList ++ c2 := by
  have hs : off + 0 + v.cells.toList.length ≤ cs.size := by
    have : cs.toList.length = cs.size := rfl
    rw [← this, h]; simp [h1, hd]
  have := foldl_set off v.cells.toList 0 cs
  rw [if_pos hs] at this
  rw [← Array.foldl_toList, Array.toList_zipIdx]
  rw [this, h]
  simp only [Nat.add_zero]
  have e : off + v.cells.toList.length = (c1 ++ d0).length := by simp [hd, h1]
  rw [e, List.drop_left' rfl, List.append_assoc c1 d0 c2, List.take_left' h1]

theorem fill_cons {place : Nat → Option (Nat × Nat)} {cells : Array Value} {i : Nat} {v : Value} {rest : List (Nat × Value)} {off sz : Nat} (hp : place i = some (off, sz)) {c1 d0 c2 : List Value} (h : cells.toList = c1 ++ d0 ++ c2) (h1 : c1.length = off) (hd : d0.length = sz) (hv : v.cells.size = sz) :
    ∃ cells' : Array Value, Instr.fill place cells ((i, v) :: rest) = Instr.fill place cells' rest ∧ cells'.toList = c1 ++ v.cells.toList ++ c2 := by
  refine ⟨_, ?_, fill_one (sz := sz) h h1 (by rw [hd, hv])⟩
  have hs : cells.size = c1.length + d0.length + c2.length := by
    have : cells.toList.length = cells.size := rfl
    rw [← this, h]; simp [Nat.add_assoc]
  rw [Instr.fill, hp]
  simp only
  rw [if_neg]
  simp only [ne_eq, Bool.or_eq_true, decide_eq_true_eq, not_or, Decidable.not_not]
  exact ⟨hv, by omega⟩

theorem sameSizes_len {O : Nat → Prop} : ∀ {a b : List AV} {ca cb : List Value}, sameSizes a b = true → Fs w O B st a ca → Fs w O B st b cb → ca.length = cb.length
  | [], [], _, _, _, ha, hb => by cases ha; cases hb; rfl
  | x :: a, y :: b, _, _, h, ⟨c1, c2, e1, h1, h2⟩, ⟨d1, d2, e2, g1, g2⟩ => by
    simp only [sameSizes, Bool.and_eq_true] at h
    have hs := Nat.eq_of_beq_eq_true h.1
    rw [e1, e2, List.length_append, List.length_append, sameSizes_len h.2 h2 g2, h1.size, g1.size, hs]
  | [], _ :: _, _, _, h, _, _ => by cases h
  | _ :: _, [], _, _, h, _, _ => by cases h

/-- some fields in the place of others -/
theorem replace_fs {O : Nat → Prop} {fs pre new : List AV} {k : Nat} {cs : List Value} (hf : Fs w O B st fs cs) (hp : takeAt k fs = some pre) (hs : sameSizes ((fs.drop pre.length).take new.length) new = true) {ds : List Value} (hd : Fs w O B st new ds) :
    ∃ c1 d0 c2, cs = c1 ++ d0 ++ c2 ∧ c1.length = k ∧ d0.length = ds.length ∧ Fs w O B st pre c1 ∧ Fs w O B st (fs.drop (pre.length + new.length)) c2 := by
  obtain ⟨c1, c2, r, rfl, rfl, hk, h1, h2⟩ := takeAt_sound hp hf
  rw [List.drop_left' rfl] at hs
  have e : r = r.take new.length ++ r.drop new.length := (List.take_append_drop _ _).symm
  rw [e] at h2
  obtain ⟨d0, c3, rfl, g1, g2⟩ := Row.split h2
  refine ⟨c1, d0, c3, by simp, hk, sameSizes_len hs g1 hd, h1, ?_⟩
  rw [← List.drop_drop, List.drop_left' rfl]
  exact g2

theorem fitAll_len {O : Nat → Prop} : ∀ {ts : List Ty} {fs : List AV} {cs : List Value}, fitAll ts fs = true → (∀ t ∈ ts, isLeafTy t = true) → Fs w O B st fs cs → cs.length = (ts.map Ty.size).sum
  | [], [], _, _, _, h => by cases h; rfl
  | t :: ts, f :: fs, _, h, hl, ⟨c1, c2, e, h1, h2⟩ => by
    simp only [fitAll, Bool.and_eq_true] at h
    rw [e, List.length_append, fitAll_len h.2 (fun t ht => hl t (by simp [ht])) h2, (fits_leaf h.1 (hl t (by simp)) h1).2.1]
    simp
  | [], _ :: _, _, h, _, _ => by cases h
  | _ :: _, [], _, h, _, _ => by cases h

theorem leafTys_leaf : ∀ {t u : Ty}, u ∈ leafTys t → isLeafTy u = true := by
  intro t
  induction t with
  | unit => intro u h; cases h
  | pair a b iha ihb => intro u h; exact (List.mem_append.1 h).elim iha ihb
  | _ => intro u h; simp only [leafTys, List.mem_singleton] at h; subst h; rfl

theorem leafTys_size : ∀ (t : Ty), ((leafTys t).map Ty.size).sum = t.size := by
  intro t
  induction t with
  | unit => rfl
  | pair a b iha ihb => simp [leafTys, Ty.size, iha, ihb]
  | _ => simp [leafTys]

theorem fitAll_size {O : Nat → Prop} {ty : Ty} {fs : List AV} {cs : List Value} (h : fitAll (leafTys ty) fs = true) (hf : Fs w O B st fs cs) : cs.length = ty.size := by
  rw [fitAll_len h (fun t ht => leafTys_leaf ht) hf, leafTys_size]

theorem build1_sound {tm : Array Value} (r : Rel Z B st tm w) {fd : Array Field} {place : Nat → Option (Nat × Nat)} (hpl : ∀ i f inf, fd[i]? = some f → E.P.info? f.type = some inf → place i = some (f.offset, inf.size)) :
    ∀ {ps : List (Nat × AV)} {fs fs' : List AV} {vals : List Value} {cells : Array Value}, run (build1 E fd ps fs) st = some (fs', st') → All2 (VR w (Owned Z B st) B st) (ps.map (·.2)) vals → Fs w (Owned Z B st) B st fs cells.toList →
      st' = st ∧ ∃ cells' : Array Value, Instr.fill place cells ((ps.map (·.1)).zip vals) = some cells' ∧ Fs w (Owned Z B st) B st fs' cells'.toList := by
  intro ps
  induction ps with
  | nil => intro fs fs' vals cells e hv hf; obtain ⟨rfl, rfl⟩ := run_ret e; exact ⟨rfl, cells, rfl, hf⟩
  | cons p ps ih =>
    obtain ⟨i, v⟩ := p
    intro fs fs' vals cells e hv hf
    cases vals with
    | nil => exact hv.elim
    | cons val vals =>
    obtain ⟨f, st1, h1, ea⟩ := run_some e
    obtain ⟨hfd, rfl⟩ := run_lift h1
    obtain ⟨ty, st2, h2, eb⟩ := run_some ea
    obtain ⟨hty, rfl⟩ := run_lift h2
    obtain ⟨new, st3, h3, ec⟩ := run_some eb
    obtain ⟨_, st4, h4, ed⟩ := run_some ec
    obtain ⟨hfit, e4⟩ := run_guard h4
    obtain ⟨rfl, hnew⟩ := fieldsOf_sound r hv.1 h3 hfit
    subst e4
    obtain ⟨pre, st5, h5, ee⟩ := run_some ed
    obtain ⟨hpre, rfl⟩ := run_lift h5
    obtain ⟨_, st6, h6, ef⟩ := run_some ee
    obtain ⟨hss, rfl⟩ := run_guard h6
    obtain ⟨c1, d0, c2, hcs, hk, hd0, g1, g2⟩ := replace_fs hf hpre hss hnew
    obtain ⟨_, inf, hinf, hsz⟩ := tyOf_some hty
    have hvs : val.cells.size = ty.size := fitAll_size hfit hnew
    obtain ⟨cells1, k1, k2⟩ := fill_cons (rest := (ps.map (·.1)).zip vals) (v := val) (hpl i f inf hfd hinf) hcs hk (by rw [hd0, hsz]; exact hvs) (by rw [hsz]; exact hvs)
    obtain ⟨rfl, cells', k3, k4⟩ := ih ef hv.2 (cells := cells1) (by rw [k2]; exact Row.append (Row.append g1 hnew) g2)
    exact ⟨rfl, cells', by rw [List.map_cons, List.zip_cons_cons, k1, k3], k4⟩

theorem fillP_sound {tm : Array Value} {u : Ty} : ∀ {ps : List (Nat × AV)} {st st' : St} (r : Rel Z B st tm w) {l l' : List (El u)} {vals : List Value} {cells : Array Value}, run (fillP u ps l) st = some (l', st') → All2 (VR w (Owned Z B st) B st) (ps.map (·.2)) vals → Row (Cells w (Owned Z B st) u) l cells.toList →
      Rel Z B st' tm w ∧ Stay w w (Owned Z B st) (Owned Z B st') B B st st' ∧ l'.length = l.length ∧ ∃ cells' : Array Value, Instr.fill (fun i => some (i * u.size, u.size)) cells ((ps.map (·.1)).zip vals) = some cells' ∧ Row (Cells w (Owned Z B st') u) l' cells'.toList := by
  intro ps
  induction ps with
  | nil => intro st st' r l l' vals cells e hv hf; obtain ⟨rfl, rfl⟩ := run_ret e; exact ⟨r, Stay.refl, rfl, cells, rfl, hf⟩
  | cons p ps ih =>
    obtain ⟨i, v⟩ := p
    intro st st' r l l' vals cells e hv hf
    cases vals with
    | nil => exact hv.elim
    | cons val vals =>
    obtain ⟨_, st0, h0, e0⟩ := run_some e
    obtain ⟨rfl, _, _⟩ := chk1_sound r hv.1 h0
    obtain ⟨x, st1, h1, ea⟩ := run_some e0
    obtain ⟨ra, sa, ka⟩ := toEl_sound r h1
    obtain ⟨_, st2, h2, eb⟩ := run_some ea
    obtain ⟨hi, rfl⟩ := run_guard h2
    rw [Nat.blt_eq] at hi
    obtain ⟨cs, hcs, rfl⟩ := ka val hv.1
    have hf' : Row (Cells w (Owned Z B st2) u) l cells.toList := hf.mono fun _ _ h => h.mono (Nat.le_refl _) sa.same sa.sub
    obtain ⟨c1, d, c2, e1, hd, hl, k1, k2⟩ := hf'.get (fun _ _ h => h.len) (List.getElem?_eq_getElem hi)
    have hsz : (toV u cs).cells.toList = cs := hcs.toV_cells
    have hsz' : (toV u cs).cells.size = u.size := by
      have : (toV u cs).cells.toList.length = (toV u cs).cells.size := rfl
      rw [← this, hsz]; exact hcs.len
    obtain ⟨cells1, m1, m2⟩ := fill_cons (place := fun i => some (i * u.size, u.size)) (rest := (ps.map (·.1)).zip vals) (v := toV u cs) rfl e1 hl hd.len hsz'
    obtain ⟨rb, sb, hlen, cells', m3, m4⟩ := ih ra eb (hv.2.mono fun _ _ h => h.mono sa) (cells := cells1) (by rw [m2, hsz]; exact Row.set hi k1 hcs k2)
    exact ⟨rb, sa.trans sb, by rw [hlen]; simp, cells', by rw [List.map_cons, List.zip_cons_cons, m1, m3], m4⟩

theorem zip_map_opds {a : Act} {ps : List (Nat × Operand)} {vs : List (Nat × AV)} (h : vs.map (·.1) = ps.map (·.1)) : (vs.map (·.1)).zip (ps.map fun p => a.eval p.2) = ps.map fun p => (p.1, a.eval p.2) := by
  rw [h]
  exact List.zip_map'

theorem build_sound {a : Act} {o : Oper} {t : TypeId} {ps : Array (Nat × Operand)} (ho : o.op = .build t ps) (r : Rel Z B st a.tmps w) {v : AV} (e : run (opP E o) st = some (v, st')) : Did E Z B st a w o v st' := by
  unfold opP at e
  simp only [ho] at e
  obtain ⟨vs, st1, h1, ea⟩ := run_some e
  obtain ⟨rfl, hn, hall⟩ := opds_sound r h1
  unfold buildP at ea
  obtain ⟨ty, st2, h2, eb⟩ := run_some ea
  obtain ⟨ht, rfl⟩ := run_lift h2
  obtain ⟨_, st3, h3, ec⟩ := run_some eb
  obtain ⟨hz, rfl⟩ := run_guard h3
  obtain ⟨i, z, hi, hzr, hcs, hnf⟩ := zeroOk_some hz
  have hx : ∀ cells, E.P.built t (ps.toList.map fun p => (p.1, a.eval p.2)) = some cells → (execOp a.eval o).run E.P w = .ok (.value (.agg cells)) w := fun cells hb => by
    have := run_build (P := E.P) w t (ps.map fun (i, x) => (i, a.eval x)) cells (by rw [← hb]; simp)
    unfold execOp
    simp only [ho, Sem.run_bind, this, Result.andThen_ok, Sem.run_pure]
  split at ec
  · rename_i fd hu
    obtain ⟨_, st4, h4, ed⟩ := run_some ec
    obtain ⟨hinf, rfl⟩ := run_guard h4
    obtain ⟨fs, st5, h5, ee⟩ := run_some ed
    have hpl : ∃ places : List (Nat × Nat), fd.toList.mapM (fun f => (E.P.info? f.type).map fun i => (f.offset, i.size)) = some places ∧ ∀ (i : Nat) (f : Field) (inf : TypeInfo), fd[i]? = some f → E.P.info? f.type = some inf → places.toArray[i]? = some (f.offset, inf.size) := by
      have : ∀ (l : List Field), l.all (fun f => (E.P.info? f.type).isSome) = true → ∃ places : List (Nat × Nat), l.mapM (fun f => (E.P.info? f.type).map fun i => (f.offset, i.size)) = some places ∧ ∀ (i : Nat) (f : Field) (inf : TypeInfo), l[i]? = some f → E.P.info? f.type = some inf → places[i]? = some (f.offset, inf.size) := by
        intro l
        induction l with
        | nil => intro _; exact ⟨[], rfl, fun i f inf h => by cases h⟩
        | cons g l ih =>
          intro h
          simp only [List.all_cons, Bool.and_eq_true] at h
          obtain ⟨pl, e1, e2⟩ := ih h.2
          obtain ⟨inf0, hinf0⟩ := Option.isSome_iff_exists.1 h.1
          refine ⟨(g.offset, inf0.size) :: pl, by simp [List.mapM_cons, hinf0, e1], fun i f inf hf hi => ?_⟩
          cases i with
          | zero => cases hf; rw [hinf0] at hi; cases hi; rfl
          | succ i => exact e2 i f inf hf hi
      obtain ⟨pl, e1, e2⟩ := this fd.toList hinf
      exact ⟨pl, e1, fun i f inf hf hi => by rw [List.getElem?_toArray]; exact e2 i f inf (by rw [Array.getElem?_toList]; exact hf) hi⟩
    obtain ⟨places, hp1, hp2⟩ := hpl
    obtain ⟨rfl, cells', k1, k2⟩ := build1_sound r hp2 h5 hall (cells := z.cells) (by rw [hcs]; exact zero_fs hnf)
    obtain ⟨_, st6, h6, ef⟩ := run_some ee
    obtain ⟨_, rfl⟩ := run_guard h6
    obtain ⟨rfl, rfl⟩ := run_pure ef
    rw [zip_map_opds hn] at k1
    exact .pure r (hx cells' (by simp only [Program.built, hi, hu, hzr, hp1]; exact k1)) ⟨cells', rfl, k2⟩
  · rename_i n ety hu
    obtain ⟨u, st4, h4, ed⟩ := run_some ec
    obtain ⟨hs, rfl⟩ := run_lift h4
    obtain ⟨_, st5, h5, ee⟩ := run_some ed
    obtain ⟨hty, rfl⟩ := run_guard h5
    have hty := of_decide_eq_true hty
    subst hty
    obtain ⟨l, st6, h6, ef⟩ := run_some ee
    obtain ⟨rfl, rfl⟩ := run_pure ef
    obtain ⟨_, ie, hie, hsz⟩ := tyOf_some hs
    obtain ⟨ra, sa, hlen, cells', k1, k2⟩ := fillP_sound r h6 hall (cells := z.cells) (by rw [hcs]; exact Row.replicate (zero_cells (t := u) hnf) n)
    rw [zip_map_opds hn] at k1
    refine ⟨_, B, w, .inl (hx cells' (by simp only [Program.built, hi, hu, hzr, hie, hsz]; exact k1)), ra, sa, Tr.refl _ _, cells'.toList, ⟨by rw [hlen]; simp, k2⟩, ?_⟩
    simp [toV, Ty.isAgg]
  · cases ec

theorem made_cells (z : Array Value) : ∀ n : Nat, ((Array.range (n * z.size)).map (z[· % z.size]!)).toList = (List.replicate n z.toList).flatten := by
  intro n
  simp only [Array.toList_map, Array.toList_range]
  induction n with
  | zero => simp
  | succ n ih =>
    rw [Nat.succ_mul, List.range_add, List.map_append, ih, List.replicate_succ', List.flatten_append]
    congr 1
    simp only [List.flatten_singleton, List.map_map]
    apply List.ext_getElem?
    intro j
    rw [List.getElem?_map]
    by_cases hj : j < z.size
    · rw [List.getElem?_range hj, Option.map_some, Array.getElem?_toList, Array.getElem?_eq_getElem hj]
      simp [Nat.mul_add_mod_self_right, Nat.mod_eq_of_lt hj, Nat.add_mod, hj]
    · rw [List.getElem?_eq_none (by simp; omega), List.getElem?_eq_none (by simp; omega)]
      rfl

theorem buildSlice_sound {a : Act} {o : Oper} {t : TypeId} {n : Nat} {ps : Array (Nat × Operand)} (ho : o.op = .buildSlice t n ps) (r : Rel Z B st a.tmps w) (hZ : ∀ b, Z b → b < w.heap.size) {v : AV} (e : run (opP E o) st = some (v, st')) : Did E Z B st a w o v st' := by
  unfold opP at e
  simp only [ho] at e
  split at e
  · rename_i d hd
    split at e
    · rename_i ety hu
      obtain ⟨u, st1, h1, ea⟩ := run_some e
      obtain ⟨hs, rfl⟩ := run_lift h1
      obtain ⟨_, st2, h2, eb⟩ := run_some ea
      obtain ⟨hg, rfl⟩ := run_guard h2
      simp only [Bool.and_eq_true] at hg
      obtain ⟨⟨hu0, hz⟩, hle⟩ := hg
      have hu0 : u.size ≠ 0 := fun h => by rw [h] at hu0; cases hu0
      have hle := Nat.le_of_ble_eq_true hle
      obtain ⟨ie, z, hie, hzr, hcs, hnf⟩ := zeroOk_some hz
      obtain ⟨_, ie', hie', hsz⟩ := tyOf_some hs
      rw [hie] at hie'; cases hie'
      obtain ⟨vs, st3, h3, ec⟩ := run_some eb
      obtain ⟨rfl, hn, hall⟩ := opds_sound r h3
      obtain ⟨l, st4, h4, ed⟩ := run_some ec
      have hzl : z.cells.toList.length = u.size := by rw [hcs]; exact (zero_cells (w := w) (O := fun _ => False) hnf).len
      have hrep : ((Array.range (n * u.size)).map (z.cells[· % z.cells.size]!)).toList = (List.replicate n (zeroCs u)).flatten := by
        have := made_cells z.cells n
        rw [hcs] at this
        rw [← this]
        have hzs : z.cells.size = u.size := by rw [← hzl]; rfl
        rw [hzs]
      obtain ⟨ra, sa, hlen, cells', k1, k2⟩ := fillP_sound r h4 hall (cells := (Array.range (n * u.size)).map (z.cells[· % z.cells.size]!)) (by rw [hrep]; exact Row.replicate (zero_cells hnf) n)
      rw [zip_map_opds hn] at k1
      have hll : l.length = n := by rw [hlen]; simp
      have hp : (w.alloc (.cells cells' ety)).heap = w.heap.push (.cells cells' ety) := rfl
      obtain ⟨rb, sb⟩ := ra.fresh (Tr.push hp) [w.heap.size] (by simp)
      have hcs' : cells'.size = n * u.size := by
        have : cells'.toList.length = cells'.size := rfl
        rw [← this, k2.len fun _ _ h => h.len, hll]
      have hov : OV1 (w.alloc (.cells cells' ety)) (Owned (ZX Z [w.heap.size]) B st4) (.own u l) [.slice (some ⟨w.heap.size, 0, none⟩) n n] [w.heap.size] := by
        refine ⟨_, some w.heap.size, rfl, ⟨_, n, by rw [hll], by omega, .inr ⟨w.heap.size, cells', ety, rfl, by simp, get_push hp, by rw [Nat.zero_add, hcs']; exact Nat.le_refl _⟩⟩, .inr ⟨w.heap.size, cells', ety, cells'.toList, [], rfl, get_push hp, by simp, ?_⟩, rfl⟩
        exact k2.mono fun _ _ h => h.mono sb.size sb.same sb.sub
      obtain ⟨B', rc, sc, vc⟩ := newOwn_sound rb (by simp) (by simpa using fun h => Nat.lt_irrefl _ (hZ _ h)) hov ed
      refine ⟨_, B', _, .inl ?_, rc, (sa.trans sb).trans sc, (Tr.push hp).imp fun _ h => h.elim, vc⟩
      unfold execOp
      by_cases h0 : n = 0
      · subst h0
        have hps : ∀ f : Nat → Value, (Array.range (0 * u.size)).map f = #[] := fun f => by simp
        rw [hps] at k1
        have hps' : ∀ f : Nat → Value, (Array.range 0).map f = #[] := fun f => by simp
        simp [ho, Instr.buildSlice, run_underlying hu, sizeOf, typeInfo, hie, hsz, hps', k1, newRow]
      · have := run_buildSlice (P := E.P) w t ety n (ps.map fun (i, x) => (i, a.eval x)) cells' ie z hu hie hzr (by rw [hsz]; omega) (by rw [hsz]; exact Nat.mul_ne_zero h0 hu0) (by rw [hsz]; rw [← k1]; simp)
        simp only [ho, Sem.run_bind, this, Result.andThen_ok, Sem.run_pure]
    · cases e
  · cases e
end
end Go.Pv
