/- The pure reading's state and the model's: what a step of either leaves standing. -/
import Derived.Test.YtcdobfeeabhkeaaPvD
set_option autoImplicit false
set_option linter.unusedVariables false
set_option linter.unusedSimpArgs false
namespace Go.Pv

theorem look_cons {β : Type} (d : β) (k k' : Nat) (b : β) (r : List (Nat × β)) : look d k ((k', b) :: r) = if k' = k then b else look d k r := by
  simp only [look]
  by_cases h : k' = k
  · subst h; simp
  · have : Nat.beq k' k = false := by cases hb : Nat.beq k' k with | false => rfl | true => exact absurd (Nat.eq_of_beq_eq_true hb) h
    simp [this, h]

theorem get_set (st : St) (d : Nat) (v : AV) (t : Nat) : (st.set d v).get t = if d = t then v else st.get t := look_cons _ _ _ _ _
theorem gen_set (st : St) (d : Nat) (v : AV) (h : Nat) : (st.set d v).gen h = st.gen h := rfl
theorem cont_set (st : St) (d : Nat) (v : AV) (h : Nat) : (st.set d v).cont h = st.cont h := rfl
theorem get_seth (st : St) (h g : Nat) (c : AV) (t : Nat) : (st.seth h g c).get t = st.get t := rfl
theorem gen_seth (st : St) (h g : Nat) (c : AV) (k : Nat) : (st.seth h g c).gen k = if h = k then g else st.gen k := by
  unfold St.gen St.seth; rw [look_cons]; split <;> rfl
theorem cont_seth (st : St) (h g : Nat) (c : AV) (k : Nat) : (st.seth h g c).cont k = if h = k then c else st.cont k := by
  unfold St.cont St.seth; rw [look_cons]; split <;> rfl

/-- a mark that was given anew -/
def Up (a b : Nat) : Prop := a = b ∨ a + 2 ≤ b
theorem Up.refl (a : Nat) : Up a a := .inl rfl
theorem Up.le {a b : Nat} (h : Up a b) : a ≤ b := by unfold Up at h; omega
theorem Up.trans {a b c : Nat} (h : Up a b) (g : Up b c) : Up a c := by unfold Up at *; omega
theorem Up.one {a b : Nat} (h : Up a b) (e : b = 1) : a = 1 := by unfold Up at h; omega

structure Stay (w w' : World) (O O' : Nat → Prop) (B B' : Nat → Option Nat) (st st' : St) : Prop where
  size : w.heap.size ≤ w'.heap.size
  same : ∀ b, b < w.heap.size → ¬ O b → w'.heap[b]? = w.heap[b]?
  sub : ∀ b, b < w.heap.size → O' b → O b
  gen : ∀ h, Up (st.gen h) (st'.gen h)
  hk : ∀ h, st'.gen h = st.gen h → B' h = B h ∧ ∀ t l, asList (st'.cont h) = some ⟨t, l⟩ → ∃ l0, asList (st.cont h) = some ⟨t, l0⟩ ∧ l.length = l0.length
  rows : ∀ (b : Nat) (arr : Array Value) (e : TypeId), w.heap[b]? = some (Obj.cells arr e (0, 0)) → ∃ arr' : Array Value, w'.heap[b]? = some (Obj.cells arr' e (0, 0)) ∧ arr'.size = arr.size

section
variable {w w' : World} {O O' : Nat → Prop} {B B' : Nat → Option Nat} {st st' : St}

theorem Header.mono (s : Stay w w' O O' B B' st st') {bo : Option Nat} {sz off len : Nat} {v : Value} (h : Header w bo sz off len v) : Header w' bo sz off len v := by
  obtain ⟨a, c, e, hl, h⟩ := h
  refine ⟨a, c, e, hl, ?_⟩
  rcases h with h | ⟨b, arr, ty, hb, ha, hh, hc⟩
  · exact .inl h
  · obtain ⟨arr', h1, h2⟩ := s.rows b arr ty hh
    exact .inr ⟨b, arr', ty, hb, ha, h1, by omega⟩

theorem V1.mono (s : Stay w w' O O' B B' st st') : ∀ {a : AV} {v : Value}, V1 w O B st a v → V1 w' O' B' st' a v := by
  intro a v h
  cases a with
  | val t x => obtain ⟨cs, h1, h2⟩ := h; exact ⟨cs, h1.mono s.size s.same s.sub, h2⟩
  | lref hh g sl =>
    obtain ⟨h1, h2⟩ := h
    have hg := (s.gen hh).le
    refine ⟨Nat.le_trans h1 hg, fun e t l hl => ?_⟩
    have e' : st'.gen hh = st.gen hh := by omega
    obtain ⟨hB, hc⟩ := s.hk hh e'
    obtain ⟨l0, hl0, hlen⟩ := hc t l hl
    obtain ⟨g1, g2⟩ := h2 (by omega) t l0 hl0
    rw [hB, hlen]
    exact ⟨g1, g2.mono s⟩
  | ptr hh g k i =>
    obtain ⟨h1, h2⟩ := h
    have hg := (s.gen hh).le
    refine ⟨Nat.le_trans h1 hg, fun e => ?_⟩
    have e' : st'.gen hh = st.gen hh := by omega
    rw [(s.hk hh e').1]
    exact h2 (by omega)
  | eptr t x k =>
    obtain ⟨b, o, cs, e, hO, hb, hl, hc⟩ := h
    exact ⟨b, o, cs, e, fun h => hO (s.sub b hb h), Nat.lt_of_lt_of_le hb s.size, hl.mono (s.same b hb hO), hc.mono s.size s.same s.sub⟩
  | fnp f hh g =>
    obtain ⟨h1, h2⟩ := h
    have hg := (s.gen hh).le
    refine ⟨Nat.le_trans h1 hg, fun e => ?_⟩
    have e' : st'.gen hh = st.gen hh := by omega
    rw [(s.hk hh e').1]
    exact h2 (by omega)
  | mref hh g =>
    obtain ⟨h1, h2⟩ := h
    have hg := (s.gen hh).le
    refine ⟨Nat.le_trans h1 hg, fun e => ?_⟩
    have e' : st'.gen hh = st.gen hh := by omega
    rw [(s.hk hh e').1]
    exact h2 (by omega)
  | undef => trivial
  | nils => exact h
  | nilp => exact h
  | agg fs => exact h
  | own t l => exact h
  | box fs => exact h
  | tup vs => exact h
  | mp t l => exact h

theorem F1.mono (s : Stay w w' O O' B B' st st') {a : AV} {cs : List Value} (h : F1 w O B st a cs) : F1 w' O' B' st' a cs := by
  cases a <;> first
    | exact Cells.mono s.size s.same s.sub h
    | (obtain ⟨v, e, ho, h1⟩ := h; exact ⟨v, e, ho, V1.mono s h1⟩)

theorem Fs.mono (s : Stay w w' O O' B B' st st') {fs : List AV} {cs : List Value} (h : Fs w O B st fs cs) : Fs w' O' B' st' fs cs :=
  Row.mono (fun _ _ h => F1.mono s h) h

theorem All2.mono {R R' : AV → Value → Prop} (h : ∀ a v, R a v → R' a v) : ∀ {as : List AV} {vs : List Value}, All2 R as vs → All2 R' as vs
  | [], [], _ => trivial
  | a :: as, v :: vs, ⟨h1, h2⟩ => ⟨h a v h1, All2.mono h h2⟩
  | [], _ :: _, h => h.elim
  | _ :: _, [], h => h.elim

theorem VR.mono (s : Stay w w' O O' B B' st st') {a : AV} {v : Value} (h : VR w O B st a v) : VR w' O' B' st' a v := by
  cases a with
  | agg fs => obtain ⟨arr, e, h1⟩ := h; exact ⟨arr, e, h1.mono s⟩
  | tup vs => obtain ⟨arr, e, h1⟩ := h; exact ⟨arr, e, h1.mono fun _ _ h => V1.mono s h⟩
  | undef => trivial
  | val t x => exact V1.mono (a := .val t x) s h
  | nils => exact V1.mono (a := .nils) s h
  | lref a b c => exact V1.mono (a := .lref a b c) s h
  | ptr a b c d => exact V1.mono (a := .ptr a b c d) s h
  | eptr t x k => exact V1.mono (a := .eptr t x k) s h
  | nilp => exact V1.mono (a := .nilp) s h
  | own t l => exact V1.mono (a := .own t l) (v := v) s h
  | box fs => exact V1.mono (a := .box fs) (v := v) s h
  | fnp a b c => exact V1.mono (a := .fnp a b c) s h
  | mref a b => exact V1.mono (a := .mref a b) s h
  | mp t l => exact V1.mono (a := .mp t l) (v := v) s h

theorem Blk.mono (s : Stay w w' O O' B B' st st') {bo : Option Nat} {t : Ty} {l : List (El t)} (hb : ∀ b, bo = some b → w'.heap[b]? = w.heap[b]?) (h : Blk w O bo t l) : Blk w' O' bo t l := by
  rcases h with h | ⟨b, arr, e, cs, rest, h1, h2, h3, h4⟩
  · exact .inl h
  · exact .inr ⟨b, arr, e, cs, rest, h1, by rw [hb b h1]; exact h2, h3, h4.mono fun _ _ h => h.mono s.size s.same s.sub⟩

theorem MBlk.mono (s : Stay w w' O O' B B' st st') {b : Nat} {t : Ty} {l : List (Int × El t)} (hb : w'.heap[b]? = w.heap[b]?) (h : MBlk w O b t l) : MBlk w' O' b t l := by
  obtain ⟨es, c, h1, h2⟩ := h
  exact ⟨es, c, by rw [hb]; exact h1, h2.mono fun _ _ h => h.mono s.size s.same s.sub⟩

theorem HR.mono (s : Stay w w' O O' B B' st st') {bo : Option Nat} {c : AV} (hb : ∀ b, bo = some b → w'.heap[b]? = w.heap[b]?) (h : HR w O B st bo c) : HR w' O' B' st' bo c := by
  cases c with
  | own t l => exact Blk.mono s hb h
  | box fs => obtain ⟨b, arr, e, h1, h2, h3⟩ := h; exact ⟨b, arr, e, h1, by rw [hb b h1]; exact h2, h3.mono s⟩
  | mp t l => obtain ⟨b, h1, h2⟩ := h; exact ⟨b, h1, h2.mono s (hb b h1)⟩
  | val t x =>
    cases t with
    | slice t =>
      obtain ⟨h1, h2⟩ := h
      refine ⟨Blk.mono s hb h1, fun b e hO => h2 b e (s.sub b ?_ hO)⟩
      rcases h1 with h1 | ⟨b', arr, ty, cs, rest, g1, g2, _⟩
      · rw [e] at h1; exact absurd h1.1 (by simp)
      · rw [e] at g1; cases g1; exact lt_of_get g2
    | _ => trivial
  | _ => trivial
end

theorem Rel.step {Z Z' : Nat → Prop} {B B' : Nat → Option Nat} {st st' : St} {tm tm' : Array Value} {w w' : World} (r : Rel Z B st tm w)
    (s : Stay w w' (Owned Z B st) (Owned Z' B' st') B B' st st')
    (hh : ∀ h, (st'.cont h = st.cont h ∧ B' h = B h ∧ ∀ b, B h = some b → w'.heap[b]? = w.heap[b]?) ∨ HR w' (Owned Z' B' st') B' st' (B' h) (st'.cont h))
    (inj : ∀ h h' b, live (st'.cont h) = true → live (st'.cont h') = true → B' h = some b → B' h' = some b → h = h')
    (ext : ∀ h b, live (st'.cont h) = true → B' h = some b → ¬ Z' b)
    (hv : ∀ t, (st'.get t = st.get t ∧ tm'.getD t undef = tm.getD t undef) ∨ VR w' (Owned Z' B' st') B' st' (st'.get t) (tm'.getD t undef)) : Rel Z' B' st' tm' w' := by
  refine ⟨inj, ext, fun h => ?_, fun t => ?_⟩
  · rcases hh h with ⟨h1, h2, h3⟩ | h1
    · rw [h1, h2]; exact (r.hr h).mono s h3
    · exact h1
  · rcases hv t with ⟨h1, h2⟩ | h1
    · rw [h1, h2]; exact (r.vr t).mono s
    · exact h1

theorem getD_set (tm : Array Value) (d : Nat) (v : Value) (h : d < tm.size) (t : Nat) : (tm.setIfInBounds d v).getD t undef = if d = t then v else tm.getD t undef := by
  simp only [Array.getD_eq_getD_getElem?, Array.getElem?_setIfInBounds]
  split
  · simp [h]
  · rfl

section
variable {Z : Nat → Prop} {B : Nat → Option Nat} {st : St} {tm : Array Value} {w : World}

/-- nothing has changed but a slot -/
theorem Rel.set (r : Rel Z B st tm w) {d : Nat} (hd : d < tm.size) {a : AV} {v : Value} (h : VR w (Owned Z B st) B st a v) : Rel Z B (st.set d a) (tm.setIfInBounds d v) w := by
  refine r.step (Z' := Z) (B' := B) (st' := st.set d a) ⟨Nat.le_refl _, fun _ _ _ => rfl, fun _ _ h => h, fun _ => .refl _, fun h _ => ⟨rfl, fun t l hl => ⟨l, hl, rfl⟩⟩, fun b arr e h => ⟨arr, h, rfl⟩⟩
    (fun h => .inl ⟨rfl, rfl, fun _ _ => rfl⟩) r.inj r.ext fun t => ?_
  rw [get_set, getD_set _ _ _ hd]
  by_cases e : d = t
  · right; simp only [e, if_true]
    exact VR.mono (st' := st.set d a) ⟨Nat.le_refl _, fun _ _ _ => rfl, fun _ _ h => h, fun _ => .refl _, fun h _ => ⟨rfl, fun t l hl => ⟨l, hl, rfl⟩⟩, fun b arr e h => ⟨arr, h, rfl⟩⟩ h
  · left; simp [e]

/-- a slot of which the reading says nothing more -/
theorem Rel.drop (r : Rel Z B st tm w) (d : Nat) : Rel Z B (st.set d .undef) tm w := by
  refine r.step (Z' := Z) (B' := B) (st' := st.set d .undef) ⟨Nat.le_refl _, fun _ _ _ => rfl, fun _ _ h => h, fun _ => .refl _, fun h _ => ⟨rfl, fun t l hl => ⟨l, hl, rfl⟩⟩, fun b arr e h => ⟨arr, h, rfl⟩⟩
    (fun h => .inl ⟨rfl, rfl, fun _ _ => rfl⟩) r.inj r.ext fun t => ?_
  rw [get_set]
  by_cases e : d = t
  · right; simp only [e, if_true]; trivial
  · left; simp [e]

/-- a slot whose reading changes, and its value doesn't -/
theorem Rel.retell (r : Rel Z B st tm w) {d : Nat} {a : AV} (h : VR w (Owned Z B st) B st a (tm.getD d undef)) : Rel Z B (st.set d a) tm w := by
  refine r.step (Z' := Z) (B' := B) (st' := st.set d a) ⟨Nat.le_refl _, fun _ _ _ => rfl, fun _ _ h => h, fun _ => .refl _, fun h _ => ⟨rfl, fun t l hl => ⟨l, hl, rfl⟩⟩, fun b arr e h => ⟨arr, h, rfl⟩⟩
    (fun h => .inl ⟨rfl, rfl, fun _ _ => rfl⟩) r.inj r.ext fun t => ?_
  rw [get_set]
  by_cases e : d = t
  · right; subst e; simp only [if_true]
    exact VR.mono (st' := st.set d a) ⟨Nat.le_refl _, fun _ _ _ => rfl, fun _ _ h => h, fun _ => .refl _, fun h _ => ⟨rfl, fun t l hl => ⟨l, hl, rfl⟩⟩, fun b arr e h => ⟨arr, h, rfl⟩⟩ h
  · left; simp [e]

/-- the world has more blocks, and those that were are as they were -/
theorem Stay.grow {Z : Nat → Prop} {B : Nat → Option Nat} {st : St} {w w' : World} (t : Tr (fun _ => False) w w') : Stay w w' (Owned Z B st) (Owned Z B st) B B st st :=
  ⟨t.size, fun b hb _ => t.same b hb (fun h => h), fun _ _ h => h, fun _ => .refl _, fun h _ => ⟨rfl, fun t l hl => ⟨l, hl, rfl⟩⟩, fun b arr e h => t.row h⟩

theorem Rel.blk (r : Rel Z B st tm w) {h b : Nat} (hb : B h = some b) (hl : asList (st.cont h) ≠ none ∨ live (st.cont h) = true) : b < w.heap.size := by
  have hr := r.hr h
  rw [hb] at hr
  generalize st.cont h = c at hr hl
  cases c with
  | own t l =>
    rcases hr with hr | ⟨b', arr, e, cs, rest, h1, h2, _⟩
    · cases hr.1
    · cases h1; exact lt_of_get h2
  | box fs => obtain ⟨b', arr, e, h1, h2, _⟩ := hr; cases h1; exact lt_of_get h2
  | mp t l => obtain ⟨b', h1, es, c, h2, _⟩ := hr; cases h1; exact lt_of_get h2
  | val t x =>
    cases t with
    | slice t =>
      rcases hr.1 with hr | ⟨b', arr, e, cs, rest, h1, h2, _⟩
      · cases hr.1
      · cases h1; exact lt_of_get h2
    | _ => simp [asList, live] at hl
  | _ => simp [asList, live] at hl

theorem Rel.grow (r : Rel Z B st tm w) {w' : World} (t : Tr (fun _ => False) w w') : Rel Z B st tm w' := by
  refine r.step (Z' := Z) (B' := B) (st' := st) (Stay.grow t) (fun h => ?_) r.inj r.ext fun t => .inl ⟨rfl, rfl⟩
  by_cases hl : asList (st.cont h) ≠ none ∨ live (st.cont h) = true
  · exact .inl ⟨rfl, rfl, fun b hb => t.same b (r.blk hb hl) (fun h => h)⟩
  · right
    generalize st.cont h = c at hl
    cases c with
    | own t l => simp [asList] at hl
    | box fs => simp [live] at hl
    | mp t l => simp [live] at hl
    | val t x => cases t <;> first | trivial | simp [asList] at hl
    | _ => trivial

def upd (B : Nat → Option Nat) (h : Nat) (bo : Option Nat) : Nat → Option Nat := fun k => if h = k then bo else B k

/-- what is held outside comes into a home -/
theorem Rel.attach {bo : Option Nat} (r : Rel (fun x => Z x ∨ bo = some x) B st tm w) (h g : Nat) {c : AV} (hg : st.gen h + 2 ≤ g ∨ (st.gen h = g ∧ bo = B h ∧ asList c = none)) (hZ : ∀ b, bo = some b → ¬ Z b) (hl : live c = true)
    (hc : HR w (Owned (fun x => Z x ∨ bo = some x) B st) B st bo c) :
    Rel Z (upd B h bo) (st.seth h g c) tm w ∧ Stay w w (Owned (fun x => Z x ∨ bo = some x) B st) (Owned Z (upd B h bo) (st.seth h g c)) B (upd B h bo) st (st.seth h g c) := by
  have s : Stay w w (Owned (fun x => Z x ∨ bo = some x) B st) (Owned Z (upd B h bo) (st.seth h g c)) B (upd B h bo) st (st.seth h g c) := by
    refine ⟨Nat.le_refl _, fun _ _ _ => rfl, fun b hb hO => ?_, fun k => ?_, fun k e => ?_, fun b arr e h => ⟨arr, h, rfl⟩⟩
    · rcases hO with hO | ⟨k, h1, h2⟩
      · exact .inl (.inl hO)
      · rw [cont_seth] at h1
        unfold upd at h2
        by_cases e : h = k
        · simp only [e, if_true] at h2; exact .inl (.inr h2)
        · simp only [e, if_false] at h1 h2; exact .inr ⟨k, h1, h2⟩
    · rw [gen_seth]; split
      · rename_i e; subst e; exact hg.elim .inr fun h => .inl h.1
      · exact .refl _
    · rw [gen_seth] at e
      by_cases e' : h = k
      · simp only [e', if_true] at e; subst e'
        rcases hg with hg | ⟨_, h1, h2⟩
        · omega
        · refine ⟨by simp only [upd, if_true]; exact h1, fun t l hl => ?_⟩
          rw [cont_seth, if_pos rfl, h2] at hl; cases hl
      · simp only [upd, e', if_false, cont_seth]; exact ⟨trivial, fun t l hl => ⟨l, hl, rfl⟩⟩
  refine ⟨r.step s (fun k => ?_) (fun k k' b h1 h2 h3 h4 => ?_) (fun k b h1 h2 => ?_) fun t => .inl ⟨rfl, rfl⟩, s⟩
  · by_cases e : h = k
    · right
      subst e
      simp only [cont_seth, upd, if_true]
      exact hc.mono s fun _ _ => rfl
    · left; rw [cont_seth, if_neg e]; exact ⟨rfl, if_neg e, fun _ _ => rfl⟩
  · rw [cont_seth] at h1 h2
    unfold upd at h3 h4
    by_cases e : h = k <;> by_cases e' : h = k'
    · omega
    · rw [if_pos e] at h1 h3; rw [if_neg e'] at h2 h4
      exact absurd (.inr h3) (r.ext k' b h2 h4)
    · rw [if_neg e] at h1 h3; rw [if_pos e'] at h2 h4
      exact absurd (.inr h4) (r.ext k b h1 h3)
    · rw [if_neg e] at h1 h3; rw [if_neg e'] at h2 h4
      exact r.inj k k' b h1 h2 h3 h4
  · rw [cont_seth] at h1
    unfold upd at h2
    by_cases e : h = k
    · simp only [e, if_true] at h2; exact hZ b h2
    · simp only [e, if_false] at h1 h2
      exact fun hz => r.ext k b h1 h2 (.inl hz)

/-- what lies in a home is held outside -/
theorem Rel.detach (r : Rel Z B st tm w) (h g : Nat) (hg : Up (st.gen h) g) (hl : live (st.cont h) = true) :
    Rel (fun x => Z x ∨ B h = some x) B (st.seth h g .undef) tm w ∧ Stay w w (Owned Z B st) (Owned (fun x => Z x ∨ B h = some x) B (st.seth h g .undef)) B B st (st.seth h g .undef) := by
  have s : Stay w w (Owned Z B st) (Owned (fun x => Z x ∨ B h = some x) B (st.seth h g .undef)) B B st (st.seth h g .undef) := by
    refine ⟨Nat.le_refl _, fun _ _ _ => rfl, fun b hb hO => ?_, fun k => ?_, fun k e => ⟨rfl, fun t l hl => ?_⟩, fun b arr e h => ⟨arr, h, rfl⟩⟩
    · rcases hO with (hO | hO) | ⟨k, h1, h2⟩
      · exact .inl hO
      · exact .inr ⟨h, hl, hO⟩
      · rw [cont_seth] at h1
        by_cases e : h = k
        · simp [e, live] at h1
        · simp only [e, if_false] at h1; exact .inr ⟨k, h1, h2⟩
    · rw [gen_seth]; split
      · rename_i e; subst e; exact hg
      · exact .refl _
    · rw [cont_seth] at hl
      by_cases e : h = k
      · simp [e, asList] at hl
      · simp only [e, if_false] at hl; exact ⟨l, hl, rfl⟩
  refine ⟨r.step s (fun k => ?_) (fun k k' b h1 h2 h3 h4 => ?_) (fun k b h1 h2 => ?_) fun t => .inl ⟨rfl, rfl⟩, s⟩
  · by_cases e : h = k
    · right; simp only [cont_seth, e, if_true]; trivial
    · left; rw [cont_seth, if_neg e]; exact ⟨rfl, rfl, fun _ _ => rfl⟩
  · rw [cont_seth] at h1 h2
    by_cases e : h = k
    · simp [e, live] at h1
    · by_cases e' : h = k'
      · simp [e', live] at h2
      · simp only [e, e', if_false] at h1 h2; exact r.inj k k' b h1 h2 h3 h4
  · rw [cont_seth] at h1
    by_cases e : h = k
    · simp [e, live] at h1
    · simp only [e, if_false] at h1
      rintro (hz | hz)
      · exact r.ext k b h1 h2 hz
      · exact e (r.inj h k b hl h1 hz h2)

/-- what lies in a home isn't written any more -/
theorem Rel.frozen (r : Rel Z B st tm w) (h : Nat) {t : Ty} {l : List (El t)} (hl : st.cont h = .own t l) :
    Rel Z B (st.seth h (st.gen h) (.val (.slice t) l)) tm w ∧ Stay w w (Owned Z B st) (Owned Z B (st.seth h (st.gen h) (.val (.slice t) l))) B B st (st.seth h (st.gen h) (.val (.slice t) l)) := by
  have s : Stay w w (Owned Z B st) (Owned Z B (st.seth h (st.gen h) (.val (.slice t) l))) B B st (st.seth h (st.gen h) (.val (.slice t) l)) := by
    refine ⟨Nat.le_refl _, fun _ _ _ => rfl, fun b hb hO => ?_, fun k => ?_, fun k e => ⟨rfl, fun t' l' hl' => ?_⟩, fun b arr e h => ⟨arr, h, rfl⟩⟩
    · rcases hO with hO | ⟨k, h1, h2⟩
      · exact .inl hO
      · rw [cont_seth] at h1
        by_cases e : h = k
        · simp [e, live] at h1
        · simp only [e, if_false] at h1; exact .inr ⟨k, h1, h2⟩
    · rw [gen_seth]; split
      · rename_i e; subst e; exact .refl _
      · exact .refl _
    · rw [cont_seth] at hl'
      by_cases e : h = k
      · subst e
        simp only [if_true, asList] at hl'
        rw [hl]; exact ⟨l', by simpa [asList] using hl', rfl⟩
      · simp only [e, if_false] at hl'; exact ⟨l', hl', rfl⟩
  refine ⟨r.step s (fun k => ?_) (fun k k' b h1 h2 h3 h4 => ?_) (fun k b h1 h2 => ?_) fun t => .inl ⟨rfl, rfl⟩, s⟩
  · by_cases e : h = k
    · right; subst e
      simp only [cont_seth, if_true]
      have hr := r.hr h
      rw [hl] at hr
      refine ⟨Blk.mono s (fun _ _ => rfl) hr, fun b hb hO => ?_⟩
      rcases hO with hO | ⟨k, h1, h2⟩
      · exact r.ext h b (by rw [hl]; rfl) hb hO
      · rw [cont_seth] at h1
        by_cases e : h = k
        · simp [e, live] at h1
        · simp only [e, if_false] at h1
          exact e (r.inj h k b (by rw [hl]; rfl) h1 hb h2)
    · left; rw [cont_seth, if_neg e]; exact ⟨rfl, rfl, fun _ _ => rfl⟩
  · rw [cont_seth] at h1 h2
    by_cases e : h = k
    · simp [e, live] at h1
    · by_cases e' : h = k'
      · simp [e', live] at h2
      · simp only [e, e', if_false] at h1 h2; exact r.inj k k' b h1 h2 h3 h4
  · rw [cont_seth] at h1
    by_cases e : h = k
    · simp [e, live] at h1
    · simp only [e, if_false] at h1
      exact r.ext k b h1 h2

/-- what lies in a home is written -/
theorem Rel.write (r : Rel Z B st tm w) {w' : World} {h b : Nat} (hb : B h = some b) (hl : live (st.cont h) = true) (t : Tr (fun x => x = b) w w') {c : AV} (hc : live c = true)
    (hlen : ∀ t l, asList c = some ⟨t, l⟩ → ∃ l0, asList (st.cont h) = some ⟨t, l0⟩ ∧ l.length = l0.length)
    (hn : Stay w w' (Owned Z B st) (Owned Z B (st.seth h (st.gen h) c)) B B st (st.seth h (st.gen h) c) → HR w' (Owned Z B (st.seth h (st.gen h) c)) B (st.seth h (st.gen h) c) (some b) c) :
    Rel Z B (st.seth h (st.gen h) c) tm w' ∧ Stay w w' (Owned Z B st) (Owned Z B (st.seth h (st.gen h) c)) B B st (st.seth h (st.gen h) c) := by
  have s : Stay w w' (Owned Z B st) (Owned Z B (st.seth h (st.gen h) c)) B B st (st.seth h (st.gen h) c) := by
    refine ⟨t.size, fun x hx hO => t.same x hx fun e => hO (.inr ⟨h, hl, by rw [hb, e]⟩), fun x hx hO => ?_, fun k => ?_, fun k e => ⟨rfl, fun t' l' hl' => ?_⟩, fun b arr e h => t.row h⟩
    · rcases hO with hO | ⟨k, h1, h2⟩
      · exact .inl hO
      · rw [cont_seth] at h1
        by_cases e : h = k
        · subst e; exact .inr ⟨h, hl, h2⟩
        · simp only [e, if_false] at h1; exact .inr ⟨k, h1, h2⟩
    · rw [gen_seth]; split
      · rename_i e; subst e; exact .refl _
      · exact .refl _
    · rw [cont_seth] at hl'
      by_cases e : h = k
      · subst e; simp only [if_true] at hl'; exact hlen t' l' hl'
      · simp only [e, if_false] at hl'; exact ⟨l', hl', rfl⟩
  have hlv : ∀ k, live ((st.seth h (st.gen h) c).cont k) = true → live (st.cont k) = true := fun k h1 => by
    rw [cont_seth] at h1
    by_cases e : h = k
    · subst e; exact hl
    · simpa only [e, if_false] using h1
  refine ⟨r.step s (fun k => ?_) (fun k k' x h1 h2 h3 h4 => r.inj k k' x (hlv k h1) (hlv k' h2) h3 h4) (fun k x h1 h2 => r.ext k x (hlv k h1) h2) fun t => .inl ⟨rfl, rfl⟩, s⟩
  by_cases e : h = k
  · right; subst e; simp only [cont_seth, if_true]; rw [hb]; exact hn s
  · rw [cont_seth, if_neg e]
    by_cases hk : asList (st.cont k) ≠ none ∨ live (st.cont k) = true
    · left
      refine ⟨rfl, rfl, fun x hx => t.same x (r.blk hx hk) fun ex => ?_⟩
      subst ex
      by_cases hlk : live (st.cont k) = true
      · exact e (r.inj h k x hl hlk hb hx)
      · have hr := r.hr k
        generalize st.cont k = ck at hk hlk hr
        cases ck with
        | own t l => exact hlk rfl
        | box fs => exact hlk rfl
        | mp t l => exact hlk rfl
        | val t' x' =>
          cases t' with
          | slice t' => exact hr.2 x hx (.inr ⟨h, hl, hb⟩)
          | _ => simp [asList, live] at hk
        | _ => simp [asList, live] at hk
    · right
      generalize st.cont k = ck at hk
      cases ck with
      | own t l => simp [asList] at hk
      | box fs => simp [live] at hk
      | mp t l => simp [live] at hk
      | val t x => cases t <;> first | trivial | simp [asList] at hk
      | _ => trivial
end
end Go.Pv
