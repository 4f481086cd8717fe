/- How the pure reading's things stand for the model's memory. -/
import Derived.Test.YtcdobfeeabhkeaaPvC
set_option autoImplicit false
set_option linter.unusedVariables false
namespace Go.Pv

/-- cells that lie in a row -/
def Lies (w : World) (b off : Nat) (cs : List Value) : Prop := ∀ j v, cs[j]? = some v → w.cell? ⟨b, off + j, none⟩ = some v

def Row {α : Type} (R : α → List Value → Prop) : List α → List Value → Prop
  | [], cs => cs = []
  | x :: l, cs => ∃ c1 c2, cs = c1 ++ c2 ∧ R x c1 ∧ Row R l c2

def toV (t : Ty) (cs : List Value) : Value := if t.isAgg then .agg cs.toArray else cs.headD undef

def Cells (w : World) (O : Nat → Prop) : (t : Ty) → El t → List Value → Prop
  | .int k, n, cs => cs = [.int k n]
  | .bool, b, cs => cs = [.bool b]
  | .str, s, cs => cs = [.string s]
  | .slice t, l, cs => ∃ a c, cs = [.slice a (List.length l) c] ∧ List.length l ≤ c ∧
      ((l : List (El t)) = [] ∨ ∃ b off ds, a = some ⟨b, off, none⟩ ∧ ¬ O b ∧ b < w.heap.size ∧ Lies w b off ds ∧ Row (Cells w O t) l ds)
  | .unit, _, cs => cs = []
  | .pair a b, x, cs => ∃ c1 c2, cs = c1 ++ c2 ∧ Cells w O a x.1 c1 ∧ Cells w O b x.2 c2
  | .arr n t, l, cs => List.length l = n ∧ Row (Cells w O t) l cs
  | .fn f a b, x, cs => ∃ fv cv, cs = [.func (.func f) fv cv] ∧ (isU a = true → fv = #[]) ∧ (isU a = false → ∃ ca, Cells w O a x.1 ca ∧ fv = #[toV a ca]) ∧
      (isU b = true → cv = #[]) ∧ (isU b = false → ∃ k off ds, cv = #[.pointer (some ⟨k, off, none⟩)] ∧ ¬ O k ∧ k < w.heap.size ∧ Lies w k off ds ∧ Cells w O b x.2 ds)
  | .map _, l, cs => cs = [.map none] ∧ l = []

def poff (k : Nat) : Option (Nat × Int × Nat) → Nat
  | none => k
  | some (e, i, j) => k + i.toNat * e + j


/-- a slice's header, into a block of one's own -/
def Header (w : World) (bo : Option Nat) (sz off len : Nat) (v : Value) : Prop :=
  ∃ a c, v = .slice a len c ∧ len ≤ c ∧
    ((len = 0 ∧ c = 0) ∨ ∃ b arr e, bo = some b ∧ a = some ⟨b, off * sz, none⟩ ∧ w.heap[b]? = some (.cells arr e (0, 0)) ∧ (off + c) * sz ≤ arr.size)

def asList : AV → Option (Σ t : Ty, List (El t))
  | .own t l => some ⟨t, l⟩
  | .val (.slice t) l => some ⟨t, l⟩
  | _ => none

/-- a slot's plain thing -/
def V1 (w : World) (O : Nat → Prop) (B : Nat → Option Nat) (st : St) : AV → Value → Prop
  | .undef, _ => True
  | .val t x, v => ∃ cs, Cells w O t x cs ∧ v = toV t cs
  | .nils, v => v = .slice none 0 0
  | .nilp, v => v = .pointer none
  | .lref h g s, v => g ≤ st.gen h ∧ (g = st.gen h → ∀ t l, asList (st.cont h) = some ⟨t, l⟩ → sOff s + sLen l.length s ≤ l.length ∧ Header w (B h) t.size (sOff s) (sLen l.length s) v)
  | .ptr h g k i, v => g ≤ st.gen h ∧ (g = st.gen h → ∃ b, B h = some b ∧ v = .pointer (some ⟨b, poff k i, none⟩))
  | .eptr t x k, v => ∃ b o cs, v = .pointer (some ⟨b, o + k, none⟩) ∧ ¬ O b ∧ b < w.heap.size ∧ Lies w b o cs ∧ Cells w O t x cs
  | .fnp f h g, v => g ≤ st.gen h ∧ (g = st.gen h → ∃ b, B h = some b ∧ v = .func (.func f) #[] #[.pointer (some ⟨b, 0, none⟩)])
  | .mref h g, v => g ≤ st.gen h ∧ (g = st.gen h → ∃ b, B h = some b ∧ v = .map (some b))
  | _, _ => False

/-- a leaf of a struct, in its cells -/
def F1 (w : World) (O : Nat → Prop) (B : Nat → Option Nat) (st : St) (a : AV) (cs : List Value) : Prop :=
  match a with
  | .val t x => Cells w O t x cs
  | a => ∃ v, cs = [v] ∧ v.oneCell' = true ∧ V1 w O B st a v

def Fs (w : World) (O : Nat → Prop) (B : Nat → Option Nat) (st : St) : List AV → List Value → Prop := Row (F1 w O B st)

def All2 (R : AV → Value → Prop) : List AV → List Value → Prop
  | [], [] => True
  | a :: as, v :: vs => R a v ∧ All2 R as vs
  | _, _ => False

/-- a slot's thing -/
def VR (w : World) (O : Nat → Prop) (B : Nat → Option Nat) (st : St) : AV → Value → Prop
  | .agg fs, v => ∃ arr : Array Value, v = .agg arr ∧ Fs w O B st fs arr.toList
  | .tup vs, v => ∃ arr : Array Value, v = .tuple arr ∧ All2 (V1 w O B st) vs arr.toList
  | a, v => V1 w O B st a v

def live : AV → Bool
  | .own _ _ | .box _ | .mp _ _ => true
  | _ => false

def Owned (Z : Nat → Prop) (B : Nat → Option Nat) (st : St) (b : Nat) : Prop := Z b ∨ ∃ h, live (st.cont h) = true ∧ B h = some b

/-- a block whose beginning reads as a list -/
def Blk (w : World) (O : Nat → Prop) (bo : Option Nat) (t : Ty) (l : List (El t)) : Prop :=
  (bo = none ∧ l = []) ∨ ∃ b arr e cs rest, bo = some b ∧ w.heap[b]? = some (.cells arr e (0, 0)) ∧ arr.toList = cs ++ rest ∧ Row (Cells w O t) l cs

/-- a map's entries -/
def ME (w : World) (O : Nat → Prop) (t : Ty) : List (Int × El t) → List MapEntry → Prop
  | [], es => es = []
  | p :: l, es => ∃ e r, es = e :: r ∧ e.key = .int .i64 p.1 ∧ (∃ cs, Cells w O t p.2 cs ∧ e.val = toV t cs) ∧ ME w O t l r

/-- a block that is a map -/
def MBlk (w : World) (O : Nat → Prop) (b : Nat) (t : Ty) (l : List (Int × El t)) : Prop :=
  ∃ es c, w.heap[b]? = some (.map es c) ∧ ME w O t l es.toList

/-- a home's content -/
def HR (w : World) (O : Nat → Prop) (B : Nat → Option Nat) (st : St) (bo : Option Nat) : AV → Prop
  | .own t l => Blk w O bo t l
  | .val (.slice t) l => Blk w O bo t l ∧ ∀ b, bo = some b → ¬ O b
  | .box fs => ∃ b arr e, bo = some b ∧ w.heap[b]? = some (.cells arr e (0, 0)) ∧ Fs w O B st fs arr.toList
  | .mp t l => ∃ b, bo = some b ∧ MBlk w O b t l
  | _ => True

structure Rel (Z : Nat → Prop) (B : Nat → Option Nat) (st : St) (tm : Array Value) (w : World) : Prop where
  inj : ∀ h h' b, live (st.cont h) = true → live (st.cont h') = true → B h = some b → B h' = some b → h = h'
  ext : ∀ h b, live (st.cont h) = true → B h = some b → ¬ Z b
  hr : ∀ h, HR w (Owned Z B st) B st (B h) (st.cont h)
  vr : ∀ t, VR w (Owned Z B st) B st (st.get t) (tm.getD t undef)

/-- what a world's step may touch -/
structure Tr (M : Nat → Prop) (w w' : World) : Prop where
  size : w.heap.size ≤ w'.heap.size
  same : ∀ b, b < w.heap.size → ¬ M b → w'.heap[b]? = w.heap[b]?
  env : w'.os = w.os ∧ w'.tape = w.tape ∧ w'.output = w.output
  keep : ∀ b arr e, w.heap[b]? = some (.cells arr e (0, 0)) → M b → ∃ arr', w'.heap[b]? = some (.cells arr' e (0, 0)) ∧ arr'.size = arr.size

theorem Tr.refl (M : Nat → Prop) (w : World) : Tr M w w := ⟨Nat.le_refl _, fun _ _ _ => rfl, ⟨rfl, rfl, rfl⟩, fun b arr e h _ => ⟨arr, h, rfl⟩⟩

theorem lt_of_get {w : World} {b : Nat} {o : Obj} (h : w.heap[b]? = some o) : b < w.heap.size := by
  rcases Nat.lt_or_ge b w.heap.size with h1 | h1
  · exact h1
  · rw [Array.getElem?_eq_none h1] at h; cases h

theorem Tr.row {M : Nat → Prop} {w w' : World} (t : Tr M w w') {b : Nat} {arr : Array Value} {e : TypeId} (h : w.heap[b]? = some (.cells arr e (0, 0))) :
    ∃ arr', w'.heap[b]? = some (.cells arr' e (0, 0)) ∧ arr'.size = arr.size := by
  by_cases hm : M b
  · exact t.keep b arr e h hm
  · exact ⟨arr, by rw [t.same b (lt_of_get h) hm]; exact h, rfl⟩

theorem Tr.trans {M M' N : Nat → Prop} {w w1 w2 : World} (a : Tr M w w1) (b : Tr M' w1 w2) (h1 : ∀ x, M x → N x) (h2 : ∀ x, x < w.heap.size → M' x → N x) : Tr N w w2 := by
  refine ⟨Nat.le_trans a.size b.size, fun x hx hn => ?_, ⟨b.env.1.trans a.env.1, b.env.2.1.trans a.env.2.1, b.env.2.2.trans a.env.2.2⟩, fun x arr e h hn => ?_⟩
  · rw [b.same x (Nat.lt_of_lt_of_le hx a.size) (fun h => hn (h2 x hx h)), a.same x hx (fun h => hn (h1 x h))]
  · obtain ⟨arr1, g1, s1⟩ := a.row h
    obtain ⟨arr2, g2, s2⟩ := b.row g1
    exact ⟨arr2, g2, s2.trans s1⟩

theorem cell_of_heap {w w' : World} {b : Nat} (h : w'.heap[b]? = w.heap[b]?) (o : Nat) : w'.cell? ⟨b, o, none⟩ = w.cell? ⟨b, o, none⟩ := by
  simp only [World.cell?, h]

theorem Lies.mono {w w' : World} {b off : Nat} {cs : List Value} (h : Lies w b off cs) (hb : w'.heap[b]? = w.heap[b]?) : Lies w' b off cs :=
  fun j v hv => by rw [cell_of_heap hb]; exact h j v hv

theorem Row.mono {α : Type} {R R' : α → List Value → Prop} (h : ∀ x cs, R x cs → R' x cs) : ∀ {l : List α} {cs : List Value}, Row R l cs → Row R' l cs
  | [], _, hr => hr
  | x :: l, _, ⟨c1, c2, e, h1, h2⟩ => ⟨c1, c2, e, h x c1 h1, Row.mono h h2⟩

/-- what is left alone still reads as it did -/
theorem Cells.mono {w w' : World} {O O' : Nat → Prop} (hs : w.heap.size ≤ w'.heap.size) (same : ∀ b, b < w.heap.size → ¬ O b → w'.heap[b]? = w.heap[b]?)
    (sub : ∀ b, b < w.heap.size → O' b → O b) : ∀ {t : Ty} {x : El t} {cs : List Value}, Cells w O t x cs → Cells w' O' t x cs := by
  intro t
  induction t with
  | int k => exact fun h => h
  | bool => exact fun h => h
  | str => exact fun h => h
  | unit => exact fun h => h
  | pair a b iha ihb => rintro x cs ⟨c1, c2, e, h1, h2⟩; exact ⟨c1, c2, e, iha h1, ihb h2⟩
  | arr n t ih => rintro l cs ⟨e, h⟩; exact ⟨e, h.mono fun x cs hx => ih hx⟩
  | fn f a b iha ihb =>
    rintro x cs ⟨fv, cv, e, h1, h2, h3, h4⟩
    refine ⟨fv, cv, e, h1, fun hu => ?_, h3, fun hu => ?_⟩
    · obtain ⟨ca, g1, g2⟩ := h2 hu; exact ⟨ca, iha g1, g2⟩
    · obtain ⟨k, off, ds, g1, g2, g3, g4, g5⟩ := h4 hu
      exact ⟨k, off, ds, g1, fun h => g2 (sub k g3 h), Nat.lt_of_lt_of_le g3 hs, g4.mono (same k g3 g2), ihb g5⟩
  | map t ih => exact fun h => h
  | slice t ih =>
    rintro l cs ⟨a, c, e, hc, h⟩
    refine ⟨a, c, e, hc, ?_⟩
    rcases h with h | ⟨b, off, ds, ha, hO, hb, hl, hr⟩
    · exact .inl h
    · exact .inr ⟨b, off, ds, ha, fun h => hO (sub b hb h), Nat.lt_of_lt_of_le hb hs, hl.mono (same b hb hO), hr.mono fun x cs hx => ih hx⟩

theorem Row.len {α : Type} {R : α → List Value → Prop} {k : Nat} (h : ∀ x cs, R x cs → cs.length = k) : ∀ {l : List α} {cs : List Value}, Row R l cs → cs.length = l.length * k
  | [], _, hr => by cases hr; simp
  | x :: l, _, ⟨c1, c2, e, h1, h2⟩ => by
    have := Row.len h h2
    simp [e, h x c1 h1, this, Nat.add_mul, Nat.add_comm]

theorem Cells.len {w : World} {O : Nat → Prop} : ∀ {t : Ty} {x : El t} {cs : List Value}, Cells w O t x cs → cs.length = t.size := by
  intro t
  induction t with
  | int k => intro x cs h; cases h; rfl
  | bool => intro x cs h; cases h; rfl
  | str => intro x cs h; cases h; rfl
  | unit => intro x cs h; cases h; rfl
  | pair a b iha ihb => rintro x cs ⟨c1, c2, e, h1, h2⟩; simp [e, Ty.size, iha h1, ihb h2]
  | arr n t ih => rintro l cs ⟨e, h⟩; rw [h.len fun x cs hx => ih hx, e]; rfl
  | slice t ih => rintro l cs ⟨a, c, e, _⟩; simp [e, Ty.size]
  | fn f a b iha ihb => rintro x cs ⟨fv, cv, e, _⟩; simp [e, Ty.size]
  | map t ih => rintro l cs ⟨e, _⟩; simp [e, Ty.size]

theorem Row.all {α : Type} {R : α → List Value → Prop} {p : Value → Prop} (h : ∀ x cs, R x cs → ∀ v ∈ cs, p v) : ∀ {l : List α} {cs : List Value}, Row R l cs → ∀ v ∈ cs, p v
  | [], _, hr => by cases hr; simp
  | x :: l, _, ⟨c1, c2, e, h1, h2⟩ => by
    intro v hv
    rw [e, List.mem_append] at hv
    exact hv.elim (h x c1 h1 v) (Row.all h h2 v)

theorem Cells.one {w : World} {O : Nat → Prop} : ∀ {t : Ty} {x : El t} {cs : List Value}, Cells w O t x cs → ∀ v ∈ cs, v.oneCell' = true := by
  intro t
  induction t with
  | int k => intro x cs h; cases h; simp [Value.oneCell']
  | bool => intro x cs h; cases h; simp [Value.oneCell']
  | str => intro x cs h; cases h; simp [Value.oneCell']
  | unit => intro x cs h; cases h; simp
  | pair a b iha ihb =>
    rintro x cs ⟨c1, c2, e, h1, h2⟩ v hv
    rw [e, List.mem_append] at hv
    exact hv.elim (iha h1 v) (ihb h2 v)
  | arr n t ih => rintro l cs ⟨e, h⟩; exact h.all fun x cs hx => ih hx
  | slice t ih => rintro l cs ⟨a, c, e, _⟩; simp [e, Value.oneCell']
  | fn f a b iha ihb => rintro x cs ⟨fv, cv, e, _⟩; simp [e, Value.oneCell']
  | map t ih => rintro l cs ⟨e, _⟩; simp [e, Value.oneCell']

/-- flat data lies in no block -/
theorem Cells.flat {w w' : World} {O O' : Nat → Prop} : ∀ {t : Ty} {x : El t} {cs : List Value}, t.flat = true → Cells w O t x cs → Cells w' O' t x cs := by
  intro t
  induction t with
  | int k => exact fun _ h => h
  | bool => exact fun _ h => h
  | str => exact fun _ h => h
  | unit => exact fun _ h => h
  | pair a b iha ihb =>
    rintro x cs hf ⟨c1, c2, e, h1, h2⟩
    simp only [Ty.flat, Bool.and_eq_true] at hf
    exact ⟨c1, c2, e, iha hf.1 h1, ihb hf.2 h2⟩
  | arr n t ih => rintro l cs hf ⟨e, h⟩; exact ⟨e, h.mono fun x cs hx => ih hf hx⟩
  | slice t ih => intro x cs hf; cases hf
  | fn f a b iha ihb => intro x cs hf; cases hf
  | map t ih => intro x cs hf; cases hf

theorem ME.mono {w w' : World} {O O' : Nat → Prop} {t : Ty} (h : ∀ (x : El t) cs, Cells w O t x cs → Cells w' O' t x cs) : ∀ {l : List (Int × El t)} {es : List MapEntry}, ME w O t l es → ME w' O' t l es
  | [], _, hr => hr
  | p :: l, _, ⟨e, r, h1, h2, ⟨cs, h3, h4⟩, h5⟩ => ⟨e, r, h1, h2, ⟨cs, h p.2 cs h3, h4⟩, ME.mono h h5⟩

/-! ### one row -/
theorem Row.append {α : Type} {R : α → List Value → Prop} : ∀ {l l' : List α} {cs cs' : List Value}, Row R l cs → Row R l' cs' → Row R (l ++ l') (cs ++ cs')
  | [], _, _, _, h, h' => by cases h; exact h'
  | x :: l, _, _, _, ⟨c1, c2, e, h1, h2⟩, h' => ⟨c1, c2 ++ _, by rw [e, List.append_assoc], h1, Row.append h2 h'⟩

theorem Row.split {α : Type} {R : α → List Value → Prop} : ∀ {l l' : List α} {cs : List Value}, Row R (l ++ l') cs → ∃ c1 c2, cs = c1 ++ c2 ∧ Row R l c1 ∧ Row R l' c2
  | [], _, cs, h => ⟨[], cs, rfl, rfl, h⟩
  | x :: l, l', _, ⟨c1, c2, e, h1, h2⟩ => by
    obtain ⟨d1, d2, e', g1, g2⟩ := Row.split (l := l) (l' := l') h2
    exact ⟨c1 ++ d1, d2, by rw [e, e', List.append_assoc], ⟨c1, d1, rfl, h1, g1⟩, g2⟩

theorem Row.get {α : Type} {R : α → List Value → Prop} {k : Nat} (hk : ∀ x cs, R x cs → cs.length = k) {l : List α} {cs : List Value} (h : Row R l cs) {i : Nat} {x : α} (hx : l[i]? = some x) :
    ∃ c1 d c2, cs = c1 ++ d ++ c2 ∧ R x d ∧ c1.length = i * k ∧ Row R (l.take i) c1 ∧ Row R (l.drop (i + 1)) c2 := by
  have hi : i < l.length := by
    rcases Nat.lt_or_ge i l.length with h1 | h1
    · exact h1
    · rw [List.getElem?_eq_none h1] at hx; cases hx
  have e : l = l.take i ++ (x :: l.drop (i + 1)) := by
    have hx' : l[i] = x := by rw [List.getElem?_eq_getElem hi] at hx; exact Option.some.inj hx
    rw [← hx', ← List.drop_eq_getElem_cons hi]
    exact (List.take_append_drop i l).symm
  rw [e] at h
  obtain ⟨c1, c2, e1, h1, d, c3, e2, h2, h3⟩ := Row.split h
  refine ⟨c1, d, c3, by rw [e1, e2, List.append_assoc], h2, ?_, h1, h3⟩
  rw [h1.len hk, List.length_take, Nat.min_eq_left (Nat.le_of_lt hi)]

theorem Row.set {α : Type} {R : α → List Value → Prop} {l : List α} {i : Nat} {x : α} {c1 d c2 : List Value} (hi : i < l.length) (h1 : Row R (l.take i) c1) (hd : R x d) (h2 : Row R (l.drop (i + 1)) c2) :
    Row R (l.set i x) (c1 ++ d ++ c2) := by
  rw [List.set_eq_take_append_cons_drop, if_pos hi, List.append_assoc]
  exact h1.append ⟨d, c2, rfl, hd, h2⟩

theorem Row.take {α : Type} {R : α → List Value → Prop} {l : List α} {cs : List Value} (h : Row R l cs) (o n : Nat) :
    ∃ c1 d c2, cs = c1 ++ d ++ c2 ∧ Row R (l.take o) c1 ∧ Row R ((l.drop o).take n) d ∧ Row R ((l.drop o).drop n) c2 := by
  have e : l = l.take o ++ ((l.drop o).take n ++ (l.drop o).drop n) := by rw [List.take_append_drop, List.take_append_drop]
  rw [e] at h
  obtain ⟨c1, c2, e1, h1, h2⟩ := h.split
  obtain ⟨d, c3, e2, h3, h4⟩ := h2.split
  exact ⟨c1, d, c3, by rw [e1, e2, List.append_assoc], h1, h3, h4⟩
end Go.Pv
