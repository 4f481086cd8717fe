/- What is one's own, taken out of its home and put into another. -/
import Derived.Test.YtcdobfeeabhkeaaPvF
set_option autoImplicit false
set_option linter.unusedVariables false
set_option linter.unusedSimpArgs false
namespace Go.Pv

def ZX (Z : Nat → Prop) (X : List Nat) : Nat → Prop := fun x => Z x ∨ x ∈ X

def OV1 (w : World) (O : Nat → Prop) : AV → List Value → List Nat → Prop
  | .val t x, cs, X => Cells w O t x cs ∧ X = []
  | .own t l, cs, X => ∃ v bo, cs = [v] ∧ Header w bo t.size 0 l.length v ∧ Blk w O bo t l ∧ X = bo.toList
  | .nilp, cs, X => cs = [.pointer none] ∧ X = []
  | .nils, cs, X => cs = [.slice none 0 0] ∧ X = []
  | .mp t l, cs, X => ∃ b, cs = [.map (some b)] ∧ MBlk w O b t l ∧ X = [b]
  | _, _, _ => False

def OVs (w : World) (O : Nat → Prop) : List AV → List Value → List Nat → Prop
  | [], cs, X => cs = [] ∧ X = []
  | a :: as, cs, X => ∃ c1 c2 X1 X2, cs = c1 ++ c2 ∧ X = X1 ++ X2 ∧ OV1 w O a c1 X1 ∧ OVs w O as c2 X2

def OV2 (w : World) (O : Nat → Prop) : AV → Value → List Nat → Prop
  | .box fs, v, X => ∃ b arr e X', v = .pointer (some ⟨b, 0, none⟩) ∧ w.heap[b]? = some (.cells arr e (0, 0)) ∧ OVs w O fs arr.toList X' ∧ X = b :: X'
  | .val t x, v, X => (∃ cs, Cells w O t x cs ∧ v = toV t cs) ∧ X = []
  | .eptr t x k, v, X => (∃ b o cs, v = .pointer (some ⟨b, o + k, none⟩) ∧ ¬ O b ∧ b < w.heap.size ∧ Lies w b o cs ∧ Cells w O t x cs) ∧ X = []
  | a, v, X => OV1 w O a [v] X

def OVl (w : World) (O : Nat → Prop) : List AV → List Value → List Nat → Prop
  | [], vs, X => vs = [] ∧ X = []
  | a :: as, vs, X => ∃ v vs' X1 X2, vs = v :: vs' ∧ X = X1 ++ X2 ∧ OV2 w O a v X1 ∧ OVl w O as vs' X2

def OV3 (w : World) (O : Nat → Prop) : AV → Value → List Nat → Prop
  | .tup as, v, X => ∃ arr : Array Value, v = .tuple arr ∧ OVl w O as arr.toList X
  | a, v, X => OV2 w O a v X

/-- what is held: as it was, where nothing of it was touched -/
structure Keep (w w' : World) (O O' : Nat → Prop) (X : List Nat) : Prop where
  size : w.heap.size ≤ w'.heap.size
  same : ∀ b, b < w.heap.size → (¬ O b ∨ b ∈ X) → w'.heap[b]? = w.heap[b]?
  sub : ∀ b, b < w.heap.size → O' b → O b

section
variable {w w' : World} {O O' : Nat → Prop}

theorem Keep.of {X Y : List Nat} (k : Keep w w' O O' X) (h : ∀ b ∈ Y, b ∈ X) : Keep w w' O O' Y :=
  ⟨k.size, fun b hb hx => k.same b hb (hx.imp id (h b)), k.sub⟩

theorem Keep.cells {X : List Nat} (k : Keep w w' O O' X) {t : Ty} {x : El t} {cs : List Value} (h : Cells w O t x cs) : Cells w' O' t x cs :=
  h.mono k.size (fun b hb hO => k.same b hb (.inl hO)) k.sub

theorem Header.keep {X : List Nat} (k : Keep w w' O O' X) {bo : Option Nat} {sz off len : Nat} {v : Value} (hX : ∀ b, bo = some b → b ∈ X) (h : Header w bo sz off len v) : Header w' bo sz off len v := by
  obtain ⟨a, c, e, hl, h⟩ := h
  refine ⟨a, c, e, hl, ?_⟩
  rcases h with h | ⟨b, arr, ty, hb, ha, hh, hc⟩
  · exact .inl h
  · exact .inr ⟨b, arr, ty, hb, ha, by rw [k.same b (lt_of_get hh) (.inr (hX b hb))]; exact hh, hc⟩

theorem Blk.keep {X : List Nat} (k : Keep w w' O O' X) {bo : Option Nat} {t : Ty} {l : List (El t)} (hX : ∀ b, bo = some b → b ∈ X) (h : Blk w O bo t l) : Blk w' O' bo t l := by
  rcases h with h | ⟨b, arr, e, cs, rest, h1, h2, h3, h4⟩
  · exact .inl h
  · exact .inr ⟨b, arr, e, cs, rest, h1, by rw [k.same b (lt_of_get h2) (.inr (hX b h1))]; exact h2, h3, h4.mono fun _ _ h => k.cells h⟩

theorem OV1.keep {a : AV} {cs : List Value} {X : List Nat} (k : Keep w w' O O' X) (h : OV1 w O a cs X) : OV1 w' O' a cs X := by
  cases a with
  | val t x => exact ⟨k.cells h.1, h.2⟩
  | own t l =>
    obtain ⟨v, bo, e, h1, h2, rfl⟩ := h
    have hX : ∀ b, bo = some b → b ∈ bo.toList := fun b e => by rw [e]; simp
    exact ⟨v, bo, e, h1.keep k hX, h2.keep k hX, rfl⟩
  | mp t l =>
    obtain ⟨b, e, ⟨es, c, h1, h2⟩, rfl⟩ := h
    exact ⟨b, e, ⟨es, c, by rw [k.same b (lt_of_get h1) (.inr (by simp))]; exact h1, h2.mono fun _ _ h => k.cells h⟩, rfl⟩
  | _ => exact h

theorem OVs.keep : ∀ {as : List AV} {cs : List Value} {X : List Nat} (k : Keep w w' O O' X) (h : OVs w O as cs X), OVs w' O' as cs X
  | [], _, _, _, h => h
  | a :: as, _, _, k, ⟨c1, c2, X1, X2, e1, e2, h1, h2⟩ =>
    ⟨c1, c2, X1, X2, e1, e2, h1.keep (k.of fun b hb => by rw [e2]; simp [hb]), OVs.keep (k.of fun b hb => by rw [e2]; simp [hb]) h2⟩

theorem OV2.keep {a : AV} {v : Value} {X : List Nat} (k : Keep w w' O O' X) (h : OV2 w O a v X) : OV2 w' O' a v X := by
  cases a with
  | val t x => obtain ⟨⟨cs, h1, h2⟩, h3⟩ := h; exact ⟨⟨cs, k.cells h1, h2⟩, h3⟩
  | box fs =>
    obtain ⟨b, arr, e, X', h1, h2, h3, rfl⟩ := h
    exact ⟨b, arr, e, X', h1, by rw [k.same b (lt_of_get h2) (.inr (by simp))]; exact h2, h3.keep (k.of fun b hb => by simp [hb]), rfl⟩
  | undef => exact OV1.keep (a := .undef) (cs := [v]) k h
  | agg fs => exact OV1.keep (a := .agg fs) (cs := [v]) k h
  | nils => exact OV1.keep (a := .nils) (cs := [v]) k h
  | lref a b c => exact OV1.keep (a := .lref a b c) (cs := [v]) k h
  | ptr a b c d => exact OV1.keep (a := .ptr a b c d) (cs := [v]) k h
  | eptr t x c =>
    obtain ⟨⟨b, o, cs, h1, h2, h3, h4, h5⟩, h6⟩ := h
    exact ⟨⟨b, o, cs, h1, fun h => h2 (k.sub b h3 h), Nat.lt_of_lt_of_le h3 k.size, h4.mono (k.same b h3 (.inl h2)), k.cells h5⟩, h6⟩
  | fnp a b c => exact OV1.keep (a := .fnp a b c) (cs := [v]) k h
  | mref a b => exact OV1.keep (a := .mref a b) (cs := [v]) k h
  | mp t l => exact OV1.keep (a := .mp t l) (cs := [v]) k h
  | nilp => exact OV1.keep (a := .nilp) (cs := [v]) k h
  | own t l => exact OV1.keep (a := .own t l) (cs := [v]) k h
  | tup vs => exact OV1.keep (a := .tup vs) (cs := [v]) k h

theorem OVl.keep : ∀ {as : List AV} {vs : List Value} {X : List Nat} (k : Keep w w' O O' X) (h : OVl w O as vs X), OVl w' O' as vs X
  | [], _, _, _, h => h
  | a :: as, _, _, k, ⟨v, vs, X1, X2, e1, e2, h1, h2⟩ =>
    ⟨v, vs, X1, X2, e1, e2, h1.keep (k.of fun b hb => by rw [e2]; simp [hb]), OVl.keep (k.of fun b hb => by rw [e2]; simp [hb]) h2⟩
end

theorem Rel.congr {Z Z' : Nat → Prop} {B : Nat → Option Nat} {st : St} {tm : Array Value} {w : World} (r : Rel Z B st tm w) (h : ∀ x, Z x ↔ Z' x) : Rel Z' B st tm w := by
  have : Z = Z' := funext fun x => propext (h x)
  rw [← this]; exact r

theorem Stay.congr {w w' : World} {O O1 O2 O' : Nat → Prop} {B B' : Nat → Option Nat} {st st' : St} (s : Stay w w' O O' B B' st st') (h1 : ∀ x, O x ↔ O1 x) (h2 : ∀ x, O' x ↔ O2 x) : Stay w w' O1 O2 B B' st st' := by
  have e1 : O = O1 := funext fun x => propext (h1 x)
  have e2 : O' = O2 := funext fun x => propext (h2 x)
  rw [← e1, ← e2]; exact s

theorem Owned.congr {Z Z' : Nat → Prop} {B : Nat → Option Nat} {st : St} (h : ∀ x, Z x ↔ Z' x) (x : Nat) : Owned Z B st x ↔ Owned Z' B st x := by
  unfold Owned; rw [h]

section
variable {Z : Nat → Prop} {B : Nat → Option Nat} {st : St} {tm : Array Value} {w : World}

/-- new blocks, held outside -/
theorem Rel.fresh (r : Rel Z B st tm w) {w' : World} (t : Tr (fun _ => False) w w') (X : List Nat) (hX : ∀ b ∈ X, w.heap.size ≤ b) :
    Rel (ZX Z X) B st tm w' ∧ Stay w w' (Owned Z B st) (Owned (ZX Z X) B st) B B st st := by
  have s : Stay w w' (Owned Z B st) (Owned (ZX Z X) B st) B B st st := by
    refine ⟨t.size, fun b hb _ => t.same b hb (fun h => h), fun b hb hO => ?_, fun _ => .refl _, fun h _ => ⟨rfl, fun t l hl => ⟨l, hl, rfl⟩⟩, fun b arr e h => t.row h⟩
    rcases hO with (hO | hO) | hO
    · exact .inl hO
    · exact absurd (hX b hO) (by omega)
    · exact .inr hO
  refine ⟨r.step s (fun h => ?_) r.inj (fun h b h1 h2 => ?_) fun t => .inl ⟨rfl, rfl⟩, s⟩
  · by_cases hl : asList (st.cont h) ≠ none ∨ live (st.cont h) = true
    · exact .inl ⟨rfl, rfl, fun b hb => t.same b (r.blk hb hl) (fun h => h)⟩
    · right
      generalize st.cont h = c at hl
      cases c with
      | own t l => simp [asList] at hl
      | box fs => simp [live] at hl
      | mp t l => simp [live] at hl
      | val t x => cases t <;> first | trivial | simp [asList] at hl
      | _ => trivial
  · rintro (hz | hx)
    · exact r.ext h b h1 h2 hz
    · have := r.blk h2 (.inr h1)
      have := hX b hx
      omega

theorem Stay.keep {w w' : World} {O O' : Nat → Prop} {B B' : Nat → Option Nat} {st st' : St} (s : Stay w w' O O' B B' st st') {X : List Nat} (h : ∀ b ∈ X, w'.heap[b]? = w.heap[b]?) : Keep w w' O O' X :=
  ⟨s.size, fun b hb hx => hx.elim (s.same b hb) (h b), s.sub⟩

/-- a row of one's own comes into a home -/
theorem Rel.attachOwn {X1 X2 : List Nat} (r : Rel (ZX Z (X1 ++ X2)) B st tm w) (hn : (X1 ++ X2).Nodup) (hz : ∀ b ∈ X1 ++ X2, ¬ Z b) {t : Ty} {l : List (El t)} {v : Value}
    (h : OV1 w (Owned (ZX Z (X1 ++ X2)) B st) (.own t l) [v] X1) (k g : Nat) (hg : st.gen k + 2 ≤ g) :
    ∃ B', Rel (ZX Z X2) B' (st.seth k g (.own t l)) tm w ∧ Stay w w (Owned (ZX Z (X1 ++ X2)) B st) (Owned (ZX Z X2) B' (st.seth k g (.own t l))) B B' st (st.seth k g (.own t l)) ∧
      V1 w (Owned (ZX Z X2) B' (st.seth k g (.own t l))) B' (st.seth k g (.own t l)) (.lref k g none) v ∧ (∀ b, B' k = some b → b ∈ X1) ∧ ∀ h, h ≠ k → B' h = B h := by
  obtain ⟨v', bo, e, h1, h2, rfl⟩ := h
  cases e
  have hc : ∀ x, ZX Z (bo.toList ++ X2) x ↔ (ZX Z X2 x ∨ bo = some x) := fun x => by
    unfold ZX
    cases bo <;> simp [or_assoc, or_comm, or_left_comm, eq_comm]
  have r' := r.congr hc
  have := r'.attach k g (c := .own t l) (.inl hg) (fun b e => ?_) rfl (by
    have : (Owned (ZX Z (bo.toList ++ X2)) B st) = (Owned (fun x => ZX Z X2 x ∨ bo = some x) B st) := funext fun x => propext (Owned.congr hc x)
    rw [← this]; exact h2)
  · obtain ⟨ra, sa⟩ := this
    refine ⟨_, ra, sa.congr (fun x => (Owned.congr hc x).symm) (fun _ => Iff.rfl), ?_, ?_, ?_⟩
    · refine ⟨by rw [gen_seth, if_pos rfl]; exact Nat.le_refl _, fun _ t' l' hl => ?_⟩
      rw [cont_seth, if_pos rfl] at hl
      simp only [asList, Option.some.injEq, Sigma.mk.injEq] at hl
      obtain ⟨rfl, hl⟩ := hl
      cases hl
      refine ⟨by simp [sOff, sLen], ?_⟩
      simp only [upd, if_true, sOff, sLen]
      exact h1
    · intro b hb
      simp only [upd, if_true] at hb
      rw [hb]; simp
    · intro h hne
      exact if_neg (fun e => hne e.symm)
  · subst e
    rintro (hz' | hx)
    · exact hz b (by simp) hz'
    · simp only [Option.toList_some, List.singleton_append, List.nodup_cons] at hn
      exact hn.1 hx

theorem Rel.detachOwn {X : List Nat} (r : Rel (ZX Z X) B st tm w) (hx : ∀ b ∈ X, ¬ Z b) (hn : X.Nodup) (k g : Nat) (hg : Up (st.gen k) g) {t : Ty} {l : List (El t)} (hc : st.cont k = .own t l) {v : Value} (hv : V1 w (Owned (ZX Z X) B st) B st (.lref k (st.gen k) none) v) :
    ∃ X1, Rel (ZX Z (X1 ++ X)) B (st.seth k g .undef) tm w ∧ Stay w w (Owned (ZX Z X) B st) (Owned (ZX Z (X1 ++ X)) B (st.seth k g .undef)) B B st (st.seth k g .undef) ∧
      OV1 w (Owned (ZX Z (X1 ++ X)) B (st.seth k g .undef)) (.own t l) [v] X1 ∧ (X1 ++ X).Nodup ∧ (∀ b ∈ X1 ++ X, ¬ Z b) ∧ (∀ b ∈ X1, B k = some b) := by
  obtain ⟨r', s'⟩ := r.detach k g hg (by rw [hc]; rfl)
  have hcg : ∀ x, (ZX Z X x ∨ B k = some x) ↔ ZX Z ((B k).toList ++ X) x := fun x => by
    unfold ZX
    cases B k <;> simp [or_assoc, or_comm, or_left_comm, eq_comm]
  have hB : ∀ b, B k = some b → ¬ ZX Z X b := fun b hb => r.ext k b (by rw [hc]; rfl) hb
  refine ⟨(B k).toList, r'.congr hcg, s'.congr (fun _ => Iff.rfl) (Owned.congr hcg), ?_, ?_, ?_, ?_⟩
  · have hr := r.hr k
    rw [hc] at hr
    obtain ⟨_, hv⟩ := hv
    obtain ⟨_, hh⟩ := hv rfl t l (by rw [hc]; rfl)
    have s2 := s'.congr (fun _ => Iff.rfl) (Owned.congr hcg)
    exact ⟨v, B k, rfl, hh.mono s2, Blk.mono s2 (fun _ _ => rfl) hr, rfl⟩
  · cases e : B k with
    | none => simpa using hn
    | some b =>
      simp only [Option.toList_some, List.singleton_append, List.nodup_cons]
      exact ⟨fun h => hB b e (.inr h), hn⟩
  · intro b hb
    rw [List.mem_append] at hb
    rcases hb with hb | hb
    · have e : B k = some b := by simpa using hb
      exact fun h => hB b e (.inl h)
    · exact hx b hb
  · intro b hb; simpa using hb

theorem Rel.attachMap {X : List Nat} {b : Nat} (r : Rel (ZX Z (b :: X)) B st tm w) (hn : (b :: X).Nodup) (hz : ∀ x ∈ b :: X, ¬ Z x) {t : Ty} {l : List (Int × El t)} (hb : MBlk w (Owned (ZX Z (b :: X)) B st) b t l)
    (k g : Nat) (hg : st.gen k + 2 ≤ g) :
    ∃ B', Rel (ZX Z X) B' (st.seth k g (.mp t l)) tm w ∧ Stay w w (Owned (ZX Z (b :: X)) B st) (Owned (ZX Z X) B' (st.seth k g (.mp t l))) B B' st (st.seth k g (.mp t l)) ∧
      V1 w (Owned (ZX Z X) B' (st.seth k g (.mp t l))) B' (st.seth k g (.mp t l)) (.mref k g) (.map (some b)) := by
  have hc : ∀ x, ZX Z (b :: X) x ↔ (ZX Z X x ∨ some b = some x) := fun x => by
    unfold ZX
    simp [or_assoc, or_comm, or_left_comm, eq_comm]
  have hO : (Owned (ZX Z (b :: X)) B st) = (Owned (fun x => ZX Z X x ∨ some b = some x) B st) := funext fun x => propext (Owned.congr hc x)
  obtain ⟨ra, sa⟩ := (r.congr hc).attach k g (c := .mp t l) (.inl hg) (fun b' e => by
    cases e
    rintro (h | h)
    · exact hz b (by simp) h
    · exact (List.nodup_cons.1 hn).1 h) rfl (by rw [← hO]; exact ⟨b, rfl, hb⟩)
  exact ⟨_, ra, sa.congr (fun x => (Owned.congr hc x).symm) (fun _ => Iff.rfl), by rw [gen_seth, if_pos rfl]; exact Nat.le_refl _, fun _ => ⟨b, by simp [upd], rfl⟩⟩

theorem Rel.detachMap {X : List Nat} (r : Rel (ZX Z X) B st tm w) (hx : ∀ b ∈ X, ¬ Z b) (hn : X.Nodup) (k g : Nat) (hg : Up (st.gen k) g) {t : Ty} {l : List (Int × El t)} (hc : st.cont k = .mp t l) {v : Value} (hv : V1 w (Owned (ZX Z X) B st) B st (.mref k (st.gen k)) v) :
    ∃ X1, Rel (ZX Z (X1 ++ X)) B (st.seth k g .undef) tm w ∧ Stay w w (Owned (ZX Z X) B st) (Owned (ZX Z (X1 ++ X)) B (st.seth k g .undef)) B B st (st.seth k g .undef) ∧
      OV1 w (Owned (ZX Z (X1 ++ X)) B (st.seth k g .undef)) (.mp t l) [v] X1 ∧ (X1 ++ X).Nodup ∧ (∀ b ∈ X1 ++ X, ¬ Z b) := by
  obtain ⟨r', s'⟩ := r.detach k g hg (by rw [hc]; rfl)
  have hr := r.hr k
  rw [hc] at hr
  obtain ⟨b, hb, hm⟩ := hr
  obtain ⟨b', hb', rfl⟩ := hv.2 rfl
  rw [hb] at hb'; cases hb'
  have hcg : ∀ x, (ZX Z X x ∨ B k = some x) ↔ ZX Z ([b] ++ X) x := fun x => by
    unfold ZX
    rw [hb]; simp [or_assoc, or_comm, or_left_comm, eq_comm]
  have hB : ¬ ZX Z X b := r.ext k b (by rw [hc]; rfl) hb
  have s2 := s'.congr (fun _ => Iff.rfl) (Owned.congr hcg)
  refine ⟨[b], r'.congr hcg, s2, ⟨b, rfl, hm.mono s2 rfl, rfl⟩, ?_, ?_⟩
  · simp only [List.singleton_append, List.nodup_cons]
    exact ⟨fun h => hB (.inr h), hn⟩
  · intro x hx'
    simp only [List.singleton_append, List.mem_cons] at hx'
    rcases hx' with rfl | hx'
    · exact fun h => hB (.inl h)
    · exact hx x hx'

/-- a field of a thing that came in -/
theorem in1_sound {X1 X2 : List Nat} (r : Rel (ZX Z (X1 ++ X2)) B st tm w) (hn : (X1 ++ X2).Nodup) (hz : ∀ b ∈ X1 ++ X2, ¬ Z b) {a a' : AV} {st' : St} {h i : Nat} (e : run (in1 h i a) st = some (a', st')) {cs : List Value}
    (hv : OV1 w (Owned (ZX Z (X1 ++ X2)) B st) a cs X1) :
    ∃ B', Rel (ZX Z X2) B' st' tm w ∧ Stay w w (Owned (ZX Z (X1 ++ X2)) B st) (Owned (ZX Z X2) B' st') B B' st st' ∧ F1 w (Owned (ZX Z X2) B' st') B' st' a' cs ∧ (∀ k, k ≤ h + i → st'.gen k = st.gen k ∧ st'.cont k = st.cont k) := by
  cases a with
  | val t x =>
    obtain ⟨rfl, rfl⟩ := run_ret e
    obtain ⟨h1, rfl⟩ := hv
    exact ⟨B, r, Stay.refl, h1, fun _ _ => ⟨rfl, rfl⟩⟩
  | own t l =>
    simp only [in1, run, Option.some.injEq, Prod.mk.injEq] at e
    obtain ⟨rfl, rfl⟩ := e
    have hv0 := hv
    obtain ⟨v, bo, rfl, _⟩ := hv0
    obtain ⟨B', ra, sa, va, hB, hB'⟩ := r.attachOwn hn hz hv (h + i + 1) (st.gen (h + i + 1) + 2) (Nat.le_refl _)
    refine ⟨B', ra, sa, ⟨v, rfl, ?_, va⟩, fun k hk => ⟨?_, ?_⟩⟩
    · obtain ⟨v', bo', e, ⟨a, c, rfl, _⟩, _⟩ := hv; cases e; rfl
    · rw [gen_seth, if_neg (by omega)]
    · rw [cont_seth, if_neg (by omega)]
  | mp t l =>
    simp only [in1, run, Option.some.injEq, Prod.mk.injEq] at e
    obtain ⟨rfl, rfl⟩ := e
    obtain ⟨b, rfl, hm, rfl⟩ := hv
    obtain ⟨B', ra, sa, va⟩ := r.attachMap hn hz hm (h + i + 1) (st.gen (h + i + 1) + 2) (Nat.le_refl _)
    refine ⟨B', ra, sa, ⟨_, rfl, rfl, va⟩, fun k hk => ⟨?_, ?_⟩⟩
    · rw [gen_seth, if_neg (by omega)]
    · rw [cont_seth, if_neg (by omega)]
  | _ => cases e

theorem inAll_sound {h : Nat} : ∀ {as : List AV} {i : Nat} {X1 X2 : List Nat} {B : Nat → Option Nat} {st : St} (r : Rel (ZX Z (X1 ++ X2)) B st tm w) (hn : (X1 ++ X2).Nodup) (hz : ∀ b ∈ X1 ++ X2, ¬ Z b) {fs : List AV} {st' : St}
    (e : run (inAll h i as) st = some (fs, st')) {cs : List Value} (hv : OVs w (Owned (ZX Z (X1 ++ X2)) B st) as cs X1),
    ∃ B', Rel (ZX Z X2) B' st' tm w ∧ Stay w w (Owned (ZX Z (X1 ++ X2)) B st) (Owned (ZX Z X2) B' st') B B' st st' ∧ Fs w (Owned (ZX Z X2) B' st') B' st' fs cs ∧ (∀ k, k ≤ h + i → st'.gen k = st.gen k ∧ st'.cont k = st.cont k) := by
  intro as
  induction as with
  | nil =>
    intro i X1 X2 B st r hn hz fs st' e cs hv
    obtain ⟨rfl, rfl⟩ := run_ret e
    obtain ⟨rfl, rfl⟩ := hv
    exact ⟨B, r, Stay.refl, rfl, fun _ _ => ⟨rfl, rfl⟩⟩
  | cons a as ih =>
    intro i X1 X2 B st r hn hz fs st' e cs hv
    obtain ⟨f, st1, e1, e2⟩ := run_some e
    obtain ⟨fs', st2, e3, e4⟩ := run_some e2
    obtain ⟨rfl, rfl⟩ := run_pure e4
    obtain ⟨c1, c2, Y1, Y2, rfl, rfl, h1, h2⟩ := hv
    rw [List.append_assoc] at r hn hz h1 h2
    obtain ⟨B1, ra, sa, fa, ga⟩ := in1_sound r hn hz e1 h1
    have hn' : (Y2 ++ X2).Nodup := (List.nodup_append.1 hn).2.1
    have hz' : ∀ b ∈ Y2 ++ X2, ¬ Z b := fun b hb => hz b (List.mem_append_right _ hb)
    obtain ⟨B2, rb, sb, fb, gb⟩ := ih ra hn' hz' e3 (h2.keep (sa.keep fun _ _ => rfl))
    rw [List.append_assoc]
    exact ⟨B2, rb, sa.trans sb, ⟨c1, c2, rfl, fa.mono sb, fb⟩, fun k hk => ⟨(gb k (by omega)).1.trans (ga k hk).1, (gb k (by omega)).2.trans (ga k hk).2⟩⟩

theorem Rel.attachBox {X : List Nat} {b : Nat} (r : Rel (ZX Z (b :: X)) B st tm w) (hn : (b :: X).Nodup) (hz : ∀ x ∈ b :: X, ¬ Z x) {fs : List AV} {arr : Array Value} {e : TypeId} (hb : w.heap[b]? = some (.cells arr e (0, 0)))
    (hf : Fs w (Owned (ZX Z (b :: X)) B st) B st fs arr.toList) (k g : Nat) (hg : st.gen k + 2 ≤ g ∨ (st.gen k = g ∧ some b = B k)) :
    ∃ B', Rel (ZX Z X) B' (st.seth k g (.box fs)) tm w ∧ Stay w w (Owned (ZX Z (b :: X)) B st) (Owned (ZX Z X) B' (st.seth k g (.box fs))) B B' st (st.seth k g (.box fs)) ∧
      V1 w (Owned (ZX Z X) B' (st.seth k g (.box fs))) B' (st.seth k g (.box fs)) (.ptr k g 0 none) (.pointer (some ⟨b, 0, none⟩)) := by
  have hc : ∀ x, ZX Z (b :: X) x ↔ (ZX Z X x ∨ some b = some x) := fun x => by
    unfold ZX
    simp [or_assoc, or_comm, or_left_comm, eq_comm]
  have hO : (Owned (ZX Z (b :: X)) B st) = (Owned (fun x => ZX Z X x ∨ some b = some x) B st) := funext fun x => propext (Owned.congr hc x)
  obtain ⟨ra, sa⟩ := (r.congr hc).attach k g (c := .box fs) (hg.imp id fun h => ⟨h.1, h.2, rfl⟩) (fun b' e => by
    cases e
    rintro (h | h)
    · exact hz b (by simp) h
    · exact (List.nodup_cons.1 hn).1 h) rfl (by rw [← hO]; exact ⟨b, arr, e, rfl, hb, hf⟩)
  exact ⟨_, ra, sa.congr (fun x => (Owned.congr hc x).symm) (fun _ => Iff.rfl), by rw [gen_seth, if_pos rfl]; exact Nat.le_refl _, fun _ => ⟨b, by simp [upd], rfl⟩⟩

theorem nodup_swap {b : Nat} {Y X : List Nat} (h : (b :: Y ++ X).Nodup) : (Y ++ b :: X).Nodup := by
  have p : (b :: Y ++ X).Perm (Y ++ b :: X) := by simpa using (List.perm_middle (a := b) (l₁ := Y) (l₂ := X)).symm
  exact p.nodup_iff.1 h

/-- what a call answers -/
theorem imp_sound {X1 X2 : List Nat} (r : Rel (ZX Z (X1 ++ X2)) B st tm w) (hn : (X1 ++ X2).Nodup) (hz : ∀ b ∈ X1 ++ X2, ¬ Z b) {a a' : AV} {st' : St} {h : Nat} (e : run (imp h a) st = some (a', st')) {v : Value}
    (hv : OV2 w (Owned (ZX Z (X1 ++ X2)) B st) a v X1) :
    ∃ B', Rel (ZX Z X2) B' st' tm w ∧ Stay w w (Owned (ZX Z (X1 ++ X2)) B st) (Owned (ZX Z X2) B' st') B B' st st' ∧ V1 w (Owned (ZX Z X2) B' st') B' st' a' v := by
  cases a with
  | val t x =>
    obtain ⟨rfl, rfl⟩ := run_ret e
    obtain ⟨h1, rfl⟩ := hv
    exact ⟨B, r, Stay.refl, h1⟩
  | nils =>
    obtain ⟨rfl, rfl⟩ := run_ret e
    obtain ⟨h1, rfl⟩ := hv
    cases h1
    exact ⟨B, r, Stay.refl, rfl⟩
  | nilp =>
    obtain ⟨rfl, rfl⟩ := run_ret e
    obtain ⟨h1, rfl⟩ := hv
    cases h1
    exact ⟨B, r, Stay.refl, rfl⟩
  | own t l =>
    simp only [imp, run, Option.some.injEq, Prod.mk.injEq] at e
    obtain ⟨rfl, rfl⟩ := e
    obtain ⟨B', ra, sa, va, _⟩ := r.attachOwn hn hz hv h (st.gen h + 2) (Nat.le_refl _)
    exact ⟨B', ra, sa, va⟩
  | box fs =>
    obtain ⟨fs', st1, e1, e2⟩ := run_some e
    simp only [run, Option.some.injEq, Prod.mk.injEq] at e2
    obtain ⟨rfl, rfl⟩ := e2
    obtain ⟨b, arr, ty, X', rfl, h2, h3, rfl⟩ := hv
    have hc : ∀ x, ZX Z (b :: X' ++ X2) x ↔ ZX Z (X' ++ b :: X2) x := fun x => by
      unfold ZX; simp [or_assoc, or_comm, or_left_comm]
    have hO : (Owned (ZX Z (b :: X' ++ X2)) B st) = (Owned (ZX Z (X' ++ b :: X2)) B st) := funext fun x => propext (Owned.congr hc x)
    have hn' := nodup_swap hn
    have hz' : ∀ x ∈ X' ++ b :: X2, ¬ Z x := fun x hx => hz x (by simp at hx ⊢; rcases hx with h | h | h <;> simp [h])
    rw [hO] at h3
    obtain ⟨B1, ra, sa, fa, ga⟩ := inAll_sound (r.congr hc) hn' hz' e1 h3
    obtain ⟨B2, rb, sb, vb⟩ := ra.attachBox (List.nodup_append.1 hn').2.1 (fun x hx => hz' x (List.mem_append_right _ hx)) h2 fa h (st1.gen h + 2) (.inl (Nat.le_refl _))
    rw [hO]
    exact ⟨B2, rb, sa.trans sb, vb⟩
  | _ => cases e

theorem impAll_sound {h : Nat} : ∀ {as : List AV} {i : Nat} {X1 X2 : List Nat} {B : Nat → Option Nat} {st : St} (r : Rel (ZX Z (X1 ++ X2)) B st tm w) (hn : (X1 ++ X2).Nodup) (hz : ∀ b ∈ X1 ++ X2, ¬ Z b) {fs : List AV} {st' : St}
    (e : run (impAll h i as) st = some (fs, st')) {vs : List Value} (hv : OVl w (Owned (ZX Z (X1 ++ X2)) B st) as vs X1),
    ∃ B', Rel (ZX Z X2) B' st' tm w ∧ Stay w w (Owned (ZX Z (X1 ++ X2)) B st) (Owned (ZX Z X2) B' st') B B' st st' ∧ All2 (V1 w (Owned (ZX Z X2) B' st') B' st') fs vs := by
  intro as
  induction as with
  | nil =>
    intro i X1 X2 B st r hn hz fs st' e vs hv
    obtain ⟨rfl, rfl⟩ := run_ret e
    obtain ⟨rfl, rfl⟩ := hv
    exact ⟨B, r, Stay.refl, trivial⟩
  | cons a as ih =>
    intro i X1 X2 B st r hn hz fs st' e vs hv
    obtain ⟨f, st1, e1, e2⟩ := run_some e
    obtain ⟨fs', st2, e3, e4⟩ := run_some e2
    obtain ⟨rfl, rfl⟩ := run_pure e4
    obtain ⟨v, vs', Y1, Y2, rfl, rfl, h1, h2⟩ := hv
    rw [List.append_assoc] at r hn hz h1 h2
    obtain ⟨B1, ra, sa, fa⟩ := imp_sound r hn hz e1 h1
    obtain ⟨B2, rb, sb, fb⟩ := ih ra (List.nodup_append.1 hn).2.1 (fun b hb => hz b (List.mem_append_right _ hb)) e3 (h2.keep (sa.keep fun _ _ => rfl))
    rw [List.append_assoc]
    exact ⟨B2, rb, sa.trans sb, fa.mono sb, fb⟩

theorem V1.toVR {O : Nat → Prop} {a : AV} {v : Value} (h : V1 w O B st a v) : VR w O B st a v := by
  cases a <;> first | exact h | exact h.elim

theorem impR_sound {X1 X2 : List Nat} (r : Rel (ZX Z (X1 ++ X2)) B st tm w) (hn : (X1 ++ X2).Nodup) (hz : ∀ b ∈ X1 ++ X2, ¬ Z b) {a a' : AV} {st' : St} {h : Nat} (e : run (impR h a) st = some (a', st')) {v : Value}
    (hv : OV3 w (Owned (ZX Z (X1 ++ X2)) B st) a v X1) :
    ∃ B', Rel (ZX Z X2) B' st' tm w ∧ Stay w w (Owned (ZX Z (X1 ++ X2)) B st) (Owned (ZX Z X2) B' st') B B' st st' ∧ VR w (Owned (ZX Z X2) B' st') B' st' a' v := by
  have key : run (imp h a) st = some (a', st') → OV2 w (Owned (ZX Z (X1 ++ X2)) B st) a v X1 →
      ∃ B', Rel (ZX Z X2) B' st' tm w ∧ Stay w w (Owned (ZX Z (X1 ++ X2)) B st) (Owned (ZX Z X2) B' st') B B' st st' ∧ VR w (Owned (ZX Z X2) B' st') B' st' a' v := fun e hv => by
    obtain ⟨B', ra, sa, va⟩ := imp_sound r hn hz e hv
    exact ⟨B', ra, sa, va.toVR⟩
  cases a with
  | tup vs =>
    obtain ⟨fs, st1, e1, e2⟩ := run_some e
    obtain ⟨rfl, rfl⟩ := run_pure e2
    obtain ⟨arr, rfl, hv⟩ := hv
    obtain ⟨B', ra, sa, fa⟩ := impAll_sound r hn hz e1 hv
    exact ⟨B', ra, sa, arr, rfl, fa⟩
  | undef => exact key e hv
  | agg fs => exact key e hv
  | nils => exact key e hv
  | lref a b c => exact key e hv
  | ptr a b c d => exact key e hv
  | eptr t x c => exact key e hv
  | nilp => exact key e hv
  | own t l => exact key e hv
  | val t x => exact key e hv
  | box fs => exact key e hv
  | fnp a b c => exact key e hv
  | mref a b => exact key e hv
  | mp t l => exact key e hv
end
end Go.Pv
