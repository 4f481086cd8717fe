/- What comes in as plain data, and a law's call. -/
import Derived.Test.YtcdobfeeabhkeaaPvW
import Derived.ProofKit
import Derived.Below
set_option autoImplicit false
set_option linter.unusedVariables false
namespace Go.Pv

def argFs (P : Program) (rec : TypeId → Ty → Bool) : Nat → List Field → Ty → Bool
  | _, [], .unit => true
  | off, f :: fs, .pair a b => Nat.beq f.offset off && Nat.beq (P.cellsOf f.type) a.size && rec f.type a && argFs P rec (off + a.size) fs b
  | _, _, _ => false

/-- an argument's type, as plain data -/
def argOk (P : Program) : Nat → TypeId → Ty → Bool
  | 0, _, _ => false
  | n + 1, t, ty => match P.underlying t, ty with
    | some (.int k), .int k' => decide (k = k')
    | some .bool, .bool => true
    | some .string, .str => true
    | some (.slice e), .slice u => Nat.beq (P.cellsOf e) u.size && !(Nat.beq u.size 0) && argOk P n e u
    | some (.struct fs), ty => Nat.beq (P.cellsOf t) ty.size && argFs P (argOk P n) 0 fs.toList ty
    | some (.array m e), .arr m' u => Nat.beq m m' && Nat.beq (P.cellsOf e) u.size && Nat.beq (P.cellsOf t) (m * u.size) && argOk P n e u
    | _, _ => false

/-- numbers within their kinds -/
def wfEl : (t : Ty) → El t → Prop
  | .int k, n => k.min ≤ n ∧ n ≤ k.max
  | .str, s => ByteArray.size s ≤ maxLen
  | .slice t, l => List.length l ≤ maxLen ∧ ∀ x ∈ (l : List (El t)), wfEl t x
  | .pair a b, x => wfEl a x.1 ∧ wfEl b x.2
  | .arr n t, l => List.length l = n ∧ ∀ x ∈ (l : List (El t)), wfEl t x
  | _, _ => True

theorem mapM_some {α β : Type} {f : α → Option β} : ∀ {l : List α} {ys : List β}, l.mapM f = some ys → ys.length = l.length ∧ ∀ (i : Nat) (a : α), l[i]? = some a → ∃ y, f a = some y ∧ ys[i]? = some y
  | [], ys, h => by
    simp at h; subst h
    exact ⟨rfl, fun i a h => by cases h⟩
  | b :: l, ys, h => by
    rw [List.mapM_cons] at h
    obtain ⟨y, h1, h2⟩ := Option.bind_eq_some_iff.1 h
    obtain ⟨zs, h3, h4⟩ := Option.bind_eq_some_iff.1 h2
    cases h4
    obtain ⟨g1, g2⟩ := mapM_some h3
    refine ⟨by simp [g1], fun i a ha => ?_⟩
    cases i with
    | zero => cases ha; exact ⟨y, h1, rfl⟩
    | succ i => exact g2 i a (by simpa using ha)

theorem range_mapM {β : Type} {f : Nat → Option β} {n : Nat} {ys : List β} (h : (List.range n).mapM f = some ys) : ys.length = n ∧ ∀ i, i < n → ∃ y, f i = some y ∧ ys[i]? = some y := by
  obtain ⟨h1, h2⟩ := mapM_some h
  exact ⟨by simpa using h1, fun i hi => h2 i i (by simp [hi])⟩

theorem cells_some {w : World} {base : Nat} {a : Addr} {n : Nat} {cs : List Value} (h : w.cells? base a n = some cs) : cs.length = n ∧ ∀ i, i < n → ∃ v, w.cell? (a.add i) = some v ∧ cs[i]? = some v := by
  unfold World.cells? at h
  split at h
  · exact range_mapM h
  · cases h

section
variable {H : Type} {enc : TypeId × Value → H} {P : Program} {w : World} {sp : Nat → Bool}

theorem rows_of {u : Ty} {O : Nat → Prop} {b off : Nat} : ∀ (n : Nat), (∀ i, i < n → ∃ (x : El u) (cs : List Value), Cells w O u x cs ∧ wfEl u x ∧ Lies w b (off + i * u.size) cs) →
    ∃ (l : List (El u)) (ds : List Value), l.length = n ∧ Row (Cells w O u) l ds ∧ Lies w b off ds ∧ ∀ x ∈ l, wfEl u x
  | 0, _ => ⟨[], [], rfl, rfl, (fun j v h => by cases h), by simp⟩
  | n + 1, h => by
    obtain ⟨l, ds, h1, h2, h3, h4⟩ := rows_of n fun i hi => h i (by omega)
    obtain ⟨x, cs, g1, g2, g3⟩ := h n (by omega)
    refine ⟨l ++ [x], ds ++ cs, by simp [h1], h2.append ⟨cs, [], by simp, g1, rfl⟩, fun j v hj => ?_, fun y hy => ?_⟩
    · have hlen : ds.length = n * u.size := by rw [h2.len fun _ _ h => h.len, h1]
      by_cases hlt : j < ds.length
      · rw [List.getElem?_append_left hlt] at hj
        exact h3 j v hj
      · rw [List.getElem?_append_right (by omega)] at hj
        have := g3 _ v hj
        rw [← this]; congr 2; omega
    · rcases List.mem_append.1 hy with hy | hy
      · exact h4 y hy
      · simp at hy; subst hy; exact g2

theorem drop_take_two {α : Type} (l : List α) (o n : Nat) (h : o + n ≤ l.length) : ∃ c, l = l.take o ++ (l.drop o).take n ++ c := ⟨(l.drop o).drop n, by rw [List.append_assoc, List.take_append_drop, List.take_append_drop]⟩

theorem read_fields {rec : TypeId → Ty → Bool} {fuel : Nat} {cs : List Value}
    (ih : ∀ t ty, rec t ty = true → ∀ cs d ps, DataW.trod enc P w 0 sp true fuel t cs = some (d, ps) → ∃ x : El ty, Cells w (fun _ => False) ty x cs ∧ wfEl ty x) :
    ∀ {fs : List Field} {ty : Ty} {off : Nat} {xs : List (DataW H × List MemPlace)}, argFs P rec off fs ty = true → cs.length = off + ty.size →
      (fs.mapM fun f => DataW.trod enc P w 0 sp true fuel f.type ((cs.drop f.offset).take (P.cellsOf f.type))) = some xs → ∃ x : El ty, Cells w (fun _ => False) ty x (cs.drop off) ∧ wfEl ty x
  | [], ty, off, xs, h, hl, hm => by
    cases ty <;> simp [argFs] at h
    refine ⟨(), ?_, trivial⟩
    simp only [Ty.size] at hl
    show cs.drop off = []
    rw [List.drop_eq_nil_of_le (by omega)]
  | f :: fs, ty, off, xs, h, hl, hm => by
    cases ty with
    | pair a b =>
      simp only [argFs, Bool.and_eq_true] at h
      obtain ⟨⟨⟨h1, h2⟩, h3⟩, h4⟩ := h
      have h1 := Nat.eq_of_beq_eq_true h1
      have h2 := Nat.eq_of_beq_eq_true h2
      rw [List.mapM_cons] at hm
      obtain ⟨y, g1, g2⟩ := Option.bind_eq_some_iff.1 hm
      obtain ⟨zs, g3, g4⟩ := Option.bind_eq_some_iff.1 g2
      simp only [Ty.size] at hl
      obtain ⟨x, q1, q2⟩ := ih _ _ h3 _ _ _ g1
      obtain ⟨z, q3, q4⟩ := read_fields ih h4 (by omega) g3
      refine ⟨(x, z), ⟨(cs.drop off).take a.size, cs.drop (off + a.size), ?_, ?_, q3⟩, q2, q4⟩
      · rw [← List.drop_drop, List.take_append_drop]
      · rw [h1, h2] at q1; exact q1
    | _ => simp [argFs] at h

theorem read_trod : ∀ {n : Nat} {t : TypeId} {ty : Ty}, argOk P n t ty = true → ∀ {fuel : Nat} {cs : List Value} {d : DataW H} {ps : List MemPlace}, DataW.trod enc P w 0 sp true fuel t cs = some (d, ps) → ∃ x : El ty, Cells w (fun _ => False) ty x cs ∧ wfEl ty x := by
  intro n
  induction n with
  | zero => intro t ty h; cases h
  | succ n ih =>
    intro t ty h fuel cs d ps hd
    cases fuel with
    | zero => cases hd
    | succ fuel =>
    unfold argOk at h
    unfold DataW.trod at hd
    split at h
    · rename_i k k' hu
      have h := of_decide_eq_true h
      subst h
      rw [hu] at hd
      split at hd <;> (try (rename_i e; simp only [Option.some.injEq, reduceCtorEq, TypeDesc.int.injEq] at e)) <;> try cases hd
      rename_i k1 k2 m
      subst e
      split at hd
      · rename_i hw
        obtain ⟨rfl, hw⟩ := hw
        simp only [Lit.wf, Bool.and_eq_true, decide_eq_true_eq] at hw
        exact ⟨m, rfl, hw⟩
      · cases hd
    · rename_i hu
      rw [hu] at hd
      split at hd <;> (try (rename_i e; simp only [Option.some.injEq, reduceCtorEq] at e)) <;> try cases hd
      rename_i b
      exact ⟨b, rfl, trivial⟩
    · rename_i hu
      rw [hu] at hd
      split at hd <;> (try (rename_i e; simp only [Option.some.injEq, reduceCtorEq] at e)) <;> try cases hd
      rename_i x
      split at hd
      · rename_i hl
        exact ⟨x, rfl, hl⟩
      · cases hd
    · rename_i el u hu
      simp only [Bool.and_eq_true, Bool.not_eq_true'] at h
      obtain ⟨⟨h1, h2⟩, h3⟩ := h
      have h1 := Nat.eq_of_beq_eq_true h1
      have hpos : u.size ≠ 0 := fun h => by rw [h] at h2; cases h2
      rw [hu] at hd
      split at hd <;> (try (rename_i e; simp only [Option.some.injEq, reduceCtorEq] at e)) <;> try cases hd
      · exact ⟨[], ⟨none, 0, rfl, Nat.le_refl _, .inl rfl⟩, Nat.zero_le _, by simp⟩
      · rename_i el' a len cap
        simp only [TypeDesc.slice.injEq] at e
        subst e
        dsimp only at hd
        split at hd
        · rename_i hc
          obtain ⟨elems, g1, g2⟩ := Option.bind_eq_some_iff.1 hd
          obtain ⟨hel, hat⟩ := range_mapM g1
          have hb : len ≠ 0 → ∃ b off, a = ⟨b, off, none⟩ ∧ b < w.heap.size := fun hne => by
            obtain ⟨y, k1, _⟩ := hat 0 (Nat.pos_of_ne_zero hne)
            obtain ⟨cs0, k2, _⟩ := Option.bind_eq_some_iff.1 k1
            rw [h1] at k2
            obtain ⟨v, k3, _⟩ := (cells_some k2).2 0 (Nat.pos_of_ne_zero hpos)
            obtain ⟨b, off, spot⟩ := a
            simp only [Nat.zero_mul, Addr.add, if_true, World.cell?] at k3
            split at k3
            · rename_i c t' f' hh
              split at k3
              · cases k3
              · rename_i hs
                cases spot with
                | none => exact ⟨b, off, rfl, lt_of_get hh⟩
                | some _ => simp at hs
            · cases k3
          by_cases hz : len = 0
          · subst hz
            exact ⟨[], ⟨some a, cap, rfl, Nat.zero_le _, .inl rfl⟩, Nat.zero_le _, by simp⟩
          · obtain ⟨b, off, rfl, hlt⟩ := hb hz
            obtain ⟨l, ds, q1, q2, q3, q4⟩ := rows_of (w := w) (O := fun _ => False) (u := u) (b := b) (off := off) len fun i hi => by
              obtain ⟨y, k1, _⟩ := hat i hi
              obtain ⟨cs0, k2, k3⟩ := Option.bind_eq_some_iff.1 k1
              rw [h1] at k2
              obtain ⟨x, m1, m2⟩ := ih h3 k3
              obtain ⟨n1, n2⟩ := cells_some k2
              refine ⟨x, cs0, m1, m2, fun j v hj => ?_⟩
              have hjl : j < u.size := by rw [← n1]; exact (List.getElem?_eq_some_iff.1 hj).1
              obtain ⟨v', n3, n4⟩ := n2 j hjl
              rw [hj] at n4
              cases n4
              rw [← n3]
              congr 1
              unfold Addr.add
              split <;> split <;> simp_all <;> omega
            refine ⟨l, ⟨some ⟨b, off, none⟩, cap, by rw [q1], by rw [q1]; exact hc.2.1, .inr ⟨b, off, ds, rfl, id, hlt, q3, q2⟩⟩, by rw [q1]; exact Nat.le_trans hc.2.1 hc.2.2, q4⟩
        · cases hd
    · rename_i ty0 x0 ty1 fs hu
      simp only [Bool.and_eq_true] at h
      have h1 := Nat.eq_of_beq_eq_true h.1
      rw [hu] at hd
      split at hd <;> (try (rename_i e; simp only [Option.some.injEq, reduceCtorEq] at e)) <;> try cases hd
      rotate_left
      · exact (‹∀ (fs_1 : Array Field), some (TypeDesc.struct fs) = some (TypeDesc.struct fs_1) → False› fs rfl).elim
      rename_i fs' cs'
      simp only [TypeDesc.struct.injEq] at e
      subst e
      split at hd
      · rename_i hl
        obtain ⟨xs, g1, g2⟩ := Option.map_eq_some_iff.1 hd
        obtain ⟨x, q1, q2⟩ := read_fields (fun t ty hr cs d ps => ih hr) h.2 (by rw [hl, h1]; omega) g1
        exact ⟨x, q1, q2⟩
      · cases hd
    · rename_i m el m' u hu
      simp only [Bool.and_eq_true] at h
      obtain ⟨⟨⟨h0, h1⟩, h2⟩, h3⟩ := h
      have h0 := Nat.eq_of_beq_eq_true h0
      have h1 := Nat.eq_of_beq_eq_true h1
      have h2 := Nat.eq_of_beq_eq_true h2
      subst h0
      rw [hu] at hd
      split at hd <;> (try (rename_i e; simp only [Option.some.injEq, reduceCtorEq] at e)) <;> try cases hd
      rotate_left
      · exact (‹∀ (n : Nat) (e : TypeId), some (TypeDesc.array m el) = some (TypeDesc.array n e) → False› m el rfl).elim
      rename_i n' el' cs'
      simp only [TypeDesc.array.injEq] at e
      obtain ⟨rfl, rfl⟩ := e
      split at hd
      · rename_i cs0 x0 hl
        obtain ⟨xs, g1, g2⟩ := Option.map_eq_some_iff.1 hd
        obtain ⟨_, hat⟩ := range_mapM g1
        have hrow : ∀ k, k ≤ m → ∃ l : List (El u), List.length l = k ∧ Row (Cells w (fun _ => False) u) l (cs0.take (k * u.size)) ∧ ∀ x ∈ l, wfEl u x := by
          intro k
          induction k with
          | zero => intro _; exact ⟨[], rfl, by simp; rfl, by simp⟩
          | succ k ihk =>
            intro hk
            obtain ⟨l, q1, q2, q3⟩ := ihk (by omega)
            obtain ⟨y, k1, _⟩ := hat k (by omega)
            rw [h1] at k1
            obtain ⟨x, m1, m2⟩ := ih h3 k1
            refine ⟨l ++ [x], by simp [q1], ?_, fun z hz => ?_⟩
            · have e : cs0.take ((k + 1) * u.size) = cs0.take (k * u.size) ++ (cs0.drop (k * u.size)).take u.size := by rw [Nat.add_mul, Nat.one_mul, List.take_add]
              rw [e]
              exact q2.append ⟨_, [], by simp, m1, rfl⟩
            · rcases List.mem_append.1 hz with hz | hz
              · exact q3 z hz
              · simp at hz; subst hz; exact m2
        obtain ⟨l, q1, q2, q3⟩ := hrow m (Nat.le_refl _)
        rw [List.take_of_length_le (by rw [hl, h2]; exact Nat.le_refl _)] at q2
        exact ⟨l, ⟨q1, q2⟩, q1, q3⟩
      · cases hd
    · cases h


/-- all arguments -/
def argsOk (P : Program) : List TypeId → List Ty → Bool
  | [], [] => true
  | t :: ts, ty :: tys => argOk P 12 t ty && argsOk P ts tys
  | _, _ => false

def wfAll : (tys : List Ty) → Tu tys → Prop
  | [], _ => True
  | [t], x => wfEl t x
  | t :: s :: ts, x => wfEl t x.1 ∧ wfAll (s :: ts) x.2

def avs (ls : List Leaf) : List AV := ls.map fun l => .val l.1 l.2

theorem shape_of {r : Reach} {b0 : Nat} {t : TypeId} {ty : Ty} {n : Nat} (h : argOk P n t ty = true) {v : Value} (hval : Value.okWide P w r b0 t v) {x : El ty} {O : Nat → Prop} (hc : Cells w O ty x v.cells.toList) : v = toV ty v.cells.toList := by
  cases n with
  | zero => cases h
  | succ n =>
  unfold argOk at h
  split at h
  · rename_i k k' hu
    unfold Value.okWide at hval
    rw [hu] at hval
    cases v <;> first | rfl | (simp [Cell.okWide, hu, Cell.ok] at hval)
  · rename_i hu
    unfold Value.okWide at hval
    rw [hu] at hval
    cases v <;> first | rfl | (simp [Cell.okWide, hu, Cell.ok] at hval)
  · rename_i hu
    unfold Value.okWide at hval
    rw [hu] at hval
    cases v <;> first | rfl | (simp [Cell.okWide, hu, Cell.ok] at hval)
  · rename_i hu
    unfold Value.okWide at hval
    rw [hu] at hval
    cases v <;> first | rfl | (simp [Cell.okWide, hu, Cell.ok] at hval)
  · rename_i ty0 x0 ty1 fs hu
    unfold Value.okWide at hval
    rw [hu] at hval
    obtain ⟨cs, rfl, _⟩ := hval
    rw [Bool.and_eq_true] at h
    have hag : ty0.isAgg = true := by
      have h2 := h.2
      revert h2
      generalize fs.toList = l
      intro h2
      cases ty0 <;> first | rfl | (cases l <;> cases h2)
    unfold toV; rw [hag]; rfl
  · rename_i m el m' u hu
    unfold Value.okWide at hval
    rw [hu] at hval
    obtain ⟨cs, rfl, _⟩ := hval
    rfl
  · cases h

theorem read_all {r : Reach} {b0 : Nat} : ∀ {ts : List TypeId} {tys : List Ty} {vs : List Value} {ds : List (DataW H)} {ps : List MemPlace}, argsOk P ts tys = true → DataW.TrodAll enc P w 0 sp true ts vs ds ps →
    (∀ (j : Nat) t v, ts[j]? = some t → vs[j]? = some v → Value.okWide P w r b0 t v) → ∃ x : Tu tys, wfAll tys x ∧ ∀ O : Nat → Prop, (∀ b, ¬ O b) → OVl w O (avs (ofTu tys x)) vs []
  | [], [], [], ds, ps, _, _, _ => ⟨(), trivial, fun _ _ => ⟨rfl, rfl⟩⟩
  | t :: ts, ty :: tys, v :: vs, [], ps, h, ht, hv => ht.elim
  | t :: ts, ty :: tys, v :: vs, d :: ds, ps, h, ht, hv => by
    simp only [argsOk, Bool.and_eq_true] at h
    obtain ⟨p, q, ⟨fuel, h1⟩, h2, rfl⟩ := ht
    obtain ⟨x, g1, g2⟩ := read_trod h.1 h1
    obtain ⟨y, g3, g4⟩ := read_all h.2 h2 fun j t v h3 h4 => hv (j + 1) t v (by simpa using h3) (by simpa using h4)
    have hs := shape_of h.1 (hv 0 t v rfl rfl) g1
    have hov : ∀ O : Nat → Prop, (∀ b, ¬ O b) → OV2 w O (.val ty x) v [] := fun O hO => ⟨⟨_, g1.mono (Nat.le_refl _) (fun _ _ _ => rfl) (fun b _ h => (hO b h).elim), hs⟩, rfl⟩
    cases tys with
    | nil => exact ⟨x, g2, fun O hO => ⟨v, vs, [], [], rfl, rfl, hov O hO, g4 O hO⟩⟩
    | cons s tys => exact ⟨(x, y), ⟨g2, g3⟩, fun O hO => ⟨v, vs, [], [], rfl, rfl, hov O hO, g4 O hO⟩⟩
  | [], _ :: _, _, _, _, h, _, _ => by cases h
  | _ :: _, [], _, _, _, h, _, _ => by cases h
  | [], [], _ :: _, ds, ps, _, ht, _ => by cases ds <;> exact ht.elim
  | _ :: _, _ :: _, [], ds, ps, _, ht, _ => by cases ds <;> exact ht.elim

theorem take_avs : ∀ (tys : List Ty) (x : Tu tys), takeShs (tys.map .val) (avs (ofTu tys x)) = some (ofTu tys x)
  | [], _ => rfl
  | [t], x => by simp [avs, ofTu, takeShs, takeSh, ifB]
  | t :: s :: ts, x => by
    have ih := take_avs (s :: ts) x.2
    simp only [List.map_cons] at ih ⊢
    unfold avs at ih ⊢
    simp only [ofTu, List.map_cons, takeShs, takeSh, ifB, decide_true, ih, Option.bind_some, Option.map_some, List.singleton_append]

theorem toTu_ofTu : ∀ (tys : List Ty) (x : Tu tys), toTu tys (ofTu tys x) = some x
  | [], _ => rfl
  | [t], x => by simp [ofTu, toTu, castEl]
  | t :: s :: ts, x => by
    have ih := toTu_ofTu (s :: ts) x.2
    simp [ofTu, toTu, castEl, ih]

/-- a law's call -/
theorem law_calls {f : FuncId} {tys : List Ty} {g : Tu tys → Option (ROut [⟨.val .bool, [], [.bool]⟩])} (hk : Known P f (Sig.sp ⟨tys.map .val, tys, [⟨.val .bool, [], [.bool]⟩]⟩ g)) {x : Tu tys} (hx : g x = some true)
    {vs : Array Value} (ho : ∀ O : Nat → Prop, (∀ b, ¬ O b) → OVl w O (avs (ofTu tys x)) vs.toList []) : Calls P f vs w fun e w' => e = .returned (.bool true) ∧ RowKit.Below w.heap.size w w' := by
  refine (hk.sound (avs (ofTu tys x)) true ?_ (fun _ => False) [] vs w List.nodup_nil (by simp) (fun b h => h.elim) (by simp) (ho _ fun b h => h.elim id (by simp))).mono ?_
  · show ((takeShs (tys.map .val) (avs (ofTu tys x))).bind (toTu tys)).bind g = some true
    rw [take_avs, Option.bind_some, toTu_ofTu, Option.bind_some, hx]
  · rintro e w' ⟨v, X1, X2, rfl, _, _, h3, _, t⟩
    obtain ⟨⟨cs, h4, rfl⟩, _⟩ := h3
    cases h4
    exact ⟨rfl, t.env.1, t.env.2.1, t.env.2.2, t.size, fun k hk => t.same k hk (by simp)⟩

theorem trod_len : ∀ {ts : List TypeId} {tys : List Ty} {vs : List Value} {ds : List (DataW H)} {ps : List MemPlace}, DataW.TrodAll enc P w 0 sp true ts vs ds ps → argsOk P ts tys = true → ds.length = tys.length
  | [], [], [], [], _, _, _ => rfl
  | t :: ts, ty :: tys, v :: vs, d :: ds, ps, ⟨p, q, _, h2, _⟩, h => by
    simp only [argsOk, Bool.and_eq_true] at h
    rw [List.length_cons, List.length_cons, trod_len h2 h.2]
  | [], _ :: _, _, _, _, _, h => by cases h
  | _ :: _, [], _, _, _, _, h => by cases h
  | [], [], _ :: _, ds, _, h, _ => by cases ds <;> exact h.elim
  | [], [], [], _ :: _, _, h, _ => h.elim
  | _ :: _, _ :: _, [], ds, _, h, _ => by cases ds <;> exact h.elim
  | _ :: _, _ :: _, _ :: _, [], _, h, _ => h.elim
end
end Go.Pv
