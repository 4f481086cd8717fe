/- Any order of a region is as good as the text's. -/
import Derived.Test.YtcdobfeeabhkeaaPvR
set_option autoImplicit false
set_option linter.unusedVariables false
set_option linter.unusedSimpArgs false
namespace Go.Pv

def bits (acc : Array Nat) (after : List Edge) (s : Nat) : Nat := after.foldl (fun s e => if Region.binds .any e then s ||| 2 ^ e.on ||| acc.getD e.on 0 else s) s

theorem bits_spec (acc : Array Nat) : ∀ (after : List Edge) (s j : Nat), (bits acc after s).testBit j = true → s.testBit j = true ∨ ∃ e ∈ after, Region.binds .any e = true ∧ (j = e.on ∨ (acc.getD e.on 0).testBit j = true)
  | [], s, j, h => .inl h
  | e :: after, s, j, h => by
    unfold bits at h
    rw [List.foldl_cons] at h
    rcases bits_spec acc after _ j h with h | ⟨e', h1, h2⟩
    · by_cases hb : Region.binds .any e = true
      · rw [if_pos hb, Nat.testBit_or, Nat.testBit_or, Bool.or_eq_true, Bool.or_eq_true] at h
        rcases h with (h | h) | h
        · exact .inl h
        · rw [Nat.testBit_two_pow, decide_eq_true_eq] at h
          exact .inr ⟨e, List.mem_cons_self, hb, .inl h.symm⟩
        · exact .inr ⟨e, List.mem_cons_self, hb, .inr h⟩
      · rw [if_neg hb] at h; exact .inl h
    · exact .inr ⟨e', List.mem_cons_of_mem _ h1, h2⟩

def befores (l : List Oper) (acc : Array Nat) : Array Nat := l.foldl (fun acc o => acc.push (bits acc o.after.toList 0)) acc

theorem befores_old : ∀ (l : List Oper) (acc : Array Nat) (i : Nat), i < acc.size → (befores l acc).getD i 0 = acc.getD i 0
  | [], _, _, _ => rfl
  | o :: l, acc, i, h => by
    unfold befores
    rw [List.foldl_cons]
    refine (befores_old l _ i (by rw [Array.size_push]; omega)).trans ?_
    rw [Array.getD_eq_getD_getElem?, Array.getD_eq_getD_getElem?, Array.getElem?_push, if_neg (by omega)]

theorem befores_spec : ∀ (l : List Oper) (acc : Array Nat) (k : Nat) (o : Oper), l[k]? = some o → ∀ j, ((befores l acc).getD (acc.size + k) 0).testBit j = true →
    ∃ e ∈ o.after.toList, Region.binds .any e = true ∧ (j = e.on ∨ ((befores l acc).getD e.on 0).testBit j = true)
  | [], _, _, _, h, _, _ => by cases h
  | o' :: l, acc, 0, o, h, j, hb => by
    obtain rfl : o' = o := by simpa using h
    have hacc : ∀ i, i < acc.size → (befores (o' :: l) acc).getD i 0 = acc.getD i 0 := befores_old _ _
    have h1 : (befores (o' :: l) acc).getD acc.size 0 = bits acc o'.after.toList 0 := by
      show (befores l (acc.push (bits acc o'.after.toList 0))).getD acc.size 0 = _
      rw [befores_old l _ _ (by rw [Array.size_push]; omega), Array.getD_eq_getD_getElem?, Array.getElem?_push, if_pos rfl]
      rfl
    rw [Nat.add_zero, h1] at hb
    rcases bits_spec acc _ 0 j hb with h0 | ⟨e, h2, h3, h4⟩
    · rw [Nat.zero_testBit] at h0; cases h0
    · refine ⟨e, h2, h3, h4.imp id fun h5 => ?_⟩
      by_cases hlt : e.on < acc.size
      · rw [hacc _ hlt]; exact h5
      · rw [Array.getD_eq_getD_getElem?, Array.getElem?_eq_none (by omega)] at h5
        rw [Option.getD_none, Nat.zero_testBit] at h5; cases h5
  | o' :: l, acc, k + 1, o, h, j, hb => by
    have := befores_spec l (acc.push (bits acc o'.after.toList 0)) k o (by simpa using h) j (by rw [Array.size_push, Nat.add_right_comm, Nat.add_assoc]; exact hb)
    exact this

theorem before_eq (ops : Array Oper) : Region.before ops = befores ops.toList #[] := by
  unfold Region.before befores
  rw [← Array.foldl_toList]
  congr 1
  funext acc o
  unfold bits
  rw [← Array.foldl_toList]

theorem before_spec {ops : Array Oper} {i : Nat} {o : Oper} (ho : ops[i]? = some o) {j : Nat} (h : ((Region.before ops).getD i 0).testBit j = true) :
    ∃ e ∈ o.after, Region.binds .any e = true ∧ (j = e.on ∨ ((Region.before ops).getD e.on 0).testBit j = true) := by
  rw [before_eq] at h ⊢
  obtain ⟨e, h1, h2⟩ := befores_spec ops.toList #[] i o (by simpa using ho) j (by simpa using h)
  exact ⟨e, by simpa using h1, h2⟩

section
variable {E : Env} {ops : Array Oper}

def BF (ops : Array Oper) (i j : Nat) : Prop := ((Region.before ops).getD j 0).testBit i = true

structure Left (ops : Array Oper) (listed : Array Bool) (l : List Nat) : Prop where
  size : listed.size = ops.size
  mem : ∀ i, listed.getD i true = false ↔ i ∈ l
  sorted : l.Pairwise (· < ·)
  closed : ∀ i j, i < ops.size → listed.getD i true = true → BF ops j i → listed.getD j true = true

theorem getD_true_false {listed : Array Bool} {i : Nat} (h : i < listed.size) (d d' : Bool) : listed.getD i d = listed.getD i d' := by
  rw [Array.getD_eq_getD_getElem?, Array.getD_eq_getD_getElem?, Array.getElem?_eq_getElem h]; rfl

theorem Left.pick {listed : Array Bool} {l1 l2 : List Nat} {i : Nat} (h : Left ops listed (l1 ++ i :: l2)) {o : Oper} (ho : ops[i]? = some o) (hr : ∀ e ∈ o.after, Region.binds .any e = true → listed.getD e.on false = true) :
    Left ops (listed.setIfInBounds i true) (l1 ++ l2) ∧ ∀ j, j ∈ l1 ++ i :: l2 → ¬ BF ops j i := by
  have hi : i < ops.size := (Array.getElem?_eq_some_iff.1 ho).1
  have hno : ∀ j, BF ops j i → listed.getD j true = true := fun j hb => by
    obtain ⟨e, h1, h2, h3⟩ := before_spec ho hb
    have hl := hr e h1 h2
    have hlt : e.on < listed.size := by
      rcases Nat.lt_or_ge e.on listed.size with h | h
      · exact h
      · rw [Array.getD_eq_getD_getElem?, Array.getElem?_eq_none h] at hl; cases hl
    have hl' : listed.getD e.on true = true := by rw [getD_true_false hlt true false]; exact hl
    rcases h3 with rfl | h3
    · exact hl'
    · exact h.closed e.on j (by rw [← h.size]; exact hlt) hl' h3
  have hset : ∀ k, (listed.setIfInBounds i true).getD k true = if k = i then true else listed.getD k true := fun k => by
    rw [Array.getD_eq_getD_getElem?, Array.getD_eq_getD_getElem?, Array.getElem?_setIfInBounds]
    by_cases e : i = k
    · subst e; simp [h.size, hi]
    · rw [if_neg e, if_neg (fun h => e h.symm)]
  have hs := h.sorted
  rw [List.pairwise_append, List.pairwise_cons] at hs
  obtain ⟨s1, ⟨s2, s3⟩, s4⟩ := hs
  refine ⟨⟨by simpa using h.size, fun k => ?_, ?_, fun k j hk hl hb => ?_⟩, fun j hj hb => ?_⟩
  · rw [hset]
    by_cases e : k = i
    · subst e
      rw [if_pos rfl]
      refine ⟨fun h => by (cases h), fun hm => ?_⟩
      rcases List.mem_append.1 hm with hm | hm
      · have := s4 _ hm _ List.mem_cons_self; omega
      · have := s2 _ hm; omega
    · rw [if_neg e, h.mem]; simp [e]
  · rw [List.pairwise_append]
    exact ⟨s1, s3, fun a ha b hb => s4 a ha b (List.mem_cons_of_mem _ hb)⟩
  · rw [hset] at hl ⊢
    split
    · rfl
    · by_cases e : k = i
      · subst e; exact hno j hb
      · rw [if_neg e] at hl; exact h.closed k j hk hl hb
  · have h1 := (h.mem j).2 hj
    rw [hno j hb] at h1; cases h1

theorem lin {md : Unit} (hok : edgesOk ops = true) : ∀ (fuel t : Nat) (listed : Array Bool) (Lg : List Log) (st st' : St), Lg.length = fuel → Left ops listed (Lg.map (·.1)) → (∀ p ∈ Lg, p.1 < ops.size) →
    Lg.Pairwise (fun q p => BF ops q.1 p.1 ∨ Apart q p) → RunsL E ops Lg st st' → ∃ st'', Runs E ops (Region.linearise.go .any ops fuel t listed []) st st'' ∧ sim st'' st' := by
  intro fuel
  induction fuel with
  | zero =>
    intro t listed Lg st st' hl _ _ _ hr
    have : Lg = [] := List.length_eq_zero_iff.1 hl
    subst this
    exact ⟨st, rfl, hr⟩
  | succ fuel ih =>
    intro t listed Lg st st' hl hL hlt hpw hr
    have hpick : ∀ i ∈ Region.ready .any ops listed, ∃ st'', Runs E ops (i :: Region.linearise.go .any ops fuel (t / (Region.ready .any ops listed).length) (listed.setIfInBounds i true) []) st st'' ∧ sim st'' st' := fun i hi => by
      obtain ⟨h0, o, ho, hr'⟩ := mem_ready.1 hi
      obtain ⟨p, hp, rfl⟩ := List.mem_map.1 ((hL.mem i).1 h0)
      obtain ⟨L1, L2, rfl⟩ := List.append_of_mem hp
      rw [List.map_append, List.map_cons] at hL
      obtain ⟨hL', hno⟩ := hL.pick ho hr'
      rw [List.pairwise_append, List.pairwise_cons] at hpw
      obtain ⟨w1, ⟨w2, w3⟩, w4⟩ := hpw
      have hfront := hr.front fun q hq => (w4 q hq p List.mem_cons_self).resolve_left (hno q.1 (List.mem_append_left _ (List.mem_map_of_mem hq)))
      obtain ⟨st1, g1, g2⟩ := hfront
      have := ih (t / (Region.ready .any ops listed).length) (listed.setIfInBounds p.1 true) (L1 ++ L2) st1 st' (by simp at hl ⊢; omega) (by rw [List.map_append]; exact hL')
        (fun q hq => hlt q (by rcases List.mem_append.1 hq with h | h; exact List.mem_append_left _ h; exact List.mem_append_right _ (List.mem_cons_of_mem _ h)))
        (by rw [List.pairwise_append]; exact ⟨w1, w3, fun a ha b hb => w4 a ha b (List.mem_cons_of_mem _ hb)⟩) g2
      obtain ⟨st'', f1, f2⟩ := this
      exact ⟨st'', ⟨st1, stepR_run g1, f1⟩, f2⟩
    simp only [Region.linearise.go]
    change ∃ st'', Runs E ops (match (Region.ready .any ops listed)[t % (Region.ready .any ops listed).length]? with
      | some i => Region.linearise.go .any ops fuel (t / (Region.ready .any ops listed).length) (listed.setIfInBounds i true) [i]
      | none => [].reverse) st st'' ∧ sim st'' st'
    cases hi : (Region.ready .any ops listed)[t % (Region.ready .any ops listed).length]? with
    | some i =>
      dsimp only
      rw [linearise_go_acc, List.reverse_singleton, List.singleton_append]
      exact hpick i (List.mem_of_getElem? hi)
    | none =>
      exfalso
      have hnil : Region.ready .any ops listed = [] := by
        cases hr : Region.ready .any ops listed with
        | nil => rfl
        | cons x xs =>
          rw [hr] at hi
          have hlt : t % (x :: xs).length < (x :: xs).length := Nat.mod_lt _ (by simp)
          simp at hi
          simp at hlt
          omega
      cases Lg with
      | nil => cases hl
      | cons p Lg =>
        have hp : p.1 < ops.size := hlt p List.mem_cons_self
        have hmem : p.1 ∈ Region.ready .any ops listed := by
          refine mem_ready.2 ⟨(hL.mem p.1).2 (by simp), ops[p.1], by simp [hp], fun e he hb => ?_⟩
          unfold edgesOk at hok
          rw [List.all_eq_true] at hok
          have h1 := hok p.1 (List.mem_range.2 hp)
          rw [Array.getElem?_eq_getElem hp] at h1
          dsimp only at h1
          rw [Array.all_eq_true_iff_forall_mem] at h1
          have h2 := h1 e he
          rw [hb, Bool.not_true, Bool.false_or, Nat.blt_eq] at h2
          have hlt' : e.on < listed.size := by rw [hL.size]; omega
          rw [getD_true_false hlt' false true]
          cases hv : listed.getD e.on true with
          | true => rfl
          | false =>
            have hm := (hL.mem e.on).1 hv
            have hs := hL.sorted
            rw [List.map_cons, List.pairwise_cons] at hs
            rw [List.map_cons] at hm
            rcases List.mem_cons.1 hm with hm | hm
            · omega
            · have := hs.1 _ hm; omega
        rw [hnil] at hmem; cases hmem

theorem apartL_some {r1 w1 r2 w2 : List Nat} {i j : Nat} (h : apartL r1 w1 r2 w2 = true) : Apart (j, r2, w2) (i, r1, w1) := by
  unfold apartL at h
  simp only [Bool.and_eq_true, Bool.not_eq_true', List.any_eq_false, Bool.or_eq_true, List.contains_iff_mem, not_or] at h
  obtain ⟨h1, h2⟩ := h
  exact ⟨fun x hx => ⟨h2 x hx, fun hx' => (h1 x hx').2 hx⟩, fun x hx => (h1 x hx).1⟩

theorem indepAll_some : ∀ {logs : List Log}, indepAll (fun i j => ((Region.before ops).getD j 0).testBit i) logs = true → logs.Pairwise (fun p q => BF ops q.1 p.1 ∨ Apart q p)
  | [], _ => .nil
  | (i, r, w) :: rest, h => by
    unfold indepAll at h
    rw [Bool.and_eq_true, List.all_eq_true] at h
    refine .cons (fun q hq => ?_) (indepAll_some h.2)
    have := h.1 q hq
    rw [Bool.or_eq_true] at this
    exact this.imp id fun h => apartL_some h

theorem drawP_some {R : Type} {K : St → Option R} {r : R} : ∀ {l : List Nat} {st : St} {logs : List Log}, drawP E ops l st logs K = some r →
    ∃ (Lg : List Log) (st' : St), Lg.map (·.1) = l ∧ RunsL E ops Lg st st' ∧ edgesOk ops = true ∧ (Lg.reverse ++ logs).Pairwise (fun p q => BF ops q.1 p.1 ∨ Apart q p) ∧ K st' = some r
  | [], st, logs, h => by
    unfold drawP at h
    cases hc : (edgesOk ops && indepAll (fun i j => ((Region.before ops).getD j 0).testBit i) logs) with
    | false => rw [hc] at h; cases h
    | true =>
      rw [hc] at h
      rw [Bool.and_eq_true] at hc
      exact ⟨[], st, rfl, fun x => .refl _ x, hc.1, indepAll_some hc.2, h⟩
  | i :: l, st, logs, h => by
    unfold drawP at h
    rw [stepL_R] at h
    obtain ⟨⟨st1, rs, ws⟩, h1, h2⟩ := Option.bind_eq_some_iff.1 h
    obtain ⟨Lg, st', g1, g2, g3, g4, g5⟩ := drawP_some h2
    exact ⟨(i, rs, ws) :: Lg, st', by rw [List.map_cons, g1], ⟨st1, h1, g2⟩, g3, by rw [List.reverse_cons, List.append_assoc]; exact g4, g5⟩
end

section
variable {E : Env} {Z M : Nat → Prop} {B : Nat → Option Nat} {st st' : St} {a : Act} {w w0 : World} {n : Nat} {pn : Nat → Option Nat}

theorem sim.gen {st st' : St} (s : sim st st') (h : Nat) : st.gen h = st'.gen h := ((s (2 * h + 1)).2 h rfl).1
theorem sim.cont {st st' : St} (s : sim st st') (h : Nat) : st.cont h = st'.cont h := ((s (2 * h + 1)).2 h rfl).2
theorem sim.get {st st' : St} (s : sim st st') (t : Nat) : st.get t = st'.get t := (s (2 * t)).1 t rfl

theorem Inv.sim (i : Inv n pn Z M w0 B st a.tmps w) (s : sim st st') : Inv n pn Z M w0 B st' a.tmps w := by
  have hO : ∀ b, Owned Z B st' b ↔ Owned Z B st b := fun b => by
    unfold Owned
    constructor
    · rintro (h | ⟨k, h1, h2⟩)
      · exact .inl h
      · exact .inr ⟨k, by rw [s.cont]; exact h1, h2⟩
    · rintro (h | ⟨k, h1, h2⟩)
      · exact .inl h
      · exact .inr ⟨k, by rw [← s.cont]; exact h1, h2⟩
  have sy : Stay w w (Owned Z B st) (Owned Z B st') B B st st' :=
    ⟨Nat.le_refl _, fun _ _ _ => rfl, fun b _ h => (hO b).1 h, fun h => .inl (s.gen h), fun h _ => ⟨rfl, fun t l hl => ⟨l, by rw [s.cont]; exact hl, rfl⟩⟩, fun b arr e h => ⟨arr, h, rfl⟩⟩
  refine ⟨i.rel.step sy (fun h => .inl ⟨(s.cont h).symm, rfl, fun _ _ => rfl⟩) (fun h h' b h1 h2 h3 h4 => i.rel.inj h h' b (by rw [s.cont]; exact h1) (by rw [s.cont]; exact h2) h3 h4)
    (fun h b h1 h2 => i.rel.ext h b (by rw [s.cont]; exact h1) h2) fun t => .inl ⟨(s.get t).symm, rfl⟩, i.tr, fun b hb hl => ?_, i.hz, i.size, fun p b hp h1 => i.pin p b hp (by rw [s.gen]; exact h1)⟩
  obtain ⟨k, h1, h2⟩ := hl
  exact i.own b hb ⟨k, by rw [s.cont]; exact h1, h2⟩

theorem region_wp (G : Good E) (hE : E.n = n) (i : Inv n pn Z M w0 B st a.tmps w) {R : Type} {id : Nat} {ops : Array Oper} {K : St → Option R} {r : R} (e : exec (stepsP E ops (List.range ops.size)) st (fun _ st' => K st') = some r) {Q : Exit → Act → World → Prop}
    (h : ∀ a' B' st' w', a'.defers = a.defers → Inv n pn Z M w0 B' st' a'.tmps w' → K st' = some r → Q .normal a' w') : (Code.region id ops false).wp E.P Q a w := by
  rw [exec_run] at e
  obtain ⟨⟨u, st1⟩, h1, h2⟩ := Option.bind_eq_some_iff.1 e
  refine wp_region ?_
  exact (stepsP_runs h1).wp G hE i fun a' B' w' hd i' => h a' B' st1 w' hd i' h2

theorem draw_wp (G : Good E) (hE : E.n = n) (i : Inv n pn Z M w0 B st a.tmps w) {R : Type} {id : Nat} {ops : Array Oper} {K : St → Option R} {r : R} (e : drawP E ops (List.range ops.size) st [] K = some r) {Q : Exit → Act → World → Prop}
    (h : ∀ a' B' st' w', a'.defers = a.defers → Inv n pn Z M w0 B' st' a'.tmps w' → K st' = some r → Q .normal a' w') : (Code.region id ops true).wp E.P Q a w := by
  obtain ⟨Lg, st1, hm, hr, hok, hp, hk⟩ := drawP_some e
  rw [List.append_nil, List.pairwise_reverse] at hp
  have hlen : Lg.length = ops.size := by
    have := congrArg List.length hm
    simpa using this
  refine wp_region_draw fun t => ?_
  have hsch : Region.schedule (E.P.follows .mixedOrders) ops t = Region.linearise .any ops t := by
    unfold Region.schedule; rw [G.mixed]; rfl
  rw [hsch]
  have hL : Left ops (Array.replicate ops.size false) (Lg.map (·.1)) := by
    rw [hm]
    refine ⟨by simp, fun i => ?_, List.pairwise_lt_range, fun i j hi hl => ?_⟩
    · rw [Array.getD_eq_getD_getElem?, Array.getElem?_replicate, List.mem_range]
      by_cases hi : i < ops.size
      · simp [hi]
      · simp [hi]
    · rw [Array.getD_eq_getD_getElem?, Array.getElem?_replicate, if_pos hi] at hl
      cases hl
  have hlt : ∀ p ∈ Lg, p.1 < ops.size := fun p hp => by
    have : p.1 ∈ Lg.map (·.1) := List.mem_map_of_mem hp
    rw [hm] at this
    exact List.mem_range.1 this
  obtain ⟨st2, h2, h3⟩ := lin (E := E) (md := ()) hok ops.size t _ Lg st st1 hlen hL hlt hp hr
  exact Runs.wp (a := a) G hE i.drew h2 fun a' B' w' hd i' => h a' B' st1 w' hd (i'.sim h3) hk
end
end Go.Pv
