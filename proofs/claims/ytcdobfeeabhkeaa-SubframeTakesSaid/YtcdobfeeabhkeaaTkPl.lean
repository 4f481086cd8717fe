/- A subframe's beginning, its numbers, its predictor. -/
import Derived.Test.YtcdobfeeabhkeaaTkPk
set_option autoImplicit false
set_option linter.unusedVariables false
set_option linter.unusedSimpArgs false
namespace Go.Pv.Try
open Go Go.Pv

/-- bits that are wasted -/
def wasteS (b : List Int) (depth : Nat) : Nat → Nat → Nat → Int → Bool → Option (Nat × Nat × Int)
  | 0, w, a, e, more => none
  | m + 1, w, a, e, more =>
    if e = 0 ∧ more = true then
      if w + 1 ≥ depth then none else wasteS b depth m (w + 1) (rt b a 0 1).2.1 (rt b a 0 1).2.2 ((rt b a 0 1).1 == 0)
    else some (w, a, e)

theorem wasteS_le {b : List Int} {depth : Nat} : ∀ {m w a : Nat} {e : Int} {more : Bool} {w' a' : Nat} {e' : Int}, a ≤ 8 * b.length → w < depth → wasteS b depth m w a e more = some (w', a', e') → a' ≤ 8 * b.length ∧ w' < depth
  | 0, w, a, e, more, w', a', e', ha, hw, h => by unfold wasteS at h; cases h
  | m + 1, w, a, e, more, w', a', e', ha, hw, h => by
    unfold wasteS at h
    split at h
    · split at h
      · cases h
      · exact wasteS_le (rt_le ha) (by omega) h
    · cases h; exact ⟨ha, hw⟩

theorem beq_nat (v n : Nat) : ((v : Int) == (n : Int)) = (v == n) := by rw [Bool.eq_iff_iff, beq_iff_eq, beq_iff_eq]; omega

theorem waste_loop (b : List Int) (hb : Bytes b) (blk : Int) (depth k : Nat) (hd : depth ≤ 64) (K : Int) : ∀ (m w a : Nat) (e : Int) (more : Bool), w + m = depth → w < depth → a ≤ 8 * b.length →
    match wasteS b depth m w a e more with
    | none => ∃ a' e' : Int, F_subframe_begin_11 (blk, (depth : Int), (k : Int), more, b, (a : Int), e, K, (w : Int), 0, 0, 0, [], false, 0, []) = some (.inr (0, 5, b, a', e', K, (depth : Int), 0, 0, 0, [], false, 0, []))
    | some (w', a', e') => F_subframe_begin_11 (blk, (depth : Int), (k : Int), more, b, (a : Int), e, K, (w : Int), 0, 0, 0, [], false, 0, []) = some (.inl (blk, (k : Int), b, (a' : Int), e', K, (w' : Int), 0, 0, 0, [], false, 0, []))
  | 0, w, a, e, more, h, hw, ha => by omega
  | m + 1, w, a, e, more, h, hw, ha => by
    unfold wasteS
    have body : ∀ g : L_subframe_begin_11, B_subframe_begin_11 f_bits_Reader_Fail f_bits_Reader_Take g (blk, (depth : Int), (k : Int), more, b, (a : Int), e, K, (w : Int), 0, 0, 0, [], false, 0, []) =
        if e = 0 ∧ more = true then
          if w + 1 ≥ depth then some (.inr (0, 5, b, (a : Int), e, K, ((w + 1 : Nat) : Int), 0, 0, 0, [], false, 0, []))
          else g (blk, (depth : Int), (k : Int), (rt b a 0 1).1 == 0, b, ((rt b a 0 1).2.1 : Int), (rt b a 0 1).2.2, K, ((w + 1 : Nat) : Int), 0, 0, 0, [], false, 0, [])
        else some (.inl (blk, (k : Int), b, (a : Int), e, K, (w : Int), 0, 0, 0, [], false, 0, [])) := by
      intro g
      unfold B_subframe_begin_11
      dsimp only
      have e1 : addI .i64 (w : Int) 1 = ((w + 1 : Nat) : Int) := by rw [add64 (by omega) (by omega)]; omega
      cases more
      · simp
      · by_cases he : e = 0
        · subst he
          simp only [if_true, fail_eq, Option.bind_some, beq_self_eq_true, and_self, e1]
          by_cases hw : w + 1 ≥ depth
          · rw [if_pos hw, decide_eq_true (show ((w + 1 : Nat) : Int) ≥ (depth : Int) by omega)]; rfl
          · rw [if_neg hw, decide_eq_false (show ¬((w + 1 : Nat) : Int) ≥ (depth : Int) by omega)]
            simp only [Bool.false_eq_true, if_false, take_eq b hb a ha, Option.bind_some]
            rw [show (((rt b a 0 1).1 : Int) == 0) = ((rt b a 0 1).1 == 0) from beq_nat _ 0]
        · have hbe : (e == 0) = false := by rw [beq_eq_false_iff_ne]; exact he
          simp only [if_true, fail_eq, Option.bind_some, hbe, Bool.false_eq_true, if_false, he, false_and]
    by_cases hc : e = 0 ∧ more = true
    · rw [if_pos hc]
      by_cases hw2 : w + 1 ≥ depth
      · rw [if_pos hw2]
        refine ⟨a, e, lfp_base fun g => ?_⟩
        rw [body, if_pos hc, if_pos hw2, show w + 1 = depth by omega]
      · rw [if_neg hw2]
        have ih := waste_loop b hb blk depth k hd K m (w + 1) (rt b a 0 1).2.1 (rt b a 0 1).2.2 ((rt b a 0 1).1 == 0) (by omega) (by omega) (rt_le ha)
        rcases hr : wasteS b depth m (w + 1) (rt b a 0 1).2.1 (rt b a 0 1).2.2 ((rt b a 0 1).1 == 0) with _ | ⟨w', a', e'⟩
        · rw [hr] at ih
          obtain ⟨a', e', ho⟩ := ih
          exact ⟨a', e', lfp_step ho fun g hg => by rw [body, if_pos hc, if_neg hw2, hg]⟩
        · rw [hr] at ih
          exact lfp_step ih fun g hg => by rw [body, if_pos hc, if_neg hw2, hg]
    · rw [if_neg hc]
      exact lfp_base fun g => by rw [body, if_neg hc]

/-- what a type tells -/
def kindS (n : Nat) : Option (Nat × Nat) := if n ≤ 1 then some (n, 0) else if 8 ≤ n ∧ n ≤ 12 then some (2, n - 8) else if 31 < n then some (3, n - 31) else none

theorem kind_eq {n : Nat} (h : n < 64) : f_subframe_kind (n : Int) = some (match kindS n with
    | some (K, k) => ((K : Int), (k : Int), 0)
    | none => (0, 0, 8)) := by
  unfold f_subframe_kind F_subframe_kind kindS
  dsimp only
  by_cases h1 : n ≤ 1
  · rw [if_pos h1, decide_eq_true (show (n : Int) ≤ 1 by omega)]; rfl
  · rw [if_neg h1, decide_eq_false (show ¬ (n : Int) ≤ 1 by omega)]
    simp only [Bool.false_eq_true, if_false]
    by_cases h2 : 8 ≤ n ∧ n ≤ 12
    · rw [if_pos h2, decide_eq_true (show (n : Int) ≥ 8 by omega), decide_eq_true (show (n : Int) ≤ 12 by omega)]
      simp only [if_true, Option.bind_some]
      rw [sub64 (by omega) (by omega), show ((n : Int) - 8) = ((n - 8 : Nat) : Int) by omega]
      rfl
    · rw [if_neg h2]
      have h3 : (if decide ((n : Int) ≥ 8) = true then some ((n : Int), decide ((n : Int) ≤ 12)) else some ((n : Int), false)) = some ((n : Int), false) := by
        by_cases h8 : 8 ≤ n
        · rw [decide_eq_true (show (n : Int) ≥ 8 by omega), decide_eq_false (show ¬ (n : Int) ≤ 12 by omega)]; rfl
        · rw [decide_eq_false (show ¬ (n : Int) ≥ 8 by omega)]; rfl
      rw [h3]
      simp only [Option.bind_some, Bool.false_eq_true, if_false]
      by_cases h4 : 31 < n
      · rw [if_pos h4, decide_eq_true (show (n : Int) > 31 by omega)]
        simp only [if_true]
        rw [sub64 (by omega) (by omega), show ((n : Int) - 31) = ((n - 31 : Nat) : Int) by omega]
        rfl
      · rw [if_neg h4, decide_eq_false (show ¬ (n : Int) > 31 by omega)]; rfl

/-- a beginning: its kind, how many bits are wasted, its order, where it ends -/
def begS (b : List Int) (a : Nat) (blk : Int) (depth : Nat) : Int ⊕ (Nat × Nat × Nat × Nat) :=
  if (rt b a 0 1).2.2 ≠ 0 then .inl (rt b a 0 1).2.2
  else if (rt b a 0 1).1 ≠ 0 then .inl 5
  else if (rt b (rt b a 0 1).2.1 0 6).2.2 ≠ 0 then .inl (rt b (rt b a 0 1).2.1 0 6).2.2
  else match kindS (rt b (rt b a 0 1).2.1 0 6).1 with
    | none => .inl 8
    | some (K, k) => match wasteS b depth depth 0 (rt b (rt b (rt b a 0 1).2.1 0 6).2.1 0 1).2.1 (rt b (rt b (rt b a 0 1).2.1 0 6).2.1 0 1).2.2 ((rt b (rt b (rt b a 0 1).2.1 0 6).2.1 0 1).1 == 1) with
      | none => .inl 5
      | some (w, a', e') => if e' ≠ 0 then .inl e' else if (k : Int) ≥ blk then .inl 5 else .inr (K, w, k, a')

theorem beg_eq (b : List Int) (hb : Bytes b) (a : Nat) (ha : a ≤ 8 * b.length) (blk : Int) (depth : Nat) (hd1 : 1 ≤ depth) (hd2 : depth ≤ 64) :
    match begS b a blk depth with
    | .inl er => er ≠ 0 ∧ ∃ (s : e9) (k a' e' : Int), f_subframe_begin (b, (a : Int), 0, blk, (depth : Int)) = some (s, k, er, b, a', e')
    | .inr (K, w, k, a') => f_subframe_begin (b, (a : Int), 0, blk, (depth : Int)) = some (((K : Int), ((w : Int), (0, ((0, (0, ([], ()))), ((false, (0, ([], ()))), ()))))), (k : Int), 0, b, (a' : Int), 0) := by
  unfold f_subframe_begin F_subframe_begin begS
  dsimp only
  simp only [take_eq b hb a ha, Option.bind_some, fail_eq]
  have hle := rt_le (b := b) (a := a) (e := 0) (w := 1) ha
  rcases ht : rt b a 0 1 with ⟨v, a1, e1⟩
  rw [ht] at hle
  dsimp only at hle ⊢
  by_cases he : e1 = 0
  · subst he
    rw [if_neg (by simp)]
    simp only [beq_self_eq_true, if_true, Option.bind_some]
    by_cases hv : v = 0
    · subst hv
      rw [if_neg (by simp)]
      simp only [Int.natCast_zero, bne_self_eq_false, Bool.false_eq_true, if_false, take_eq b hb a1 hle, Option.bind_some, fail_eq]
      have hle2 := rt_le (b := b) (a := a1) (e := 0) (w := 6) hle
      have hlt := rt_lt (b := b) (a := a1) (e := 0) (w := 6)
      have hlt2 : 2 ^ held 6 = 64 := rfl
      rcases ht2 : rt b a1 0 6 with ⟨u, a2, e2⟩
      rw [ht2] at hle2 hlt
      dsimp only at hle2 hlt ⊢
      by_cases he2 : e2 = 0
      · subst he2
        rw [if_neg (by simp)]
        simp only [bne_self_eq_false, Bool.false_eq_true, if_false]
        rw [w64 (by omega) (by omega), kind_eq (by omega)]
        rcases hk : kindS u with _ | ⟨K, k⟩
        · exact ⟨by decide, _, _, _, _, rfl⟩
        · simp only [Option.bind_some, bne_self_eq_false, Bool.false_eq_true, if_false, take_eq b hb a2 hle2]
          have hle3 := rt_le (b := b) (a := a2) (e := 0) (w := 1) hle2
          rcases ht3 : rt b a2 0 1 with ⟨v3, a3, e3⟩
          rw [ht3] at hle3
          dsimp only at hle3 ⊢
          have hw := waste_loop b hb blk depth k hd2 (K : Int) depth 0 a3 e3 (v3 == 1) (by omega) (by omega) hle3
          rw [show ((v3 : Int) == 1) = (v3 == 1) from beq_nat v3 1]
          rw [Int.natCast_zero] at hw
          rcases hr : wasteS b depth depth 0 a3 e3 (v3 == 1) with _ | ⟨w', a', e'⟩
          · rw [hr] at hw
            obtain ⟨a', e', ho⟩ := hw
            rw [ho]
            exact ⟨by decide, _, _, _, _, rfl⟩
          · rw [hr] at hw
            dsimp only at hw ⊢
            rw [hw]
            simp only [Option.bind_some]
            by_cases he' : e' = 0
            · subst he'
              rw [if_neg (by simp)]
              simp only [beq_self_eq_true, if_true, Option.bind_some]
              by_cases hkb : (k : Int) ≥ blk
              · rw [if_pos hkb, decide_eq_true hkb]
                exact ⟨by decide, _, _, _, _, rfl⟩
              · rw [if_neg hkb, decide_eq_false hkb]
                rfl
            · rw [if_pos he']
              have hbe : (e' == 0) = false := by rw [beq_eq_false_iff_ne]; exact he'
              simp only [hbe, Bool.false_eq_true, if_false, Option.bind_some]
              exact ⟨he', _, _, _, _, rfl⟩
      · rw [if_pos he2]
        have hbe : (e2 != 0) = true := by rw [bne_iff_ne]; exact he2
        simp only [hbe, if_true]
        exact ⟨he2, _, _, _, _, rfl⟩
    · rw [if_pos hv]
      have : ((v : Int) != 0) = true := by rw [bne_iff_ne]; omega
      simp only [this, if_true]
      exact ⟨by decide, _, _, _, _, rfl⟩
  · rw [if_pos he]
    have hbe : (e1 == 0) = false := by rw [beq_eq_false_iff_ne]; exact he
    have hbe2 : (e1 != 0) = true := by rw [bne_iff_ne]; exact he
    simp only [hbe, Bool.false_eq_true, if_false, Option.bind_some, take_eq b hb a1 hle, fail_eq, rt_bad he, hbe2, if_true]
    exact ⟨he, _, _, _, _, rfl⟩

/-- numbers with a sign -/
def sgnsS (b : List Int) (w : Nat) : Nat → Nat → Int ⊕ (List Int × Nat)
  | 0, a => .inr ([], a)
  | n + 1, a => if (rt b a 0 w).2.2 ≠ 0 then .inl (rt b a 0 w).2.2 else match sgnsS b w n (rt b a 0 w).2.1 with
    | .inl er => .inl er
    | .inr (l, a') => .inr (sgn w (rt b a 0 w).1 :: l, a')
theorem sgnsS_err {b : List Int} {w : Nat} : ∀ {n a : Nat} {er : Int}, sgnsS b w n a = .inl er → er ≠ 0
  | 0, a, er, h => by unfold sgnsS at h; cases h
  | n + 1, a, er, h => by
    unfold sgnsS at h
    split at h
    · cases h; assumption
    · split at h
      · cases h; rename_i hr; exact sgnsS_err hr
      · cases h
theorem sgnsS_len {b : List Int} {w : Nat} (hw1 : 1 ≤ w) (hw : w ≤ 64) : ∀ {n a : Nat} {l : List Int} {a' : Nat}, a ≤ 8 * b.length → sgnsS b w n a = .inr (l, a') → l.length = n ∧ a' ≤ 8 * b.length ∧ ∀ v ∈ l, inS w v = true
  | 0, a, l, a', ha, h => by unfold sgnsS at h; cases h; exact ⟨rfl, ha, fun v hv => by cases hv⟩
  | n + 1, a, l, a', ha, h => by
    unfold sgnsS at h
    split at h
    · cases h
    · split at h
      · cases h
      · rename_i hr
        cases h
        have ih := sgnsS_len hw1 hw (rt_le ha) hr
        have hv := rt_lt (b := b) (a := a) (e := 0) (w := w)
        rw [held_nat hw] at hv
        refine ⟨by simp [ih.1], ih.2.1, fun v hv' => ?_⟩
        rcases List.mem_cons.mp hv' with rfl | hv'
        · rw [inS_iff]; exact sgn_rng hw1 hv
        · exact ih.2.2 v hv'

theorem numbers_loop (b : List Int) (hb : Bytes b) (w N : Nat) (hw1 : 1 ≤ w) (hw2 : w ≤ 64) (hN : N ≤ 1073741824) : ∀ (n i a : Nat) (l : List Int), i + n = N → a ≤ 8 * b.length → l.length = i →
    match sgnsS b w n a with
    | .inl er => ∃ a' : Int, F_subframe_numbers_3 ((w : Int), (N : Int), (i : Int), b, (a : Int), 0, l) = some (.inr (b, a', er, []))
    | .inr (l', a') => F_subframe_numbers_3 ((w : Int), (N : Int), (i : Int), b, (a : Int), 0, l) = some (.inl (b, (a' : Int), 0, l ++ l'))
  | 0, i, a, l, h, ha, hl => by
    unfold sgnsS
    refine lfp_base fun g => ?_
    unfold B_subframe_numbers_3
    dsimp only
    rw [decide_eq_false (show ¬(i : Int) < (N : Int) by omega)]
    simp
  | n + 1, i, a, l, h, ha, hl => by
    unfold sgnsS
    have hle := rt_le (b := b) (a := a) (e := 0) (w := w) ha
    have hsig := ssigned_eq b hb a ha 0 hw1 hw2
    rcases ht : rt b a 0 w with ⟨v, a1, e1⟩
    rw [ht] at hle hsig
    dsimp only at hle hsig ⊢
    by_cases he : e1 = 0
    · subst he
      rw [if_neg (by simp)]
      have body : ∀ g : L_subframe_numbers_3, B_subframe_numbers_3 f_bits_Reader_Fail f_subframe_signed g ((w : Int), (N : Int), (i : Int), b, (a : Int), 0, l) = g ((w : Int), (N : Int), ((i + 1 : Nat) : Int), b, (a1 : Int), 0, l ++ [sgn w v]) := by
        intro g
        unfold B_subframe_numbers_3
        dsimp only
        rw [decide_eq_true (show (i : Int) < (N : Int) by omega)]
        simp only [if_true, Option.bind_some, hsig, fail_eq, bne_self_eq_false, Bool.false_eq_true, if_false]
        rw [room_of (by simp; omega), add64 (by omega) (by omega)]
        rfl
      have ih := numbers_loop b hb w N hw1 hw2 hN n (i + 1) a1 (l ++ [sgn w v]) (by omega) hle (by simp [hl])
      rcases hr : sgnsS b w n a1 with er | ⟨l', a'⟩
      · rw [hr] at ih
        obtain ⟨a', ho⟩ := ih
        exact ⟨a', lfp_step ho fun g hg => by rw [body, hg]⟩
      · rw [hr] at ih
        dsimp only at ih ⊢
        rw [List.append_assoc] at ih
        exact lfp_step ih fun g hg => by rw [body, hg]; rfl
    · rw [if_pos he]
      refine ⟨a1, lfp_base fun g => ?_⟩
      unfold B_subframe_numbers_3
      dsimp only
      rw [decide_eq_true (show (i : Int) < (N : Int) by omega)]
      have hbe : (e1 != 0) = true := by rw [bne_iff_ne]; exact he
      simp only [if_true, Option.bind_some, hsig, fail_eq, hbe]

theorem numbers_eq (b : List Int) (hb : Bytes b) (w N : Nat) (hw1 : 1 ≤ w) (hw2 : w ≤ 64) (hN : N ≤ 1073741824) (a : Nat) (ha : a ≤ 8 * b.length) :
    match sgnsS b w N a with
    | .inl er => ∃ a' : Int, f_subframe_numbers (b, (a : Int), 0, (N : Int), (w : Int)) = some ([], b, a', er)
    | .inr (l', a') => f_subframe_numbers (b, (a : Int), 0, (N : Int), (w : Int)) = some (l', b, (a' : Int), 0) := by
  unfold f_subframe_numbers F_subframe_numbers
  dsimp only
  have h := numbers_loop b hb w N hw1 hw2 hN N 0 a [] (by omega) ha rfl
  rw [Int.natCast_zero] at h
  rcases hr : sgnsS b w N a with er | ⟨l', a'⟩
  · rw [hr] at h
    obtain ⟨a', ho⟩ := h
    exact ⟨a', by rw [ho]; rfl⟩
  · rw [hr] at h
    dsimp only at h ⊢
    rw [h]; rfl
theorem numbers_bad (b : List Int) (hb : Bytes b) (w N : Nat) (hw1 : 1 ≤ w) (hw2 : w ≤ 64) (hN : 1 ≤ N) (a : Nat) (ha : a ≤ 8 * b.length) {e : Int} (he : e ≠ 0) :
    f_subframe_numbers (b, (a : Int), e, (N : Int), (w : Int)) = some ([], b, (a : Int), e) := by
  unfold f_subframe_numbers F_subframe_numbers
  dsimp only
  have h : F_subframe_numbers_3 ((w : Int), (N : Int), 0, b, (a : Int), e, []) = some (.inr (b, (a : Int), e, [])) := by
    refine lfp_base fun g => ?_
    unfold B_subframe_numbers_3
    dsimp only
    rw [decide_eq_true (show (0 : Int) < (N : Int) by omega)]
    have hbe : (e != 0) = true := by rw [bne_iff_ne]; exact he
    simp only [if_true, Option.bind_some, ssigned_eq b hb a ha e hw1 hw2, rt_bad he, fail_eq, hbe]
  rw [h]; rfl

/-- a predictor -/
def linS (b : List Int) (a k : Nat) : Int ⊕ (Nat × Nat × List Int × Nat) :=
  if (rt b a 0 4).2.2 ≠ 0 then .inl (rt b a 0 4).2.2
  else if (rt b a 0 4).1 = 15 then .inl 5
  else if (rt b (rt b a 0 4).2.1 0 5).2.2 ≠ 0 then .inl (rt b (rt b a 0 4).2.1 0 5).2.2
  else if (rt b (rt b a 0 4).2.1 0 5).1 > 15 then .inl 5
  else match sgnsS b ((rt b a 0 4).1 + 1) k (rt b (rt b a 0 4).2.1 0 5).2.1 with
    | .inl er => .inl er
    | .inr (l, a') => .inr ((rt b (rt b a 0 4).2.1 0 5).1, (rt b a 0 4).1 + 1, l, a')

theorem linear_eq (b : List Int) (hb : Bytes b) (a : Nat) (ha : a ≤ 8 * b.length) (k : Nat) (hk1 : 1 ≤ k) (hk : k ≤ 64) :
    match linS b a k with
    | .inl er => er ≠ 0 ∧ ∃ (s : e2) (a' e' : Int), f_subframe_linear (b, (a : Int), 0, (k : Int)) = some (s, er, b, a', e')
    | .inr (sh, pr, l, a') => f_subframe_linear (b, (a : Int), 0, (k : Int)) = some (((sh : Int), ((pr : Int), (l, ()))), 0, b, (a' : Int), 0) := by
  unfold f_subframe_linear F_subframe_linear linS
  dsimp only
  simp only [take_eq b hb a ha, Option.bind_some, fail_eq]
  have hle := rt_le (b := b) (a := a) (e := 0) (w := 4) ha
  have hlt := rt_lt (b := b) (a := a) (e := 0) (w := 4)
  have hlt2 : 2 ^ held 4 = 16 := rfl
  rcases ht : rt b a 0 4 with ⟨v, a1, e1⟩
  rw [ht] at hle hlt
  dsimp only at hle hlt ⊢
  rw [w64 (a := (v : Int)) (by omega) (by omega)]
  by_cases he : e1 = 0
  · subst he
    rw [if_neg (by simp)]
    simp only [beq_self_eq_true, if_true, Option.bind_some]
    by_cases hv : v = 15
    · rw [if_pos hv, hv]
      exact ⟨by decide, _, _, _, rfl⟩
    · have hv2 : ((v : Int) == 15) = false := by rw [beq_eq_false_iff_ne]; omega
      rw [if_neg hv]
      simp only [hv2, Bool.false_eq_true, if_false, take_eq b hb a1 hle, Option.bind_some, fail_eq]
      have hle2 := rt_le (b := b) (a := a1) (e := 0) (w := 5) hle
      have hlt3 := rt_lt (b := b) (a := a1) (e := 0) (w := 5)
      have hlt4 : 2 ^ held 5 = 32 := rfl
      rcases ht2 : rt b a1 0 5 with ⟨u, a2, e2⟩
      rw [ht2] at hle2 hlt3
      dsimp only at hle2 hlt3 ⊢
      rw [w64 (a := (u : Int)) (by omega) (by omega)]
      by_cases he2 : e2 = 0
      · subst he2
        rw [if_neg (by simp)]
        simp only [beq_self_eq_true, if_true, Option.bind_some]
        by_cases hu : u > 15
        · rw [if_pos hu, decide_eq_true (show (u : Int) > 15 by omega)]
          exact ⟨by decide, _, _, _, rfl⟩
        · rw [if_neg hu, decide_eq_false (show ¬(u : Int) > 15 by omega)]
          simp only [Bool.false_eq_true, if_false]
          rw [add64 (by omega) (by omega), show ((v : Int) + 1) = ((v + 1 : Nat) : Int) by omega]
          have hn := numbers_eq b hb (v + 1) k (by omega) (by omega) (by omega) a2 hle2
          rcases hr : sgnsS b (v + 1) k a2 with er | ⟨l, a'⟩
          · rw [hr] at hn
            obtain ⟨a', ho⟩ := hn
            rw [ho]
            exact ⟨sgnsS_err hr, _, _, _, rfl⟩
          · rw [hr] at hn
            dsimp only at hn ⊢
            rw [hn]; rfl
      · rw [if_pos he2]
        have hbe : (e2 == 0) = false := by rw [beq_eq_false_iff_ne]; exact he2
        simp only [hbe, Bool.false_eq_true, if_false, Option.bind_some]
        rw [add64 (by omega) (by omega), show ((v : Int) + 1) = ((v + 1 : Nat) : Int) by omega, numbers_bad b hb (v + 1) k (by omega) (by omega) hk1 a2 hle2 he2]
        exact ⟨he2, _, _, _, rfl⟩
  · rw [if_pos he]
    have hbe : (e1 == 0) = false := by rw [beq_eq_false_iff_ne]; exact he
    simp only [hbe, Bool.false_eq_true, if_false, Option.bind_some, take_eq b hb a1 hle, rt_bad he, fail_eq]
    rw [add64 (by omega) (by omega), show ((v : Int) + 1) = ((v + 1 : Nat) : Int) by omega, numbers_bad b hb (v + 1) k (by omega) (by omega) hk1 a1 hle he]
    exact ⟨he, _, _, _, rfl⟩
end Go.Pv.Try
