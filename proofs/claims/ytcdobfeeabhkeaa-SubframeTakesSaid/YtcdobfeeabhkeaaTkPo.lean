/- The document's subframe. -/
import Derived.Test.YtcdobfeeabhkeaaTkPn
set_option autoImplicit false
set_option linter.unusedVariables false
set_option linter.unusedSimpArgs false
namespace Go.Pv.Try
open Go Go.Pv

theorem rwaste_loop (b : List Int) (hb : Bytes b) (blk : Int) (depth k : Nat) (hd : depth ≤ 62) (K : Int) : ∀ (m w a : Nat) (e : Int) (bit : Nat), w + m = depth → w < depth → a ≤ 8 * b.length → bit < 2 →
    match wasteS b depth m w a e (if w = 0 then bit == 1 else bit == 0) with
    | none => ∃ a' e' : Int, F_ref16_Take_23 (blk, (depth : Int), (k : Int), (bit : Int), bitsL b, (a : Int), e, 0, 0, 0, 0, 0, false, 0, [], [], 0, 0, 0, 0, 0, false, 0, [], [], K, (w : Int), 0, 0, 0, false, 0, [], []) = some (.inr (5, bitsL b, a', e', [], 0, 0, 0, 0, 0, false, 0, [], []))
    | some (w', a', e') => F_ref16_Take_23 (blk, (depth : Int), (k : Int), (bit : Int), bitsL b, (a : Int), e, 0, 0, 0, 0, 0, false, 0, [], [], 0, 0, 0, 0, 0, false, 0, [], [], K, (w : Int), 0, 0, 0, false, 0, [], []) = some (.inl (blk, (depth : Int), (k : Int), bitsL b, (a' : Int), e', 0, 0, 0, 0, 0, false, 0, [], [], 0, 0, 0, 0, 0, false, 0, [], [], K, (w' : Int), 0, 0, 0, false, 0, [], []))
  | 0, w, a, e, bit, h, hw, ha, hbit => by omega
  | m + 1, w, a, e, bit, h, hw, ha, hbit => by
    have hrb := rt_lt (b := b) (a := a) (e := 0) (w := 1)
    have hrb2 : 2 ^ held 1 = 2 := rfl
    have body : ∀ g : L_ref16_Take_23, B_ref16_Take_23 f_ref01_Reader_Take g (blk, (depth : Int), (k : Int), (bit : Int), bitsL b, (a : Int), e, 0, 0, 0, 0, 0, false, 0, [], [], 0, 0, 0, 0, 0, false, 0, [], [], K, (w : Int), 0, 0, 0, false, 0, [], []) =
        if e = 0 ∧ (if w = 0 then bit == 1 else bit == 0) = true then
          if w + 1 ≥ depth then some (.inr (5, bitsL b, (a : Int), e, [], 0, 0, 0, 0, 0, false, 0, [], []))
          else g (blk, (depth : Int), (k : Int), ((rt b a 0 1).1 : Int), bitsL b, ((rt b a 0 1).2.1 : Int), (rt b a 0 1).2.2, 0, 0, 0, 0, 0, false, 0, [], [], 0, 0, 0, 0, 0, false, 0, [], [], K, ((w + 1 : Nat) : Int), 0, 0, 0, false, 0, [], [])
        else some (.inl (blk, (depth : Int), (k : Int), bitsL b, (a : Int), e, 0, 0, 0, 0, 0, false, 0, [], [], 0, 0, 0, 0, 0, false, 0, [], [], K, (w : Int), 0, 0, 0, false, 0, [], [])) := by
      intro g
      unfold B_ref16_Take_23
      dsimp only
      have e1 : addI .i64 (w : Int) 1 = ((w + 1 : Nat) : Int) := by rw [add64 (by omega) (by omega)]; omega
      by_cases he : e = 0
      · subst he
        have hmain : ∀ {β : Type} (f : Bool → Option β), (if ((w : Int) == 0) = true then if ((bit : Int) == 1) = true then f true else if decide ((w : Int) > 0) = true then f ((bit : Int) == 0) else f false else if decide ((w : Int) > 0) = true then f ((bit : Int) == 0) else f false) = f (if w = 0 then bit == 1 else bit == 0) := by
          intro β f
          by_cases hw0 : w = 0
          · subst hw0
            rcases (by omega : bit = 0 ∨ bit = 1) with rfl | rfl <;> rfl
          · have h1 : ((w : Int) == 0) = false := by rw [beq_eq_false_iff_ne]; omega
            rw [h1, decide_eq_true (show (w : Int) > 0 by omega), if_neg hw0, show ((bit : Int) == 0) = (bit == 0) from beq_nat bit 0]
            rfl
        rw [hmain (fun q => some (blk, (depth : Int), (k : Int), q, bitsL b, (a : Int), 0, 0, 0, 0, 0, 0, false, 0, [], [], 0, 0, 0, 0, 0, false, 0, [], [], K, (w : Int), 0, 0, 0, false, 0, [], []))]
        simp only [beq_self_eq_true, if_true, Option.bind_some, true_and]
        by_cases hm : (if w = 0 then bit == 1 else bit == 0) = true
        · rw [if_pos hm, if_pos hm]
          simp only [Option.bind_some, e1]
          by_cases hw : w + 1 ≥ depth
          · rw [if_pos hw, decide_eq_true (show ((w + 1 : Nat) : Int) ≥ (depth : Int) by omega)]; rfl
          · rw [if_neg hw, decide_eq_false (show ¬((w + 1 : Nat) : Int) ≥ (depth : Int) by omega)]
            simp only [Bool.false_eq_true, if_false, rtake_eq b hb a ha, Option.bind_some]
        · rw [if_neg hm, if_neg hm]
          rfl
      · have hbe : (e == 0) = false := by rw [beq_eq_false_iff_ne]; exact he
        simp only [hbe, Bool.false_eq_true, if_false, he, false_and, Option.bind_some]
    unfold wasteS
    by_cases hc : e = 0 ∧ (if w = 0 then bit == 1 else bit == 0) = true
    · rw [if_pos hc]
      by_cases hw2 : w + 1 ≥ depth
      · rw [if_pos hw2]
        exact ⟨a, e, lfp_base fun g => by rw [body, if_pos hc, if_pos hw2]⟩
      · rw [if_neg hw2]
        have ih := rwaste_loop b hb blk depth k hd K m (w + 1) (rt b a 0 1).2.1 (rt b a 0 1).2.2 (rt b a 0 1).1 (by omega) (by omega) (rt_le ha) (by omega)
        rw [if_neg (show ¬ w + 1 = 0 by omega)] at ih
        rcases hr : wasteS b depth m (w + 1) (rt b a 0 1).2.1 (rt b a 0 1).2.2 ((rt b a 0 1).1 == 0) with _ | ⟨w', a', e'⟩
        · rw [hr] at ih
          obtain ⟨a', e', ho⟩ := ih
          exact ⟨a', e', lfp_step ho fun g hg => by rw [body, if_pos hc, if_neg hw2, hg]⟩
        · rw [hr] at ih
          exact lfp_step ih fun g hg => by rw [body, if_pos hc, if_neg hw2, hg]
    · rw [if_neg hc]
      exact lfp_base fun g => by rw [body, if_neg hc]

theorem rnumbers_loop (b : List Int) (hb : Bytes b) (blk k K W : Int) (w N : Nat) (hw1 : 1 ≤ w) (hw2 : w ≤ 62) (hN : N ≤ 1073741824) : ∀ (n i a : Nat) (l : List Int), i + n = N → a ≤ 8 * b.length → l.length = i →
    match sgnsS b w n a with
    | .inl er => ∃ a' e' : Int, F_ref16_Take_36 (blk, k, (w : Int), (N : Int), (i : Int), bitsL b, (a : Int), 0, 0, 0, 0, 0, 0, false, 0, [], [], 0, 0, 0, 0, 0, false, 0, [], [], K, W, 0, 0, 0, false, 0, [], [], l) = some (.inr (er, bitsL b, a', e', [], 0, 0, 0, 0, 0, false, 0, [], []))
    | .inr (l', a') => F_ref16_Take_36 (blk, k, (w : Int), (N : Int), (i : Int), bitsL b, (a : Int), 0, 0, 0, 0, 0, 0, false, 0, [], [], 0, 0, 0, 0, 0, false, 0, [], [], K, W, 0, 0, 0, false, 0, [], [], l) = some (.inl (blk, k, (w : Int), bitsL b, (a' : Int), 0, 0, 0, 0, 0, 0, false, 0, [], [], 0, 0, 0, 0, 0, false, 0, [], [], K, W, 0, 0, 0, false, 0, [], [], l ++ l'))
  | 0, i, a, l, h, ha, hl => by
    unfold sgnsS
    refine lfp_base fun g => ?_
    unfold B_ref16_Take_36
    dsimp only
    rw [decide_eq_false (show ¬(i : Int) < (N : Int) by omega)]
    simp
  | n + 1, i, a, l, h, ha, hl => by
    unfold sgnsS
    have hle := rt_le (b := b) (a := a) (e := 0) (w := w) ha
    have hv := rt_lt (b := b) (a := a) (e := 0) (w := w)
    rw [held_nat (by omega)] at hv
    rcases ht : rt b a 0 w with ⟨v, a1, e1⟩
    rw [ht] at hle hv
    dsimp only at hle hv ⊢
    by_cases he : e1 = 0
    · subst he
      rw [if_neg (by simp)]
      have body : ∀ g : L_ref16_Take_36, B_ref16_Take_36 f_ref01_Reader_Take f_ref15_Signed g (blk, k, (w : Int), (N : Int), (i : Int), bitsL b, (a : Int), 0, 0, 0, 0, 0, 0, false, 0, [], [], 0, 0, 0, 0, 0, false, 0, [], [], K, W, 0, 0, 0, false, 0, [], [], l) = g (blk, k, (w : Int), (N : Int), ((i + 1 : Nat) : Int), bitsL b, (a1 : Int), 0, 0, 0, 0, 0, 0, false, 0, [], [], 0, 0, 0, 0, 0, false, 0, [], [], K, W, 0, 0, 0, false, 0, [], [], l ++ [sgn w v]) := by
        intro g
        unfold B_ref16_Take_36
        dsimp only
        rw [decide_eq_true (show (i : Int) < (N : Int) by omega)]
        simp only [if_true, Option.bind_some, rtake_eq b hb a ha, ht, bne_self_eq_false, Bool.false_eq_true, if_false, signed_eq hw2 hv]
        rw [room_of (by simp; omega), add64 (by omega) (by omega)]
        rfl
      have ih := rnumbers_loop b hb blk k K W w N hw1 hw2 hN n (i + 1) a1 (l ++ [sgn w v]) (by omega) hle (by simp [hl])
      rcases hr : sgnsS b w n a1 with er | ⟨l', a'⟩
      · rw [hr] at ih
        obtain ⟨a', e', ho⟩ := ih
        exact ⟨a', e', lfp_step ho fun g hg => by rw [body, hg]⟩
      · rw [hr] at ih
        dsimp only at ih ⊢
        rw [List.append_assoc] at ih
        exact lfp_step ih fun g hg => by rw [body, hg]; rfl
    · rw [if_pos he]
      refine ⟨a1, e1, lfp_base fun g => ?_⟩
      unfold B_ref16_Take_36
      dsimp only
      rw [decide_eq_true (show (i : Int) < (N : Int) by omega)]
      have hbe : (e1 != 0) = true := by rw [bne_iff_ne]; exact he
      simp only [if_true, Option.bind_some, rtake_eq b hb a ha, ht, hbe]

theorem rsame_loop (bl : List Bool) (blk : Nat) (k w a e W v : Int) (hb : blk ≤ 1073741824) : ∀ (m n : Nat), n + m = blk → 1 ≤ n →
    F_ref16_Take_42 ((blk : Int), k, w, bl, a, e, 0, 0, 0, 0, 0, false, 0, [], [], 0, 0, 0, 0, 0, false, 0, [], [], 0, W, 0, 0, 0, false, 0, [], [], List.replicate n v) = some ((blk : Int), k, w, bl, a, e, 0, 0, 0, 0, 0, false, 0, [], [], 0, 0, 0, 0, 0, false, 0, [], [], 0, W, 0, 0, 0, false, 0, [], [], List.replicate blk v)
  | 0, n, h, h1 => by
    obtain rfl : n = blk := by omega
    refine lfp_base fun g => ?_
    unfold B_ref16_Take_42
    dsimp only
    rw [List.length_replicate, decide_eq_false (show ¬(n : Int) < (n : Int) by omega)]
    rfl
  | m + 1, n, h, h1 => by
    refine lfp_step (rsame_loop bl blk k w a e W v hb m (n + 1) (by omega) (by omega)) fun g hg => ?_
    unfold B_ref16_Take_42
    dsimp only
    rw [List.length_replicate, decide_eq_true (show (n : Int) < (blk : Int) by omega)]
    simp only [beq_self_eq_true, if_true, Option.bind_some]
    have hi : idx (List.replicate n v) 0 = some v := by
      obtain ⟨j, rfl⟩ : ∃ j, n = j + 1 := ⟨n - 1, by omega⟩
      rfl
    rw [List.length_replicate, inb_of (by omega) (by omega), hi]
    simp only [Option.bind_some]
    rw [room_of (by simp; omega), ← hg]
    simp only [Option.bind_some]
    rw [show List.replicate (n + 1) v = List.replicate n v ++ [v] from List.replicate_succ']
    rfl
theorem rsame_not (bl : List Bool) (blk : Nat) (k w a e W K : Int) (x : List Int) (hK : K ≠ 0) :
    F_ref16_Take_42 ((blk : Int), k, w, bl, a, e, 0, 0, 0, 0, 0, false, 0, [], [], 0, 0, 0, 0, 0, false, 0, [], [], K, W, 0, 0, 0, false, 0, [], [], x) = some ((blk : Int), k, w, bl, a, e, 0, 0, 0, 0, 0, false, 0, [], [], 0, 0, 0, 0, 0, false, 0, [], [], K, W, 0, 0, 0, false, 0, [], [], x) := by
  refine lfp_base fun g => ?_
  unfold B_ref16_Take_42
  dsimp only
  have : (K == 0) = false := by rw [beq_eq_false_iff_ne]; exact hK
  simp only [this, Bool.false_eq_true, if_false, Option.bind_some]

theorem rfac_bad (b : List Int) (hb : Bytes b) (blk each K W O Sh Pr : Int) (x : List Int) (k p : Nat) (hp : p ≤ 61) (hk : k ≤ 1073741824) (a : Nat) (ha : a ≤ 8 * b.length) (e : Int) (he : e ≠ 0) : ∀ (n i : Nat) (F : List Int), i + n = k → F.length = i →
    ∃ F' : List Int, F_ref16_Take_53 (blk, (k : Int), each, (p : Int), (i : Int), bitsL b, (a : Int), e, 0, 0, 0, 0, 0, false, 0, [], [], 0, 0, 0, 0, 0, false, 0, [], [], K, W, O, Sh, Pr, false, 0, F, [], x) = some (blk, (k : Int), each, bitsL b, (a : Int), e, 0, 0, 0, 0, 0, false, 0, [], [], 0, 0, 0, 0, 0, false, 0, [], [], K, W, O, Sh, Pr, false, 0, F', [], x)
  | 0, i, F, h, hF => by
    refine ⟨F, lfp_base fun g => ?_⟩
    unfold B_ref16_Take_53
    dsimp only
    rw [decide_eq_false (show ¬(i : Int) < (k : Int) by omega)]
    rfl
  | n + 1, i, F, h, hF => by
    obtain ⟨F', ho⟩ := rfac_bad b hb blk each K W O Sh Pr x k p hp hk a ha e he n (i + 1) (F ++ [sgn (p + 1) 0]) (by omega) (by simp [hF])
    refine ⟨F', lfp_step ho fun g hg => ?_⟩
    unfold B_ref16_Take_53
    dsimp only
    rw [decide_eq_true (show (i : Int) < (k : Int) by omega)]
    simp only [if_true, Option.bind_some, rtake_eq b hb a ha, rt_bad he]
    have e1 : addI .i64 (p : Int) 1 = ((p + 1 : Nat) : Int) := by rw [add64 (by omega) (by omega)]; omega
    have hs := signed_eq (v := 0) (w := p + 1) (by omega) (Nat.two_pow_pos _)
    rw [e1, hs]
    simp only [Option.bind_some]
    rw [room_of (by simp; omega), add64 (by omega) (by omega), ← hg]
    rfl
theorem rfac_loop (b : List Int) (hb : Bytes b) (blk each K W O Sh Pr : Int) (x : List Int) (k p : Nat) (hp : p ≤ 61) (hk : k ≤ 1073741824) : ∀ (n i a : Nat) (F : List Int), i + n = k → F.length = i → a ≤ 8 * b.length →
    match sgnsS b (p + 1) n a with
    | .inl er => ∃ (a' : Int) (F' : List Int), F_ref16_Take_53 (blk, (k : Int), each, (p : Int), (i : Int), bitsL b, (a : Int), 0, 0, 0, 0, 0, 0, false, 0, [], [], 0, 0, 0, 0, 0, false, 0, [], [], K, W, O, Sh, Pr, false, 0, F, [], x) = some (blk, (k : Int), each, bitsL b, a', er, 0, 0, 0, 0, 0, false, 0, [], [], 0, 0, 0, 0, 0, false, 0, [], [], K, W, O, Sh, Pr, false, 0, F', [], x)
    | .inr (l, a') => F_ref16_Take_53 (blk, (k : Int), each, (p : Int), (i : Int), bitsL b, (a : Int), 0, 0, 0, 0, 0, 0, false, 0, [], [], 0, 0, 0, 0, 0, false, 0, [], [], K, W, O, Sh, Pr, false, 0, F, [], x) = some (blk, (k : Int), each, bitsL b, (a' : Int), 0, 0, 0, 0, 0, 0, false, 0, [], [], 0, 0, 0, 0, 0, false, 0, [], [], K, W, O, Sh, Pr, false, 0, F ++ l, [], x)
  | 0, i, a, F, h, hF, ha => by
    unfold sgnsS
    refine lfp_base fun g => ?_
    unfold B_ref16_Take_53
    dsimp only
    rw [decide_eq_false (show ¬(i : Int) < (k : Int) by omega)]
    simp
  | n + 1, i, a, F, h, hF, ha => by
    unfold sgnsS
    have hle := rt_le (b := b) (a := a) (e := 0) (w := (p + 1 : Nat)) ha
    have hv := rt_lt (b := b) (a := a) (e := 0) (w := (p + 1 : Nat))
    rw [held_nat (by omega)] at hv
    rcases ht : rt b a 0 (p + 1 : Nat) with ⟨v, a1, e1⟩
    rw [ht] at hle hv
    dsimp only at hle hv ⊢
    have body : ∀ g : L_ref16_Take_53, B_ref16_Take_53 f_ref01_Reader_Take f_ref15_Signed g (blk, (k : Int), each, (p : Int), (i : Int), bitsL b, (a : Int), 0, 0, 0, 0, 0, 0, false, 0, [], [], 0, 0, 0, 0, 0, false, 0, [], [], K, W, O, Sh, Pr, false, 0, F, [], x) = g (blk, (k : Int), each, (p : Int), ((i + 1 : Nat) : Int), bitsL b, (a1 : Int), e1, 0, 0, 0, 0, 0, false, 0, [], [], 0, 0, 0, 0, 0, false, 0, [], [], K, W, O, Sh, Pr, false, 0, F ++ [sgn (p + 1) v], [], x) := by
      intro g
      unfold B_ref16_Take_53
      dsimp only
      have e1 : addI .i64 (p : Int) 1 = ((p + 1 : Nat) : Int) := by rw [add64 (by omega) (by omega)]; omega
      rw [decide_eq_true (show (i : Int) < (k : Int) by omega)]
      simp only [if_true, Option.bind_some, e1, rtake_eq b hb a ha, ht, signed_eq (show p + 1 ≤ 62 by omega) hv]
      rw [room_of (by simp; omega), add64 (by omega) (by omega)]
      rfl
    by_cases he : e1 = 0
    · subst he
      rw [if_neg (by simp)]
      have ih := rfac_loop b hb blk each K W O Sh Pr x k p hp hk n (i + 1) a1 (F ++ [sgn (p + 1) v]) (by omega) (by simp [hF]) hle
      rcases hr : sgnsS b (p + 1) n a1 with er | ⟨l', a'⟩
      · rw [hr] at ih
        obtain ⟨a', F', ho⟩ := ih
        exact ⟨a', F', lfp_step ho fun g hg => by rw [body, hg]⟩
      · rw [hr] at ih
        dsimp only at ih ⊢
        rw [List.append_assoc] at ih
        exact lfp_step ih fun g hg => by rw [body, hg]; rfl
    · rw [if_pos he]
      obtain ⟨F', ho⟩ := rfac_bad b hb blk each K W O Sh Pr x k p hp hk a1 hle e1 he n (i + 1) (F ++ [sgn (p + 1) v]) (by omega) (by simp [hF])
      exact ⟨a1, F', lfp_step ho fun g hg => by rw [body, hg]⟩

theorem ref_factors' (k : Nat) : f_ref07_Factors (k : Int) = some (fixF k) ∧ (fixF k).length ≤ k := by
  by_cases h : k ≤ 4
  · exact ⟨ref_factors h, by rw [fixF_len h]; exact Nat.le_refl _⟩
  · have h1 : ((k : Int) == 1) = false := by rw [beq_eq_false_iff_ne]; omega
    have h2 : ((k : Int) == 2) = false := by rw [beq_eq_false_iff_ne]; omega
    have h3 : ((k : Int) == 3) = false := by rw [beq_eq_false_iff_ne]; omega
    have h4 : ((k : Int) == 4) = false := by rw [beq_eq_false_iff_ne]; omega
    have hf : fixF k = [] := by
      unfold fixF
      split <;> first | omega | rfl
    unfold f_ref07_Factors F_ref07_Factors
    dsimp only
    rw [h1, h2, h3, h4, hf]
    exact ⟨rfl, by simp⟩
theorem rtold07' {x : List Int} (hx : x.length ≤ 1099511627776) {k : Nat} (hkx : k ≤ x.length) :
    f_ref07_Told (x, (x.length : Int), (k : Int)) = some (dotW (fixF k) x 0) := by
  unfold f_ref07_Told F_ref07_Told
  dsimp only
  have hf := ref_factors' k
  have hl := told07_loop x (fixF k) hx (by omega) (fixF k).length 0 0 (by omega)
  rw [Int.natCast_zero] at hl
  rw [hf.1]
  simp only [Option.bind_some]
  rw [hl]
  rfl

theorem rrest_loop (k kind sh d : Nat) (f R : List Int) (hR0 : R.length ≤ 1073741824) (hkd : kind = 2 ∨ kind = 3 ∧ f.length = k ∧ sh ≤ 62) (hd1 : 1 ≤ d) (hd2 : d ≤ 62) (bl : List Bool) (a e W O Pr : Int) (pb : Bool) (pn : Int) (pl : List e0) : ∀ (r : List Int) (i : Nat) (x : List Int), R.drop i = r → i ≤ R.length → k ≤ x.length → x.length + r.length ≤ 1073741824 →
    match restS kind k sh d f r x with
    | .inl er => ∃ a' e' : Int, F_ref16_Take_67 ((k : Int), (d : Int), (i : Int), bl, a, e, 0, 0, 0, 0, 0, false, 0, [], [], 0, 0, 0, 0, 0, false, 0, [], [], (kind : Int), W, O, (sh : Int), Pr, pb, pn, pl, f, x, R) = some (.inr (er, bl, a', e', [], 0, 0, 0, 0, 0, false, 0, [], []))
    | .inr x' => F_ref16_Take_67 ((k : Int), (d : Int), (i : Int), bl, a, e, 0, 0, 0, 0, 0, false, 0, [], [], 0, 0, 0, 0, 0, false, 0, [], [], (kind : Int), W, O, (sh : Int), Pr, pb, pn, pl, f, x, R) = some (.inl (bl, a, e, 0, 0, 0, 0, 0, false, 0, [], [], (kind : Int), W, O, (sh : Int), Pr, pb, pn, pl, f, x'))
  | [], i, x, hr, hi, hkx, hl => by
    have hi' : R.length ≤ i := by
      rcases Nat.lt_or_ge i R.length with h1 | h1
      · rw [List.drop_eq_getElem_cons h1] at hr; cases hr
      · exact h1
    unfold restS
    refine lfp_base fun g => ?_
    unfold B_ref16_Take_67
    dsimp only
    rw [decide_eq_false (show ¬ (i : Int) < (R.length : Int) by omega)]
    rfl
  | n :: r, i, x, hr, hi, hkx, hl => by
    have hi' : i < R.length := by
      rcases Nat.lt_or_ge i R.length with h1 | h1
      · exact h1
      · rw [List.drop_eq_nil_of_le h1] at hr; cases hr
    rw [List.drop_eq_getElem_cons hi'] at hr
    simp only [List.cons.injEq] at hr
    rw [List.length_cons] at hl
    have body : ∀ g : L_ref16_Take_67, B_ref16_Take_67 f_ref06_In f_ref07_Told f_ref12_Told g ((k : Int), (d : Int), (i : Int), bl, a, e, 0, 0, 0, 0, 0, false, 0, [], [], 0, 0, 0, 0, 0, false, 0, [], [], (kind : Int), W, O, (sh : Int), Pr, pb, pn, pl, f, x, R) =
        if inS d (addI .i64 n (toldS kind k sh f x)) = true then g ((k : Int), (d : Int), ((i + 1 : Nat) : Int), bl, a, e, 0, 0, 0, 0, 0, false, 0, [], [], 0, 0, 0, 0, 0, false, 0, [], [], (kind : Int), W, O, (sh : Int), Pr, pb, pn, pl, f, x ++ [addI .i64 n (toldS kind k sh f x)], R)
        else some (.inr (6, bl, a, e, [], 0, 0, 0, 0, 0, false, 0, [], [])) := by
      intro g
      unfold B_ref16_Take_67
      dsimp only
      rw [decide_eq_true (show (i : Int) < (R.length : Int) by omega)]
      simp only [if_true, Option.bind_some, rtold07' (show x.length ≤ 1099511627776 by omega) hkx]
      have hidx : idx R (i : Int) = some n := by rw [idx_nat hi', hr.1]
      have hinb : inb (i : Int) R.length = some () := inb_of (by omega) (by omega)
      have hroom : ∀ v : Int, room (x.length + ((List.replicate 1 (0 : Int)).set 0 v).length) = some () := fun v => room_of (by simp; omega)
      have e1 : addI .i64 (i : Int) 1 = ((i + 1 : Nat) : Int) := by rw [add64 (by omega) (by omega)]; omega
      rcases hkd with rfl | ⟨rfl, hfl, hsh⟩
      · simp only [show (((2 : Nat) : Int) == 3) = false from rfl, Bool.false_eq_true, if_false, Option.bind_some, hinb, hidx, rin_eq hd1 hd2, hroom, e1]
        rw [show dotW (fixF k) x 0 = toldS 2 k sh f x from rfl]
        cases inS d (addI .i64 n (toldS 2 k sh f x)) <;> rfl
      · simp only [show (((3 : Nat) : Int) == 3) = true from rfl, if_true, rtold12 (show x.length ≤ 1099511627776 by omega) (show f.length ≤ x.length by omega) hsh, Option.bind_some, hinb, hidx, rin_eq hd1 hd2, hroom, e1]
        rw [show dotW f x 0 / 2 ^ sh = toldS 3 k sh f x from rfl]
        cases inS d (addI .i64 n (toldS 3 k sh f x)) <;> rfl
    unfold restS
    by_cases h : inS d (addI .i64 n (toldS kind k sh f x)) = true
    · rw [if_pos h]
      have ih := rrest_loop k kind sh d f R hR0 hkd hd1 hd2 bl a e W O Pr pb pn pl r (i + 1) (x ++ [addI .i64 n (toldS kind k sh f x)]) hr.2 hi' (by simp; omega) (by simp; omega)
      rcases hq : restS kind k sh d f r (x ++ [addI .i64 n (toldS kind k sh f x)]) with er | x'
      · rw [hq] at ih
        obtain ⟨a', e', ho⟩ := ih
        exact ⟨a', e', lfp_step ho fun g hg => by rw [body, if_pos h, hg]⟩
      · rw [hq] at ih
        exact lfp_step ih fun g hg => by rw [body, if_pos h, hg]
    · rw [if_neg h]
      exact ⟨a, e, lfp_base fun g => by rw [body, if_neg h]⟩

theorem rup_loop (bl : List Bool) (a e K O Sh Pr : Int) (pb : Bool) (pn : Int) (pl : List e0) (F : List Int) (w : Nat) (hw : w ≤ 62) : ∀ (m i : Nat) (x : List Int), i + m = x.length → x.length ≤ 1099511627776 →
    F_ref16_Take_78 ((i : Int), bl, a, e, 0, 0, 0, 0, 0, false, 0, [], [], K, (w : Int), O, Sh, Pr, pb, pn, pl, F, x) = some (bl, a, e, 0, 0, 0, 0, 0, false, 0, [], [], K, (w : Int), O, Sh, Pr, pb, pn, pl, F, x.take i ++ upS w (x.drop i))
  | 0, i, x, h, hx => by
    refine lfp_base fun g => ?_
    unfold B_ref16_Take_78
    dsimp only
    rw [decide_eq_false (show ¬ (i : Int) < (x.length : Int) by omega), List.drop_eq_nil_of_le (by omega), List.take_of_length_le (by omega)]
    simp [upS]
  | m + 1, i, x, h, hx => by
    have hi : i < x.length := by omega
    have ih := rup_loop bl a e K O Sh Pr pb pn pl F w hw m (i + 1) (x.set i (IntKind.wrap .i64 (x[i] * 2 ^ w))) (by rw [List.length_set]; omega) (by rw [List.length_set]; omega)
    rw [upS_step hi] at ih
    refine lfp_step ih fun g hg => ?_
    unfold B_ref16_Take_78
    dsimp only
    rw [decide_eq_true (show (i : Int) < (x.length : Int) by omega)]
    simp only [if_true, Option.bind_some]
    rw [inb_of (by omega) (by omega), idx_nat hi]
    simp only [Option.bind_some]
    rw [power_eq w hw, add64 (by omega) (by omega)]
    simp only [Option.bind_some, Int.toNat_natCast]
    rw [← hg]
    rfl
end Go.Pv.Try
