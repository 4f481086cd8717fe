/- Sections. -/
import Derived.Test.YtcdobfeeabhkeaaTkPe
set_option autoImplicit false
set_option linter.unusedVariables false
set_option linter.unusedSimpArgs false
namespace Go.Pv.Try
open Go Go.Pv

/-- one number of a part -/
def numS (b : List Int) (K : Nat) (raw : Bool) (a : Nat) (e : Int) : Int × Nat × Int :=
  if raw = true then (sgn K (rt b a e K).1, (rt b a e K).2.1, (rt b a e K).2.2) else riceS b a e (k30 K)
theorem numS_le {b : List Int} {K : Nat} {raw : Bool} {a : Nat} {e : Int} (h : a ≤ 8 * b.length) : (numS b K raw a e).2.1 ≤ 8 * b.length := by
  unfold numS; split
  · exact rt_le h
  · exact riceS_le b a e _ h

theorem sraw_eq' (b : List Int) (hb : Bytes b) (a : Nat) (ha : a ≤ 8 * b.length) (e : Int) {w : Nat} (h2 : w ≤ 64) :
    f_section_raw (b, (a : Int), e, (w : Int)) = some (sgn w (rt b a e w).1, b, ((rt b a e w).2.1 : Int), (rt b a e w).2.2) := by
  by_cases h0 : w = 0
  · subst h0
    have : rt b a e ((0 : Nat) : Int) = (0, a, e) := by
      by_cases he : e = 0
      · subst he; exact rt_in (w := 0) (by omega) (by omega)
      · exact rt_bad he
    rw [this]; rfl
  · unfold f_section_raw F_section_raw
    dsimp only
    have hw : ((w : Int) == 0) = false := by rw [beq_eq_false_iff_ne]; omega
    rw [hw]
    simp only [Bool.false_eq_true, if_false]
    exact ssigned_eq b hb a ha e (by omega) h2

theorem number_of (b : List Int) (hb : Bytes b) (a : Nat) (ha : a ≤ 8 * b.length) (e : Int) {K : Nat} (h2 : K ≤ 64) (raw : Bool) :
    f_section_number (b, (a : Int), e, ((K : Int), (raw, ()))) = some ((numS b K raw a e).1, b, ((numS b K raw a e).2.1 : Int), (numS b K raw a e).2.2) := by
  unfold f_section_number F_section_number
  dsimp only
  simp only [sraw_eq' b hb a ha e h2, rice_eq b hb a ha, Option.bind_some]
  unfold numS
  cases raw <;> rfl

/-- a part's numbers -/
def numsS (b : List Int) (K : Nat) (raw : Bool) : Nat → Nat → Int → Int ⊕ (List Int × Nat)
  | 0, a, e => .inr ([], a)
  | n + 1, a, e =>
    if (numS b K raw a e).2.2 ≠ 0 then .inl (numS b K raw a e).2.2
    else if (numS b K raw a e).1 ≤ -2147483648 ∨ (numS b K raw a e).1 ≥ 2147483648 then .inl 14
    else match numsS b K raw n (numS b K raw a e).2.1 0 with
      | .inl er => .inl er
      | .inr (l, a') => .inr ((numS b K raw a e).1 :: l, a')

theorem numsS_len (b : List Int) (K : Nat) (raw : Bool) : ∀ n a e l a', a ≤ 8 * b.length → numsS b K raw n a e = .inr (l, a') → l.length = n ∧ a' ≤ 8 * b.length
  | 0, a, e, l, a', h, h1 => by unfold numsS at h1; cases h1; exact ⟨rfl, h⟩
  | n + 1, a, e, l, a', h, h1 => by
    unfold numsS at h1
    split at h1
    · cases h1
    · split at h1
      · cases h1
      · split at h1
        · cases h1
        · rename_i hr
          cases h1
          have := numsS_len b K raw n _ _ _ _ (numS_le h) hr
          exact ⟨by simp [this.1], this.2⟩

theorem snums (b : List Int) (hb : Bytes b) (K : Nat) (hK : K ≤ 64) (raw : Bool) (x1 x2 z3 o1 : Int) (z1 o0 : Bool) (z2 z4 : List e0) (cuts : List Int) :
    ∀ (n j a : Nat) (e : Int) (l : List Int), a ≤ 8 * b.length → (n = 0 → e = 0) → l.length + n ≤ 1099511627776 → j + n ≤ 1099511627776 →
    match numsS b K raw n a e with
    | .inl er => ∃ a' e' : Int, F_section_Take_19 (x1, x2, ((j + n : Nat) : Int), (j : Int), b, (a : Int), e, z1, z3, z2, o0, o1, z4, cuts, l, (K : Int), raw) = some (.inr (er, b, a', e', [], false, 0, []))
    | .inr (l', a') => F_section_Take_19 (x1, x2, ((j + n : Nat) : Int), (j : Int), b, (a : Int), e, z1, z3, z2, o0, o1, z4, cuts, l, (K : Int), raw) = some (.inl (x1, x2, b, (a' : Int), 0, z1, z3, z2, o0, o1, z4, cuts, l ++ l'))
  | 0, j, a, e, l, ha, he, hl, hj => by
    unfold numsS
    obtain rfl := he rfl
    refine lfp_base fun g => ?_
    unfold B_section_Take_19
    dsimp only
    have hd : decide ((j : Int) < ((j + 0 : Nat) : Int)) = false := by rw [decide_eq_false_iff_not]; omega
    rw [hd]
    simp
  | n + 1, j, a, e, l, ha, he, hl, hj => by
    have hd : decide ((j : Int) < ((j + (n + 1) : Nat) : Int)) = true := by rw [decide_eq_true_iff]; omega
    unfold numsS
    have hnum := number_of b hb a ha e hK raw
    have hle := numS_le (b := b) (K := K) (raw := raw) (a := a) (e := e) ha
    rcases hs : numS b K raw a e with ⟨v, a1, e1⟩
    rw [hs] at hnum hle
    dsimp only at hnum hle ⊢
    by_cases h1 : e1 = 0
    · subst h1
      rw [if_neg (by simp)]
      by_cases h2 : v ≤ -2147483648 ∨ v ≥ 2147483648
      · rw [if_pos h2]
        refine ⟨a1, 0, lfp_base fun g => ?_⟩
        unfold B_section_Take_19
        dsimp only
        rw [hd]
        simp only [if_true, Option.bind_some, hnum, fail_eq, bne_self_eq_false, Bool.false_eq_true, if_false]
        by_cases h3 : v ≤ -2147483648
        · simp [h3]
        · have h4 : v ≥ 2147483648 := by omega
          simp [h3, h4]
      · rw [if_neg h2]
        have ih := snums b hb K hK raw x1 x2 z3 o1 z1 o0 z2 z4 cuts n (j + 1) a1 0 (l ++ [v]) hle (fun _ => rfl) (by simp; omega) (by omega)
        rw [show j + 1 + n = j + (n + 1) by omega] at ih
        have step : ∀ o, F_section_Take_19 (x1, x2, ((j + (n + 1) : Nat) : Int), ((j + 1 : Nat) : Int), b, (a1 : Int), 0, z1, z3, z2, o0, o1, z4, cuts, l ++ [v], (K : Int), raw) = some o →
            F_section_Take_19 (x1, x2, ((j + (n + 1) : Nat) : Int), (j : Int), b, (a : Int), e, z1, z3, z2, o0, o1, z4, cuts, l, (K : Int), raw) = some o := fun o ho => by
          refine lfp_step ho fun g hg => ?_
          unfold B_section_Take_19
          dsimp only
          rw [hd]
          have h3 : ¬ v ≤ -2147483648 := by omega
          have h4 : ¬ v ≥ 2147483648 := by omega
          simp only [if_true, Option.bind_some, hnum, fail_eq, bne_self_eq_false, Bool.false_eq_true, if_false, h3, h4, decide_false]
          rw [room_of (by simp; omega), add64 (by omega) (by omega), ← hg]
          rfl
        rcases hr : numsS b K raw n a1 0 with er | ⟨l', a'⟩
        · rw [hr] at ih
          obtain ⟨a', e', ho⟩ := ih
          exact ⟨a', e', step _ ho⟩
        · rw [hr] at ih
          dsimp only at ih ⊢
          rw [List.append_assoc] at ih
          exact step _ ih
    · rw [if_pos h1]
      refine ⟨a1, e1, lfp_base fun g => ?_⟩
      unfold B_section_Take_19
      dsimp only
      rw [hd]
      have h2 : (e1 != 0) = true := by rw [bne_iff_ne]; exact h1
      simp only [if_true, Option.bind_some, hnum, fail_eq, h2]

theorem idx_set {α : Type} {l : List α} {i : Nat} (h : i < l.length) (x : α) : idx (l.set i x) (i : Int) = some x := by
  rw [idx_nat (by rw [List.length_set]; exact h), List.getElem_set_self]

theorem rnums (b : List Int) (hb : Bytes b) (K : Nat) (hK : K ≤ 62) (raw : Bool) (blk ord size i : Nat) (z0 z1 o0 : Bool) (y0 y1 o1 : Int) (q0 q1 z4 : List e0) (cuts : List Int) (hi : i < cuts.length) (hbo : ord ≤ blk) (hblk : blk ≤ 65535) :
    ∀ (n a : Nat) (e : Int) (l : List Int), a ≤ 8 * b.length → (n = 0 → e = 0) → l.length + n + ord ≤ blk →
    match numsS b K raw n a e with
    | .inl er => ∃ a' e' : Int, F_ref15_Take_29 ((blk : Int), (ord : Int), (size : Int), (i : Int), bitsL b, (a : Int), e, z0, y0, q0, z1, y1, q1, o0, o1, z4, cuts.set i (n : Int), l, (K : Int), raw) = some (.inr (er, bitsL b, a', e', [], z1, y1, q1))
    | .inr (l', a') => F_ref15_Take_29 ((blk : Int), (ord : Int), (size : Int), (i : Int), bitsL b, (a : Int), e, z0, y0, q0, z1, y1, q1, o0, o1, z4, cuts.set i (n : Int), l, (K : Int), raw) = some (.inl ((blk : Int), (ord : Int), (size : Int), (i : Int), bitsL b, (a' : Int), 0, z0, y0, q0, z1, y1, q1, o0, o1, z4, cuts.set i 0, l ++ l'))
  | 0, a, e, l, ha, he, hl => by
    unfold numsS
    obtain rfl := he rfl
    refine lfp_base fun g => ?_
    unfold B_ref15_Take_29
    dsimp only
    rw [sub64 (by omega) (by omega)]
    by_cases hd : (l.length : Int) < (blk : Int) - (ord : Int)
    · rw [decide_eq_true hd]
      simp only [if_true, Option.bind_some]
      rw [inb_of (by omega) (by rw [List.length_set]; omega), idx_set hi]
      simp
    · rw [decide_eq_false hd]
      simp
  | n + 1, a, e, l, ha, he, hl => by
    have hd : decide ((l.length : Int) < (blk : Int) - (ord : Int)) = true := by rw [decide_eq_true_iff]; omega
    unfold numsS
    have hle := numS_le (b := b) (K := K) (raw := raw) (a := a) (e := e) ha
    have hnum : ∀ {β : Type} (f : Int → List Bool → Int → Int → Option β), (if raw = true then (f_ref01_Reader_Take (bitsL b, (a : Int), e, (K : Int))).bind fun x => (f_ref15_Signed (x.1, (K : Int))).bind fun y => f y x.2.1 x.2.2.1 x.2.2.2
        else (f_ref02_Take (bitsL b, (a : Int), e, (K : Int))).bind fun x => f x.1 x.2.1 x.2.2.1 x.2.2.2) = f (numS b K raw a e).1 (bitsL b) ((numS b K raw a e).2.1 : Int) (numS b K raw a e).2.2 := by
      intro β f
      unfold numS
      have hv := rt_lt (b := b) (a := a) (e := e) (w := K)
      rw [held_nat (by omega)] at hv
      cases raw
      · simp only [Bool.false_eq_true, if_false, rrice_eq b hb a ha, Option.bind_some]
      · simp only [if_true, rtake_eq b hb a ha, Option.bind_some, signed_eq hK hv]
    rcases hs : numS b K raw a e with ⟨v, a1, e1⟩
    rw [hs] at hle
    dsimp only at hle ⊢
    have hc : decide (((n + 1 : Nat) : Int) > 0) = true := by rw [decide_eq_true_iff]; omega
    have body : ∀ (g : L_ref15_Take_29), B_ref15_Take_29 f_ref01_Reader_Take f_ref02_Take f_ref15_Signed g ((blk : Int), (ord : Int), (size : Int), (i : Int), bitsL b, (a : Int), e, z0, y0, q0, z1, y1, q1, o0, o1, z4, cuts.set i ((n + 1 : Nat) : Int), l, (K : Int), raw) =
        if (e1 != 0) = true then some (.inr (e1, bitsL b, (a1 : Int), e1, [], z1, y1, q1))
        else if v < -2147483647 ∨ v > 2147483647 then some (.inr (14, bitsL b, (a1 : Int), e1, [], z1, y1, q1))
        else g ((blk : Int), (ord : Int), (size : Int), (i : Int), bitsL b, (a1 : Int), e1, z0, y0, q0, z1, y1, q1, o0, o1, z4, cuts.set i (n : Int), l ++ [v], (K : Int), raw) := by
      intro g
      unfold B_ref15_Take_29
      dsimp only
      rw [sub64 (by omega) (by omega), hd]
      simp only [if_true, Option.bind_some]
      rw [inb_of (by omega) (by rw [List.length_set]; omega), idx_set hi]
      simp only [Option.bind_some, hc, if_true]
      rw [hnum (fun y x1 x2 x3 => some (_, _, _, _, y, x1, x2, x3, _, _, _, _, _, _, _, _, _, _, _, _, _)), hs]
      simp only [Option.bind_some]
      by_cases h1 : (e1 != 0) = true
      · simp only [h1, if_true, Option.bind_some]
      · simp only [h1, Bool.false_eq_true, if_false]
        by_cases h2 : v < -2147483647
        · simp [h2]
        · by_cases h3 : v > 2147483647
          · simp [h2, h3]
          · simp only [h2, h3, decide_false, or_false, Bool.false_eq_true, if_false, Option.bind_some]
            rw [room_of (by simp; omega), inb_of (by omega) (by rw [List.length_set]; omega), idx_set hi]
            simp only [Option.bind_some]
            rw [sub64 (by omega) (by omega), Int.toNat_natCast, List.set_set]
            have e : (((n + 1 : Nat) : Int) - 1) = (n : Int) := by omega
            rw [e]
            rfl
    by_cases h1 : e1 = 0
    · subst h1
      rw [if_neg (by simp)]
      by_cases h2 : v ≤ -2147483648 ∨ v ≥ 2147483648
      · rw [if_pos h2]
        refine ⟨a1, 0, lfp_base fun g => ?_⟩
        rw [body, if_neg (by simp), if_pos (by omega)]
      · rw [if_neg h2]
        have ih := rnums b hb K hK raw blk ord size i z0 z1 o0 y0 y1 o1 q0 q1 z4 cuts hi hbo hblk n a1 0 (l ++ [v]) hle (fun _ => rfl) (by simp; omega)
        rcases hr : numsS b K raw n a1 0 with er | ⟨l', a'⟩
        · rw [hr] at ih
          obtain ⟨a', e', ho⟩ := ih
          exact ⟨a', e', lfp_step ho fun g hg => by rw [body, if_neg (by simp), if_neg (by omega), hg]⟩
        · rw [hr] at ih
          dsimp only at ih ⊢
          rw [List.append_assoc] at ih
          exact lfp_step ih fun g hg => by rw [body, if_neg (by simp), if_neg (by omega), hg]; rfl
    · rw [if_pos h1]
      refine ⟨a1, e1, lfp_base fun g => ?_⟩
      rw [body, if_pos (by rw [bne_iff_ne]; exact h1)]
end Go.Pv.Try
