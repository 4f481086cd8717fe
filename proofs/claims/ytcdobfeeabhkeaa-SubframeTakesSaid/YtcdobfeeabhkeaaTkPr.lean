/- The chapter's example. -/
import Derived.Test.YtcdobfeeabhkeaaTkPq
set_option autoImplicit false
set_option linter.unusedVariables false
set_option linter.unusedSimpArgs false
namespace Go.Pv
theorem lfp_go {α β : Type} {f : (α → Option β) → α → Option β} {x y : α} {o : β} (h : ∀ g, f g x = g y) (hy : lfp f y = some o) : lfp f x = some o := lfp_step hy fun g hg => (h g).trans hg
theorem bind_of {α β : Type} {o : Option α} {a : α} {f : α → Option β} {r : Option β} (h : o = some a) (hf : f a = r) : o.bind f = r := by rw [h]; exact hf
end Go.Pv
namespace Go.Pv.Try
open Go Go.Pv

theorem aw_odd : f_subframe_odd ([-1, -1], none9, 8) = some 0 := by
  have h2 : F_subframe_odd_5 (8, [-1, -1], 2, 2, 0, 0, 0, 0, 0, [], false, 0, []) = some (.inl ()) := lfp_base fun g => rfl
  have h1 : F_subframe_odd_5 (8, [-1, -1], 2, 1, 0, 0, 0, 0, 0, [], false, 0, []) = some (.inl ()) := lfp_go (fun g => by rfl) h2
  have h0 : F_subframe_odd_5 (8, [-1, -1], 2, 0, 0, 0, 0, 0, 0, [], false, 0, []) = some (.inl ()) := lfp_go (fun g => by rfl) h1
  exact bind_of h0 rfl
theorem aw_down : f_subframe_down ([-1, -1], 0) = some [-1, -1] := by
  have h2 : F_subframe_down_3 (0, 2, 2, [-1, -1]) = some [-1, -1] := lfp_base fun g => rfl
  have h1 : F_subframe_down_3 (0, 2, 1, [-1, -1]) = some [-1, -1] := lfp_go (fun g => by rfl) h2
  have h0 : F_subframe_down_3 (0, 2, 0, [-1, -1]) = some [-1, -1] := lfp_go (fun g => by rfl) h1
  exact bind_of h0 rfl
theorem aw_rest : f_subframe_Rest ([-1, -1], none9) = some ([], 0) := by
  have h1 : F_slices_IndexFunc_sint_int_subframe_wide_2 ([], ((), ()), 0, 0) = some (.inl ()) := lfp_base fun g => rfl
  have h2 : f_slices_ContainsFunc_sint_int_subframe_wide ([], ((), ())) = some false := bind_of (bind_of h1 rfl) rfl
  refine bind_of aw_down ?_
  show (Option.bind (Option.bind (f_slices_ContainsFunc_sint_int_subframe_wide ([], ((), ()))) _) _) = _
  rw [h2]; rfl
theorem aw_compact : f_slices_Compact_sint_int [-1, -1] = some [-1] := by
  have h1 : F_slices_Compact_sint_int_9 (1, 1, 1, 1, [-1, -1]) = some (1, [-1, -1]) := lfp_base fun g => rfl
  have h2 : F_slices_Compact_sint_int_4 (1, [-1, -1]) = some (.inr (0, 1, [-1, 0])) := by
    refine lfp_base fun g => ?_
    show Option.bind (F_slices_Compact_sint_int_9 (1, 1, 1, 1, [-1, -1])) _ = _
    rw [h1]; rfl
  exact bind_of h2 rfl
theorem aw_bits : f_subframe_Bits ([-1, -1], none9, 8) = some (16, 0) := by
  refine bind_of aw_odd ?_
  show Option.bind (f_subframe_Rest ([-1, -1], none9)) _ = _
  refine bind_of aw_rest ?_
  dsimp only
  simp only [beq_self_eq_true, if_true, Option.bind_some, clone_eq (show ([-1, -1] : List Int).length ≤ 1099511627776 by decide), aw_compact]
  rfl
theorem aw_put1 : f_bits_Writer_Put ([], 0, 0, 7) = some ([0], 7) := by
  have h : F_bits_Writer_Put_g0 (0, 0, 7, [0]) = some (7, [0]) := lfp_base fun g => rfl
  exact bind_of h rfl
theorem aw_put2 : f_bits_Writer_Put ([0], 7, 0, 1) = some ([0], 8) := by
  have h : F_bits_Writer_Put_g0 (0, 0, 8, [0]) = some (8, [0]) := lfp_base fun g => rfl
  exact bind_of h rfl
theorem aw_put3 : f_bits_Writer_Put ([0], 8, 18446744073709551615, 8) = some ([0, 255], 16) := by
  have h : F_bits_Writer_Put_g0 (18446744073709551615, 0, 16, [0, 255]) = some (16, [0, 255]) := lfp_base fun g => rfl
  exact bind_of h rfl
theorem aw_all : f_subframe_all ([0], 8, [-1], 8) = some ([0, 255], 16) := by
  have h1 : F_subframe_all_1 (8, [-1], 1, 1, 16, [0, 255]) = some (16, [0, 255]) := lfp_base fun g => rfl
  have h0 : F_subframe_all_1 (8, [-1], 1, 0, 8, [0]) = some (16, [0, 255]) := lfp_go (fun g => by
    show Option.bind (f_bits_Writer_Put ([0], 8, 18446744073709551615, 8)) _ = _
    exact bind_of aw_put3 rfl) h1
  exact bind_of h0 rfl
theorem aw_sub : f_subframe_Put ([], 0, [-1, -1], none9, 8) = some (0, [0, 255], 16) := by
  refine bind_of aw_bits ?_
  show Option.bind (f_subframe_Rest ([-1, -1], none9)) _ = _
  refine bind_of aw_rest ?_
  show Option.bind (f_bits_Writer_Put ([], 0, 0, 7)) _ = _
  refine bind_of aw_put1 ?_
  show Option.bind (Option.bind (f_bits_Writer_Put ([0], 7, 0, 1)) _) _ = _
  refine bind_of (bind_of aw_put2 rfl) ?_
  show Option.bind (f_subframe_down ([-1, -1], 0)) _ = _
  refine bind_of aw_down ?_
  show Option.bind (f_subframe_all ([0], 8, [-1], 8)) _ = _
  exact bind_of aw_all rfl
theorem aw_same : f_ref01_Same ([0, 255], [0, 255]) = some true := by
  have h2 : F_ref01_Same_4 ([0, 255], [0, 255], 2) = some (.inl ()) := lfp_base fun g => rfl
  have h1 : F_ref01_Same_4 ([0, 255], [0, 255], 1) = some (.inl ()) := lfp_go (fun g => by rfl) h2
  have h0 : F_ref01_Same_4 ([0, 255], [0, 255], 0) = some (.inl ()) := lfp_go (fun g => by rfl) h1
  exact bind_of h0 rfl
theorem awake16 : f_law16_awake () = some true := by
  refine bind_of aw_sub ?_
  refine bind_of aw_bits ?_
  show Option.bind (Option.bind (f_ref01_Same ([0, 255], [0, 255])) _) _ = _
  exact bind_of (bind_of aw_same rfl) rfl

/-! ### lists that are one -/
theorem ints_loop (l : List Int) (hl : l.length ≤ 1099511627776) : ∀ (m i : Nat), i + m = l.length → F_ref01_Ints_4 (l, l, (i : Int)) = some (.inl ())
  | 0, i, h => by
    refine lfp_base fun g => ?_
    unfold B_ref01_Ints_4
    dsimp only
    rw [decide_eq_false (show ¬(i : Int) < (l.length : Int) by omega)]
    rfl
  | m + 1, i, h => by
    refine lfp_step (ints_loop l hl m (i + 1) (by omega)) fun g hg => ?_
    unfold B_ref01_Ints_4
    dsimp only
    rw [decide_eq_true (show (i : Int) < (l.length : Int) by omega)]
    simp only [if_true, Option.bind_some]
    rw [idx_nat (by omega)]
    simp only [Option.bind_some, bne_self_eq_false, Bool.false_eq_true, if_false]
    rw [add64 (by omega) (by omega), ← hg]
    rfl
theorem ints_refl (l : List Int) (hl : l.length ≤ 1099511627776) : f_ref01_Ints (l, l) = some true := by
  unfold f_ref01_Ints F_ref01_Ints
  dsimp only
  have h := ints_loop l hl l.length 0 (by omega)
  rw [Int.natCast_zero] at h
  simp only [bne_self_eq_false, Bool.false_eq_true, if_false, h, Option.bind_some]
theorem plan_loop (x1 : Bool) (x2 : Int) (y1 : Bool) (y2 : Int) (l : List e0) (hl : l.length ≤ 1099511627776) : ∀ (m i : Nat), i + m = l.length → F_ref14_Same_4 ((i : Int), x1, x2, l, y1, y2, l) = some (.inl ())
  | 0, i, h => by
    refine lfp_base fun g => ?_
    unfold B_ref14_Same_4
    dsimp only
    rw [decide_eq_false (show ¬(i : Int) < (l.length : Int) by omega)]
    rfl
  | m + 1, i, h => by
    refine lfp_step (plan_loop x1 x2 y1 y2 l hl m (i + 1) (by omega)) fun g hg => ?_
    unfold B_ref14_Same_4
    dsimp only
    rw [decide_eq_true (show (i : Int) < (l.length : Int) by omega)]
    simp only [if_true, Option.bind_some]
    rw [idx_nat (by omega)]
    simp only [Option.bind_some]
    have hb : ∀ x : e0, beqEl y0 x x = true := by
      rintro ⟨a, b, ⟨⟩⟩
      simp [beqEl]
    rw [hb, add64 (by omega) (by omega), ← hg]
    rfl
theorem plan_refl (p : e4) (hl : p.2.2.1.length ≤ 1099511627776) : f_ref14_Same (p, p) = some true := by
  unfold f_ref14_Same F_ref14_Same
  dsimp only
  have h := plan_loop p.1 p.2.1 p.1 p.2.1 p.2.2.1 hl p.2.2.1.length 0 (by omega)
  rw [Int.natCast_zero] at h
  simp only [beq_self_eq_true, Bool.not_true, bne_self_eq_false, Bool.false_eq_true, if_false, h, Option.bind_some]
theorem same_refl (s : e9) (h1 : s.2.2.2.1.2.2.1.length ≤ 1099511627776) (h2 : s.2.2.2.2.1.2.2.1.length ≤ 1099511627776) : f_ref16_Same (s, s) = some true := by
  unfold f_ref16_Same F_ref16_Same
  dsimp only
  simp only [bne_self_eq_false, Bool.false_eq_true, if_false, Option.bind_some, ints_refl _ h1, if_true]
  rw [show (s.2.2.2.2.1.1, s.2.2.2.2.1.2.1, s.2.2.2.2.1.2.2.1, ()) = s.2.2.2.2.1 from rfl, plan_refl _ h2]
  rfl

/-! ### how long what is taken is -/
theorem upS_len (w : Nat) (x : List Int) : (upS w x).length = x.length := by unfold upS; simp
theorem sectS_parts {b : List Int} {a : Nat} {block order : Int} {ls : List Int} {p : e4} {a' : Nat} (ha : a ≤ 8 * b.length) (h : sectS b a block order = .inr (ls, p, a')) : p.2.2.1.length ≤ 32768 := by
  unfold sectS at h
  split at h
  · cases h
  · split at h
    · cases h
    · split at h
      · cases h
      · split at h
        · cases h
        · split at h
          · cases h
          · rename_i hc
            split at h
            · cases h
            · rename_i hr
              cases h
              obtain ⟨C, hC, _, hs, hC3⟩ := cutsS_nat (n := block - order) (k := order) (o := (rt b (rt b a 0 2).2.1 0 4).1)
              rw [← hc, hC, toNat_cast] at hr
              have h2 := partsS_len b _ _ _ _ _ _ (rt_le (rt_le ha)) hr
              dsimp only
              omega

theorem takeS_len {b : List Int} {a blk depth : Nat} {x : List Int} {s : e9} {a' : Nat} (ha : a ≤ 8 * b.length) (hd1 : 4 ≤ depth) (hd2 : depth ≤ 33) (h : takeS b a blk depth = .inr (x, s, a')) : x.length = blk ∧ s.2.2.2.1.2.2.1.length ≤ 32 ∧ s.2.2.2.2.1.2.2.1.length ≤ 32768 ∧ a' ≤ 8 * b.length := by
  unfold takeS at h
  split at h
  · cases h
  · rename_i hB
    obtain ⟨hK, hw, hkb, ha1⟩ := begS_ok ha (by omega) hB
    split at h
    · cases h
    · rename_i hS
      obtain ⟨hx1, ha2, hx2⟩ := sgnsS_len (by omega) (by omega) ha1 hS
      split at h
      · cases h
        exact ⟨by rw [upS_len]; simp, by simp, by simp, ha2⟩
      · rename_i hK0
        rw [if_neg hK0] at hx1
        split at h
        · rename_i hK1
          rw [if_pos hK1] at hx1
          cases h
          exact ⟨by rw [upS_len]; exact hx1, by simp, by simp, ha2⟩
        · rename_i hK1
          rw [if_neg hK1] at hx1
          split at h
          · split at h
            · cases h
            · rename_i hS2
              split at h
              · cases h
              · rename_i hR
                cases h
                have h1 := sectS_len ha2 hS2
                have h2 := restS_len hR
                exact ⟨by rw [upS_len]; omega, by simp, sectS_parts ha2 hS2, h1.2⟩
          · split at h
            · cases h
            · rename_i hL
              obtain ⟨l1, l2, l3, l4, l5, ha3⟩ := linS_ok ha2 hL
              split at h
              · cases h
              · rename_i hS2
                split at h
                · cases h
                · rename_i hR
                  cases h
                  have h1 := sectS_len ha3 hS2
                  have h2 := restS_len hR
                  exact ⟨by rw [upS_len]; omega, by dsimp only; omega, sectS_parts ha3 hS2, h1.2⟩

theorem takeS_err {b : List Int} {a blk depth : Nat} {er : Int} (h : takeS b a blk depth = .inl er) : er ≠ 0 := by
  unfold takeS at h
  split at h
  · rename_i hB; cases h; exact begS_err hB
  · split at h
    · rename_i hS; cases h; exact sgnsS_err hS
    · split at h
      · cases h
      · split at h
        · cases h
        · split at h
          · split at h
            · rename_i hS; cases h; exact sectS_err hS
            · split at h
              · rename_i hS; cases h; rw [restS_err hS]; decide
              · cases h
          · split at h
            · rename_i hS; cases h; exact linS_err hS
            · split at h
              · rename_i hS; cases h; exact sectS_err hS
              · split at h
                · rename_i hS; cases h; rw [restS_err hS]; decide
                · cases h

/-! ### the law -/
theorem bclone_eq {l : List Int} (h : l.length ≤ 1099511627776) : f_bytes_Clone l = some l := if_pos h

theorem subframeTakes (b : List Int) (hb : ∀ x ∈ b, 0 ≤ x ∧ x ≤ 255) (blk depth : Int) : f_law16_SubframeTakes (b, blk, depth) = some true := by
  unfold f_law16_SubframeTakes F_law16_SubframeTakes
  dsimp only
  rw [awake16]
  simp only [Option.bind_some]
  by_cases h1 : (b.length : Int) > 100
  · rw [decide_eq_true h1]; rfl
  rw [decide_eq_false h1]
  simp only [Bool.false_eq_true, if_false]
  by_cases h2 : blk > 100 ∧ blk ≤ 65535
  · rw [decide_eq_true h2.1, decide_eq_true h2.2]; rfl
  have hcond : (if decide (blk > 100) = true then some (b, blk, depth, true, decide (blk ≤ 65535)) else some (b, blk, depth, true, false)) = some (b, blk, depth, true, false) := by
    by_cases h3 : blk > 100
    · rw [decide_eq_true h3, decide_eq_false (show ¬ blk ≤ 65535 by omega)]; rfl
    · rw [decide_eq_false h3]; rfl
  rw [hcond]
  simp only [Option.bind_some, Bool.false_eq_true, if_false]
  have hB : Bytes b := ⟨hb, by omega⟩
  have hopen : f_bits_Open b = some (b, 0, 0) := bind_of (bclone_eq (by omega)) rfl
  rw [hopen, bits_eq b hB]
  simp only [Option.bind_some]
  have hnil : f_ref01_Ints ([], []) = some true := ints_refl [] (by simp)
  have hnone : f_ref16_Same (none9, none9) = some true := same_refl none9 (by simp) (by simp)
  by_cases hbad : depth < 4 ∨ depth > 33 ∨ blk < 1 ∨ blk > 65535
  · rw [take_bad b 0 0 blk depth hbad, rtake_bad (bitsL b) 0 0 blk depth hbad]
    simp only [Option.bind_some, beq_self_eq_true, if_true, hnil, hnone]
    rfl
  obtain ⟨d, rfl⟩ : ∃ d : Nat, depth = d := ⟨depth.toNat, by omega⟩
  obtain ⟨k, rfl⟩ : ∃ k : Nat, blk = k := ⟨blk.toNat, by omega⟩
  have hs := stake b hB 0 (by omega) k d (by omega) (by omega) (by omega) (by omega)
  have hr := rtake b hB 0 (by omega) k d (by omega) (by omega) (by omega) (by omega)
  rw [Int.natCast_zero] at hs hr
  rcases hT : takeS b 0 k d with er | ⟨x, s, a'⟩
  · rw [hT] at hs hr
    obtain ⟨a1, e1, hs⟩ := hs
    obtain ⟨a2, e2, hr⟩ := hr
    rw [hs, hr]
    simp only [Option.bind_some, beq_self_eq_true, if_true, hnil, hnone]
    have he : (er != 0) = true := by rw [bne_iff_ne]; exact takeS_err hT
    rw [if_pos he]; rfl
  · rw [hT] at hs hr
    dsimp only at hs hr
    obtain ⟨l1, l2, l3, l4⟩ := takeS_len (by omega) (by omega) (by omega) hT
    rw [hs, hr]
    simp only [Option.bind_some, beq_self_eq_true, if_true, ints_refl x (by omega)]
    rw [show (s.1, s.2.1, s.2.2.1, (s.2.2.2.1.1, s.2.2.2.1.2.1, s.2.2.2.1.2.2.1, ()), (s.2.2.2.2.1.1, s.2.2.2.2.1.2.1, s.2.2.2.2.1.2.2.1, ()), ()) = s from rfl, same_refl s (by omega) (by omega)]
    simp only [Option.bind_some, if_true, bne_self_eq_false, Bool.false_eq_true, if_false]
    show some ((a' : Int) == (a' : Int)) = some true
    rw [beq_self_eq_true]
end Go.Pv.Try
