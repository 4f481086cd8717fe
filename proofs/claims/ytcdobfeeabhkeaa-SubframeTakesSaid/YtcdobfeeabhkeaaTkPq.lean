/- The document's subframe by the same law. -/
import Derived.Test.YtcdobfeeabhkeaaTkPo
set_option autoImplicit false
set_option linter.unusedVariables false
set_option linter.unusedSimpArgs false
namespace Go.Pv.Try
open Go Go.Pv

theorem rtake_bad (b : List Bool) (a : Int) (e blk depth : Int) (h : depth < 4 ∨ depth > 33 ∨ blk < 1 ∨ blk > 65535) : f_ref16_Take (b, a, e, blk, depth) = some ([], none9, 1, b, a, e) := by
  unfold f_ref16_Take F_ref16_Take
  dsimp only
  by_cases h1 : depth < 4
  · simp [h1]
  by_cases h2 : depth > 33
  · simp [h1, h2]
  by_cases h3 : blk < 1
  · simp [h1, h2, h3]
  have h4 : blk > 65535 := by omega
  simp [h1, h2, h3, h4]

theorem rmany {K : Nat} (hK : K ≤ 3) (blk k : Int) : inb (K : Int) (List.length (List.set (List.set (List.set (List.set (List.replicate 4 (0 : Int)) 0 (1 : Int)) 1 blk) 2 k) 3 k)) = some () ∧
    idx (List.set (List.set (List.set (List.set (List.replicate 4 (0 : Int)) 0 (1 : Int)) 1 blk) 2 k) 3 k) (K : Int) = some (if K = 0 then 1 else if K = 1 then blk else k) := by
  rcases (by omega : K = 0 ∨ K = 1 ∨ K = 2 ∨ K = 3) with rfl | rfl | rfl | rfl <;> exact ⟨rfl, rfl⟩

theorem n01 : ((0 : Nat) = 1) = False := by simp
theorem n02 : ((0 : Nat) = 2) = False := by simp
theorem n03 : ((0 : Nat) = 3) = False := by simp
theorem n10 : ((1 : Nat) = 0) = False := by simp
theorem n12 : ((1 : Nat) = 2) = False := by simp
theorem n13 : ((1 : Nat) = 3) = False := by simp
theorem n20 : ((2 : Nat) = 0) = False := by simp
theorem n21 : ((2 : Nat) = 1) = False := by simp
theorem n23 : ((2 : Nat) = 3) = False := by simp
theorem n30 : ((3 : Nat) = 0) = False := by simp
theorem n31 : ((3 : Nat) = 1) = False := by simp
theorem n32 : ((3 : Nat) = 2) = False := by simp

set_option maxHeartbeats 8000000 in
theorem rtake (b : List Int) (hb : Bytes b) (a : Nat) (ha : a ≤ 8 * b.length) (blk depth : Nat) (hd1 : 4 ≤ depth) (hd2 : depth ≤ 33) (hb1 : 1 ≤ blk) (hb2 : blk ≤ 65535) :
    match takeS b a blk depth with
    | .inl er => ∃ a' e' : Int, f_ref16_Take (bitsL b, (a : Int), 0, (blk : Int), (depth : Int)) = some ([], none9, er, bitsL b, a', e')
    | .inr (x, s, a') => f_ref16_Take (bitsL b, (a : Int), 0, (blk : Int), (depth : Int)) = some (x, s, 0, bitsL b, (a' : Int), 0) := by
  unfold f_ref16_Take F_ref16_Take takeS begS
  dsimp only
  rw [decide_eq_false (show ¬ (depth : Int) < 4 by omega), decide_eq_false (show ¬ (depth : Int) > 33 by omega), decide_eq_false (show ¬ (blk : Int) < 1 by omega), decide_eq_false (show ¬ (blk : Int) > 65535 by omega)]
  simp only [Bool.false_eq_true, if_false, Option.bind_some, rtake_eq b hb a ha]
  have hle := rt_le (b := b) (a := a) (e := 0) (w := 1) ha
  have hlt := rt_lt (b := b) (a := a) (e := 0) (w := 1)
  have hlt2 : 2 ^ held 1 = 2 := rfl
  rcases ht : rt b a 0 1 with ⟨v, a1, e1⟩
  rw [ht] at hle hlt
  dsimp only at hle hlt ⊢
  by_cases he : e1 ≠ 0
  · rw [if_pos he]
    have hne : (e1 != 0) = true := by rw [bne_iff_ne]; exact he
    simp only [hne, if_true]
    exact ⟨_, _, rfl⟩
  obtain rfl : e1 = 0 := Classical.not_not.mp he
  rw [if_neg he]
  simp only [bne_self_eq_false, Bool.false_eq_true, if_false]
  by_cases hv : v ≠ 0
  · rw [if_pos hv, show v = 1 by omega]
    exact ⟨_, _, rfl⟩
  obtain rfl : v = 0 := Classical.not_not.mp hv
  rw [if_neg hv]
  simp only [show (((0 : Nat) : Int) == 1) = false from rfl, Bool.false_eq_true, if_false, rtake_eq b hb a1 hle, Option.bind_some]
  have hle2 := rt_le (b := b) (a := a1) (e := 0) (w := 6) hle
  have hlt3 := rt_lt (b := b) (a := a1) (e := 0) (w := 6)
  have hlt4 : 2 ^ held 6 = 64 := rfl
  rcases ht2 : rt b a1 0 6 with ⟨u, a2, e2⟩
  rw [ht2] at hle2 hlt3
  dsimp only at hle2 hlt3 ⊢
  by_cases he2 : e2 ≠ 0
  · rw [if_pos he2]
    have hne : (e2 != 0) = true := by rw [bne_iff_ne]; exact he2
    simp only [hne, if_true]
    exact ⟨_, _, rfl⟩
  obtain rfl : e2 = 0 := Classical.not_not.mp he2
  rw [if_neg he2]
  simp only [bne_self_eq_false, Bool.false_eq_true, if_false]
  rw [w64 (a := (u : Int)) (by omega) (by omega)]
  have hcase : u = 0 ∨ u = 1 ∨ (8 ≤ u ∧ u ≤ 12) ∨ 31 < u ∨ (1 < u ∧ ¬(8 ≤ u ∧ u ≤ 12) ∧ u ≤ 31) := by omega
  rcases hcase with hu | hu | hu | hu | hu
  · subst hu
    rw [show kindS 0 = some (0, 0) from rfl]
    dsimp only
    rw [decide_eq_false (show ¬ ((0 : Nat) : Int) ≥ 8 by decide)]
    simp only [Bool.false_eq_true, if_false, Option.bind_some]
    rw [decide_eq_false (show ¬ ((0 : Nat) : Int) ≥ 32 by decide), decide_eq_false (show ¬ ((0 : Nat) : Int) > 1 by decide)]
    simp only [Bool.false_eq_true, if_false, Option.bind_some, show ((0 : Nat) : Int) = 0 from rfl, show ((0 : Nat) : Int) = 0 from rfl]
    simp only [rtake_eq b hb a2 hle2, Option.bind_some]
    have hle3 := rt_le (b := b) (a := a2) (e := 0) (w := 1) hle2
    have hlt5 := rt_lt (b := b) (a := a2) (e := 0) (w := 1)
    rcases ht3 : rt b a2 0 1 with ⟨v3, a3, e3⟩
    rw [ht3] at hle3 hlt5
    dsimp only at hle3 hlt5 ⊢
    have hw := rwaste_loop b hb (blk : Int) depth 0 (by omega) 0 depth 0 a3 e3 v3 (by omega) (by omega) hle3 (by omega)
    rw [if_pos rfl, Int.natCast_zero] at hw
    rcases hr : wasteS b depth depth 0 a3 e3 (v3 == 1) with _ | ⟨w, a4, e4⟩
    · rw [hr] at hw
      obtain ⟨a', e', ho⟩ := hw
      rw [ho]
      exact ⟨_, _, rfl⟩
    rw [hr] at hw
    dsimp only at hw ⊢
    obtain ⟨hle4, hwd⟩ := wasteS_le hle3 (by omega) hr
    rw [hw]
    simp only [Option.bind_some]
    by_cases he4 : e4 ≠ 0
    · rw [if_pos he4]
      have hne : (e4 != 0) = true := by rw [bne_iff_ne]; exact he4
      simp only [hne, if_true]
      exact ⟨_, _, rfl⟩
    obtain rfl : e4 = 0 := Classical.not_not.mp he4
    rw [if_neg he4]
    simp only [bne_self_eq_false, Bool.false_eq_true, if_false]
    by_cases hkb : (0 : Int) ≥ (blk : Int)
    · rw [if_pos hkb, decide_eq_true hkb]
      exact ⟨_, _, rfl⟩
    rw [if_neg hkb, decide_eq_false hkb]
    simp only [Bool.false_eq_true, if_false]
    obtain ⟨hm1, hm2⟩ := rmany (K := 0) (by omega) (blk : Int) (0 : Int)
    rw [show ((0 : Nat) : Int) = 0 from rfl] at hm1 hm2
    rw [hm1, hm2, sub64 (a := (depth : Int)) (by omega) (by omega), show ((depth : Int) - (w : Int)) = ((depth - w : Nat) : Int) by omega]
    simp only [Option.bind_some]
    simp only [n01, n02, n03, n10, n12, n13, n20, n21, n23, n30, n31, n32, if_true, if_false]
    have hn := rnumbers_loop b hb (blk : Int) (0 : Int) 0 (w : Int) (depth - w) 1 (by omega) (by omega) (by omega) 1 0 a4 [] (by omega) hle4 rfl
    rw [Int.natCast_zero, show ((1 : Nat) : Int) = 1 from rfl] at hn
    rcases hS : sgnsS b (depth - w) 1 a4 with er | ⟨x, a5⟩
    · rw [hS] at hn
      obtain ⟨a', e', ho⟩ := hn
      rw [ho]
      exact ⟨_, _, rfl⟩
    rw [hS] at hn
    dsimp only at hn ⊢
    obtain ⟨hx1, hle5, hx2⟩ := sgnsS_len (by omega) (by omega) hle4 hS
    rw [List.nil_append] at hn
    rw [hn]
    simp only [Option.bind_some]
    obtain ⟨v, rfl⟩ : ∃ v, x = [v] := by
      match x, hx1 with
      | [v], _ => exact ⟨v, rfl⟩
    have hsame := rsame_loop (bitsL b) blk 0 ((depth - w : Nat) : Int) (a5 : Int) 0 (w : Int) v (by omega) (blk - 1) 1 (by omega) (by omega)
    rw [show List.replicate 1 v = [v] from rfl] at hsame
    rw [hsame]
    simp only [Option.bind_some, show ((0 : Int) == 3) = false from rfl, Bool.false_eq_true, if_false, show decide ((0 : Int) ≥ 2) = false from rfl]
    have hup := rup_loop (bitsL b) (a5 : Int) 0 0 0 0 0 false 0 [] [] w (by omega) blk 0 (List.replicate blk v) (by simp) (by simp; omega)
    rw [Int.natCast_zero] at hup
    rw [hup]
    rfl
  · subst hu
    rw [show kindS 1 = some (1, 0) from rfl]
    dsimp only
    rw [decide_eq_false (show ¬ ((1 : Nat) : Int) ≥ 8 by decide)]
    simp only [Bool.false_eq_true, if_false, Option.bind_some]
    rw [decide_eq_false (show ¬ ((1 : Nat) : Int) ≥ 32 by decide), decide_eq_false (show ¬ ((1 : Nat) : Int) > 1 by decide)]
    simp only [Bool.false_eq_true, if_false, Option.bind_some, show ((1 : Nat) : Int) = 1 from rfl, show ((0 : Nat) : Int) = 0 from rfl]
    simp only [rtake_eq b hb a2 hle2, Option.bind_some]
    have hle3 := rt_le (b := b) (a := a2) (e := 0) (w := 1) hle2
    have hlt5 := rt_lt (b := b) (a := a2) (e := 0) (w := 1)
    rcases ht3 : rt b a2 0 1 with ⟨v3, a3, e3⟩
    rw [ht3] at hle3 hlt5
    dsimp only at hle3 hlt5 ⊢
    have hw := rwaste_loop b hb (blk : Int) depth 0 (by omega) 1 depth 0 a3 e3 v3 (by omega) (by omega) hle3 (by omega)
    rw [if_pos rfl, Int.natCast_zero] at hw
    rcases hr : wasteS b depth depth 0 a3 e3 (v3 == 1) with _ | ⟨w, a4, e4⟩
    · rw [hr] at hw
      obtain ⟨a', e', ho⟩ := hw
      rw [ho]
      exact ⟨_, _, rfl⟩
    rw [hr] at hw
    dsimp only at hw ⊢
    obtain ⟨hle4, hwd⟩ := wasteS_le hle3 (by omega) hr
    rw [hw]
    simp only [Option.bind_some]
    by_cases he4 : e4 ≠ 0
    · rw [if_pos he4]
      have hne : (e4 != 0) = true := by rw [bne_iff_ne]; exact he4
      simp only [hne, if_true]
      exact ⟨_, _, rfl⟩
    obtain rfl : e4 = 0 := Classical.not_not.mp he4
    rw [if_neg he4]
    simp only [bne_self_eq_false, Bool.false_eq_true, if_false]
    by_cases hkb : (0 : Int) ≥ (blk : Int)
    · rw [if_pos hkb, decide_eq_true hkb]
      exact ⟨_, _, rfl⟩
    rw [if_neg hkb, decide_eq_false hkb]
    simp only [Bool.false_eq_true, if_false]
    obtain ⟨hm1, hm2⟩ := rmany (K := 1) (by omega) (blk : Int) (0 : Int)
    rw [show ((1 : Nat) : Int) = 1 from rfl] at hm1 hm2
    rw [hm1, hm2, sub64 (a := (depth : Int)) (by omega) (by omega), show ((depth : Int) - (w : Int)) = ((depth - w : Nat) : Int) by omega]
    simp only [Option.bind_some]
    simp only [n01, n02, n03, n10, n12, n13, n20, n21, n23, n30, n31, n32, if_true, if_false]
    have hn := rnumbers_loop b hb (blk : Int) (0 : Int) 1 (w : Int) (depth - w) blk (by omega) (by omega) (by omega) blk 0 a4 [] (by omega) hle4 rfl
    rw [Int.natCast_zero] at hn
    rcases hS : sgnsS b (depth - w) blk a4 with er | ⟨x, a5⟩
    · rw [hS] at hn
      obtain ⟨a', e', ho⟩ := hn
      rw [ho]
      exact ⟨_, _, rfl⟩
    rw [hS] at hn
    dsimp only at hn ⊢
    obtain ⟨hx1, hle5, hx2⟩ := sgnsS_len (by omega) (by omega) hle4 hS
    rw [List.nil_append] at hn
    rw [hn]
    simp only [Option.bind_some]
    rw [rsame_not (bitsL b) blk _ _ _ _ _ 1 x (by decide)]
    simp only [Option.bind_some, show ((1 : Int) == 3) = false from rfl, Bool.false_eq_true, if_false, show decide ((1 : Int) ≥ 2) = false from rfl]
    have hup := rup_loop (bitsL b) (a5 : Int) 0 1 0 0 0 false 0 [] [] w (by omega) x.length 0 x (by simp) (by omega)
    rw [Int.natCast_zero] at hup
    rw [hup]
    rfl
  · obtain ⟨k, rfl⟩ : ∃ k, u = k + 8 := ⟨u - 8, by omega⟩
    rw [show kindS (k + 8) = some (2, k) by unfold kindS; rw [if_neg (by omega), if_pos hu, Nat.add_sub_cancel]]
    dsimp only
    rw [decide_eq_true (show ((k + 8 : Nat) : Int) ≥ 8 by omega), decide_eq_true (show ((k + 8 : Nat) : Int) ≤ 12 by omega)]
    simp only [if_true, Option.bind_some]
    rw [sub64 (a := ((k + 8 : Nat) : Int)) (by omega) (by omega), show (((k + 8 : Nat) : Int) - 8) = (k : Int) by omega]
    simp only [rtake_eq b hb a2 hle2, Option.bind_some]
    have hle3 := rt_le (b := b) (a := a2) (e := 0) (w := 1) hle2
    have hlt5 := rt_lt (b := b) (a := a2) (e := 0) (w := 1)
    rcases ht3 : rt b a2 0 1 with ⟨v3, a3, e3⟩
    rw [ht3] at hle3 hlt5
    dsimp only at hle3 hlt5 ⊢
    have hw := rwaste_loop b hb (blk : Int) depth k (by omega) 2 depth 0 a3 e3 v3 (by omega) (by omega) hle3 (by omega)
    rw [if_pos rfl, Int.natCast_zero] at hw
    rcases hr : wasteS b depth depth 0 a3 e3 (v3 == 1) with _ | ⟨w, a4, e4⟩
    · rw [hr] at hw
      obtain ⟨a', e', ho⟩ := hw
      rw [ho]
      exact ⟨_, _, rfl⟩
    rw [hr] at hw
    dsimp only at hw ⊢
    obtain ⟨hle4, hwd⟩ := wasteS_le hle3 (by omega) hr
    rw [hw]
    simp only [Option.bind_some]
    by_cases he4 : e4 ≠ 0
    · rw [if_pos he4]
      have hne : (e4 != 0) = true := by rw [bne_iff_ne]; exact he4
      simp only [hne, if_true]
      exact ⟨_, _, rfl⟩
    obtain rfl : e4 = 0 := Classical.not_not.mp he4
    rw [if_neg he4]
    simp only [bne_self_eq_false, Bool.false_eq_true, if_false]
    by_cases hkb : ((k : Nat) : Int) ≥ (blk : Int)
    · rw [if_pos hkb, decide_eq_true hkb]
      exact ⟨_, _, rfl⟩
    rw [if_neg hkb, decide_eq_false hkb]
    simp only [Bool.false_eq_true, if_false]
    obtain ⟨hm1, hm2⟩ := rmany (K := 2) (by omega) (blk : Int) ((k : Nat) : Int)
    rw [show ((2 : Nat) : Int) = 2 from rfl] at hm1 hm2
    rw [hm1, hm2, sub64 (a := (depth : Int)) (by omega) (by omega), show ((depth : Int) - (w : Int)) = ((depth - w : Nat) : Int) by omega]
    simp only [Option.bind_some]
    simp only [n01, n02, n03, n10, n12, n13, n20, n21, n23, n30, n31, n32, if_true, if_false]
    have hn := rnumbers_loop b hb (blk : Int) ((k : Nat) : Int) 2 (w : Int) (depth - w) k (by omega) (by omega) (by omega) k 0 a4 [] (by omega) hle4 rfl
    rw [Int.natCast_zero] at hn
    rcases hS : sgnsS b (depth - w) k a4 with er | ⟨x, a5⟩
    · rw [hS] at hn
      obtain ⟨a', e', ho⟩ := hn
      rw [ho]
      exact ⟨_, _, rfl⟩
    rw [hS] at hn
    dsimp only at hn ⊢
    obtain ⟨hx1, hle5, hx2⟩ := sgnsS_len (by omega) (by omega) hle4 hS
    rw [List.nil_append] at hn
    rw [hn]
    simp only [Option.bind_some]
    rw [rsame_not (bitsL b) blk _ _ _ _ _ 2 x (by decide)]
    simp only [Option.bind_some, show ((2 : Int) == 3) = false from rfl, Bool.false_eq_true, if_false, show decide ((2 : Int) ≥ 2) = true from rfl, if_true]
    have hs := rsect b hb a5 hle5 (blk : Int) ((k : Nat) : Int)
    rcases hS2 : sectS b a5 (blk : Int) ((k : Nat) : Int) with er | ⟨r, p, a7⟩
    · rw [hS2] at hs
      obtain ⟨a', e', ho⟩ := hs
      rw [ho]
      have hne : (er != 0) = true := by rw [bne_iff_ne]; exact sectS_err hS2
      simp only [Option.bind_some, hne, if_true]
      exact ⟨_, _, rfl⟩
    rw [hS2] at hs
    dsimp only at hs ⊢
    obtain ⟨hr1, hle7⟩ := sectS_len hle5 hS2
    rw [hs]
    simp only [Option.bind_some, bne_self_eq_false, Bool.false_eq_true, if_false, beq_self_eq_true, if_true]
    have hres := rrest_loop (k) 2 0 (depth - w) [] r (by omega) (.inl rfl) (by omega) (by omega) (bitsL b) (a7 : Int) 0 (w : Int) (k : Int) 0 p.1 p.2.1 p.2.2.1 r 0 x rfl (by omega) (by omega) (by omega)
    rw [Int.natCast_zero, show ((2 : Nat) : Int) = 2 from rfl] at hres
    rcases hR : restS 2 (k) 0 (depth - w) [] r x with er | x'
    · rw [hR] at hres
      obtain ⟨a', e', ho⟩ := hres
      rw [ho]
      exact ⟨_, _, rfl⟩
    rw [hR] at hres
    dsimp only at hres ⊢
    have hlen := restS_len hR
    rw [hres]
    simp only [Option.bind_some]
    have hu := rup_loop (bitsL b) (a7 : Int) 0 2 (k : Int) 0 0 p.1 p.2.1 p.2.2.1 [] w (by omega) x'.length 0 x' (by simp) (by omega)
    rw [Int.natCast_zero] at hu
    rw [hu]
    rfl
  · obtain ⟨k, rfl⟩ : ∃ k, u = k + 31 := ⟨u - 31, by omega⟩
    rw [show kindS (k + 31) = some (3, k) by unfold kindS; rw [if_neg (by omega), if_neg (by omega), if_pos hu, Nat.add_sub_cancel]]
    dsimp only
    rw [decide_eq_true (show ((k + 31 : Nat) : Int) ≥ 8 by omega), decide_eq_false (show ¬((k + 31 : Nat) : Int) ≤ 12 by omega)]
    simp only [if_true, Bool.false_eq_true, if_false, Option.bind_some]
    rw [decide_eq_true (show ((k + 31 : Nat) : Int) ≥ 32 by omega), sub64 (a := ((k + 31 : Nat) : Int)) (by omega) (by omega), show (((k + 31 : Nat) : Int) - 31) = (k : Int) by omega]
    simp only [if_true, Option.bind_some]
    simp only [rtake_eq b hb a2 hle2, Option.bind_some]
    have hle3 := rt_le (b := b) (a := a2) (e := 0) (w := 1) hle2
    have hlt5 := rt_lt (b := b) (a := a2) (e := 0) (w := 1)
    rcases ht3 : rt b a2 0 1 with ⟨v3, a3, e3⟩
    rw [ht3] at hle3 hlt5
    dsimp only at hle3 hlt5 ⊢
    have hw := rwaste_loop b hb (blk : Int) depth k (by omega) 3 depth 0 a3 e3 v3 (by omega) (by omega) hle3 (by omega)
    rw [if_pos rfl, Int.natCast_zero] at hw
    rcases hr : wasteS b depth depth 0 a3 e3 (v3 == 1) with _ | ⟨w, a4, e4⟩
    · rw [hr] at hw
      obtain ⟨a', e', ho⟩ := hw
      rw [ho]
      exact ⟨_, _, rfl⟩
    rw [hr] at hw
    dsimp only at hw ⊢
    obtain ⟨hle4, hwd⟩ := wasteS_le hle3 (by omega) hr
    rw [hw]
    simp only [Option.bind_some]
    by_cases he4 : e4 ≠ 0
    · rw [if_pos he4]
      have hne : (e4 != 0) = true := by rw [bne_iff_ne]; exact he4
      simp only [hne, if_true]
      exact ⟨_, _, rfl⟩
    obtain rfl : e4 = 0 := Classical.not_not.mp he4
    rw [if_neg he4]
    simp only [bne_self_eq_false, Bool.false_eq_true, if_false]
    by_cases hkb : ((k : Nat) : Int) ≥ (blk : Int)
    · rw [if_pos hkb, decide_eq_true hkb]
      exact ⟨_, _, rfl⟩
    rw [if_neg hkb, decide_eq_false hkb]
    simp only [Bool.false_eq_true, if_false]
    obtain ⟨hm1, hm2⟩ := rmany (K := 3) (by omega) (blk : Int) ((k : Nat) : Int)
    rw [show ((3 : Nat) : Int) = 3 from rfl] at hm1 hm2
    rw [hm1, hm2, sub64 (a := (depth : Int)) (by omega) (by omega), show ((depth : Int) - (w : Int)) = ((depth - w : Nat) : Int) by omega]
    simp only [Option.bind_some]
    simp only [n01, n02, n03, n10, n12, n13, n20, n21, n23, n30, n31, n32, if_true, if_false]
    have hn := rnumbers_loop b hb (blk : Int) ((k : Nat) : Int) 3 (w : Int) (depth - w) k (by omega) (by omega) (by omega) k 0 a4 [] (by omega) hle4 rfl
    rw [Int.natCast_zero] at hn
    rcases hS : sgnsS b (depth - w) k a4 with er | ⟨x, a5⟩
    · rw [hS] at hn
      obtain ⟨a', e', ho⟩ := hn
      rw [ho]
      exact ⟨_, _, rfl⟩
    rw [hS] at hn
    dsimp only at hn ⊢
    obtain ⟨hx1, hle5, hx2⟩ := sgnsS_len (by omega) (by omega) hle4 hS
    rw [List.nil_append] at hn
    rw [hn]
    simp only [Option.bind_some]
    rw [rsame_not (bitsL b) blk _ _ _ _ _ 3 x (by decide)]
    unfold linS
    simp only [Option.bind_some, beq_self_eq_true, if_true, rtake_eq b hb a5 hle5]
    have hle6 := rt_le (b := b) (a := a5) (e := 0) (w := 4) hle5
    have hlt6 := rt_lt (b := b) (a := a5) (e := 0) (w := 4)
    have hlt7 : 2 ^ held 4 = 16 := rfl
    rcases ht6 : rt b a5 0 4 with ⟨v6, a6, e6⟩
    rw [ht6] at hle6 hlt6
    dsimp only at hle6 hlt6 ⊢
    rw [w64 (a := (v6 : Int)) (by omega) (by omega)]
    by_cases he6 : e6 ≠ 0
    · rw [if_pos he6]
      have hbe : (e6 == 0) = false := by rw [beq_eq_false_iff_ne]; exact he6
      simp only [hbe, Bool.false_eq_true, if_false, Option.bind_some, rtake_eq b hb a6 hle6, rt_bad he6]
      generalize IntKind.wrap .i64 ((0 : Nat) : Int) = z0
      obtain ⟨F', ho⟩ := rfac_bad b hb (blk : Int) ((depth - w : Nat) : Int) 3 (w : Int) 0 z0 (addI .i64 (v6 : Int) 1) x k v6 (by omega) (by omega) a6 hle6 e6 he6 k 0 [] (by omega) rfl
      rw [Int.natCast_zero] at ho
      rw [ho]
      have hne : (e6 != 0) = true := by rw [bne_iff_ne]; exact he6
      simp only [Option.bind_some, hne, if_true]
      exact ⟨_, _, rfl⟩
    obtain rfl : e6 = 0 := Classical.not_not.mp he6
    rw [if_neg he6]
    simp only [beq_self_eq_true, if_true, Option.bind_some]
    by_cases hv6 : v6 = 15
    · rw [if_pos hv6, hv6]
      exact ⟨_, _, rfl⟩
    have hv7 : ((v6 : Int) == 15) = false := by rw [beq_eq_false_iff_ne]; omega
    rw [if_neg hv6]
    simp only [hv7, Bool.false_eq_true, if_false, rtake_eq b hb a6 hle6, Option.bind_some]
    have hle8 := rt_le (b := b) (a := a6) (e := 0) (w := 5) hle6
    have hlt8 := rt_lt (b := b) (a := a6) (e := 0) (w := 5)
    have hlt9 : 2 ^ held 5 = 32 := rfl
    rcases ht8 : rt b a6 0 5 with ⟨sh, a8, e8⟩
    rw [ht8] at hle8 hlt8
    dsimp only at hle8 hlt8 ⊢
    rw [w64 (a := (sh : Int)) (by omega) (by omega)]
    by_cases he8 : e8 ≠ 0
    · rw [if_pos he8]
      have hbe : (e8 == 0) = false := by rw [beq_eq_false_iff_ne]; exact he8
      simp only [hbe, Bool.false_eq_true, if_false, Option.bind_some]
      obtain ⟨F', ho⟩ := rfac_bad b hb (blk : Int) ((depth - w : Nat) : Int) 3 (w : Int) 0 (sh : Int) (addI .i64 (v6 : Int) 1) x k v6 (by omega) (by omega) a8 hle8 e8 he8 k 0 [] (by omega) rfl
      rw [Int.natCast_zero] at ho
      rw [ho]
      have hne : (e8 != 0) = true := by rw [bne_iff_ne]; exact he8
      simp only [Option.bind_some, hne, if_true]
      exact ⟨_, _, rfl⟩
    obtain rfl : e8 = 0 := Classical.not_not.mp he8
    rw [if_neg he8]
    simp only [beq_self_eq_true, if_true, Option.bind_some]
    by_cases hsh : sh > 15
    · rw [if_pos hsh, decide_eq_true (show (sh : Int) > 15 by omega)]
      exact ⟨_, _, rfl⟩
    rw [if_neg hsh, decide_eq_false (show ¬(sh : Int) > 15 by omega)]
    simp only [Bool.false_eq_true, if_false]
    have hfac := rfac_loop b hb (blk : Int) ((depth - w : Nat) : Int) 3 (w : Int) 0 (sh : Int) (addI .i64 (v6 : Int) 1) x k v6 (by omega) (by omega) k 0 a8 [] (by omega) rfl hle8
    rw [Int.natCast_zero] at hfac
    rcases hS3 : sgnsS b (v6 + 1) k a8 with er | ⟨f, a9⟩
    · rw [hS3] at hfac
      obtain ⟨a', F', ho⟩ := hfac
      rw [ho]
      have hne : (er != 0) = true := by rw [bne_iff_ne]; exact sgnsS_err hS3
      simp only [Option.bind_some, hne, if_true]
      exact ⟨_, _, rfl⟩
    rw [hS3] at hfac
    dsimp only at hfac ⊢
    obtain ⟨hf1, hle9, hf2⟩ := sgnsS_len (by omega) (by omega) hle8 hS3
    rw [List.nil_append] at hfac
    have hpr : addI .i64 (v6 : Int) 1 = ((v6 + 1 : Nat) : Int) := by rw [add64 (by omega) (by omega)]; omega
    rw [hpr] at hfac ⊢
    rw [hfac]
    simp only [Option.bind_some, bne_self_eq_false, Bool.false_eq_true, if_false, show decide ((3 : Int) ≥ 2) = true from rfl, if_true]
    have hs := rsect b hb a9 hle9 (blk : Int) ((k : Nat) : Int)
    rcases hS2 : sectS b a9 (blk : Int) ((k : Nat) : Int) with er | ⟨r, p, a7⟩
    · rw [hS2] at hs
      obtain ⟨a', e', ho⟩ := hs
      rw [ho]
      have hne : (er != 0) = true := by rw [bne_iff_ne]; exact sectS_err hS2
      simp only [Option.bind_some, hne, if_true]
      exact ⟨_, _, rfl⟩
    rw [hS2] at hs
    dsimp only at hs ⊢
    obtain ⟨hr1, hle7⟩ := sectS_len hle9 hS2
    rw [hs]
    simp only [Option.bind_some, bne_self_eq_false, Bool.false_eq_true, if_false, show ((3 : Int) == 2) = false from rfl]
    have hres := rrest_loop (k) 3 sh (depth - w) f r (by omega) (.inr ⟨rfl, by omega, by omega⟩) (by omega) (by omega) (bitsL b) (a7 : Int) 0 (w : Int) 0 ((v6 + 1 : Nat) : Int) p.1 p.2.1 p.2.2.1 r 0 x rfl (by omega) (by omega) (by omega)
    rw [Int.natCast_zero, show ((3 : Nat) : Int) = 3 from rfl] at hres
    rcases hR : restS 3 (k) sh (depth - w) f r x with er | x'
    · rw [hR] at hres
      obtain ⟨a', e', ho⟩ := hres
      rw [ho]
      exact ⟨_, _, rfl⟩
    rw [hR] at hres
    dsimp only at hres ⊢
    have hlen := restS_len hR
    rw [hres]
    simp only [Option.bind_some]
    have hu := rup_loop (bitsL b) (a7 : Int) 0 3 0 (sh : Int) ((v6 + 1 : Nat) : Int) p.1 p.2.1 p.2.2.1 f w (by omega) x'.length 0 x' (by simp) (by omega)
    rw [Int.natCast_zero] at hu
    rw [hu]
    rfl
  · rw [show kindS u = none by unfold kindS; rw [if_neg (by omega), if_neg (by omega), if_neg (by omega)]]
    dsimp only
    have h3 : ∀ {β : Type} (f : Bool → Option β), (if decide ((u : Int) ≥ 8) = true then f (decide ((u : Int) ≤ 12)) else f false) = f false := by
      intro β f
      by_cases h8 : 8 ≤ u
      · rw [decide_eq_true (show (u : Int) ≥ 8 by omega), decide_eq_false (show ¬ (u : Int) ≤ 12 by omega)]; rfl
      · rw [decide_eq_false (show ¬ (u : Int) ≥ 8 by omega)]; rfl
    rw [h3 (fun q => some ((blk : Int), (depth : Int), (u : Int), (0 : Int), q, bitsL b, (a2 : Int), 0, 0, 0, 0, 0, 0, false, 0, [], [], 0, 0, 0, 0, 0, false, 0, [], [], (u : Int), 0, 0, 0, 0, false, 0, [], []))]
    simp only [Bool.false_eq_true, if_false, Option.bind_some]
    rw [decide_eq_false (show ¬ (u : Int) ≥ 32 by omega), decide_eq_true (show (u : Int) > 1 by omega)]
    exact ⟨_, _, rfl⟩
end Go.Pv.Try
