/- Cuts. -/
import Derived.Test.YtcdobfeeabhkeaaTkPd
set_option autoImplicit false
set_option linter.unusedVariables false
set_option linter.unusedSimpArgs false
namespace Go.Pv.Try
open Go Go.Pv

/-- how long the parts are -/
def cutsS (n k o : Int) : List Int :=
  if n < 0 ∨ k < 0 ∨ o < 0 ∨ o > 15 then [] else
  if (n + k) % 2 ^ o.toNat ≠ 0 ∨ (n + k) / 2 ^ o.toNat ≤ k then [] else
  ((n + k) / 2 ^ o.toNat - k) :: List.replicate (2 ^ o.toNat - 1) ((n + k) / 2 ^ o.toNat)

theorem pcuts_loop (k s : Int) : ∀ (m i : Nat) (l : List Int), i + m = l.length → l.length ≤ 1073741824 → F_parts_Cuts_9 (k, s, (l.length : Int), (i : Int), l) = some (k, l.take i ++ List.replicate m s)
  | 0, i, l, h, hl => by
    refine lfp_base fun g => ?_
    unfold B_parts_Cuts_9
    dsimp only
    have hd : decide ((i : Int) < (l.length : Int)) = false := by rw [decide_eq_false_iff_not]; omega
    rw [hd]
    simp [List.take_of_length_le (show l.length ≤ i by omega)]
  | m + 1, i, l, h, hl => by
    have ih := pcuts_loop k s m (i + 1) (l.set i s) (by rw [List.length_set]; omega) (by rw [List.length_set]; omega)
    rw [List.length_set] at ih
    refine lfp_step ih fun g hg => ?_
    unfold B_parts_Cuts_9
    dsimp only
    have hd : decide ((i : Int) < (l.length : Int)) = true := by rw [decide_eq_true_iff]; omega
    rw [hd]
    simp only [if_true, Option.bind_some]
    rw [inb_of (by omega) (by omega), idx_nat (by omega), add64 (by omega) (by omega)]
    simp only [Option.bind_some, Int.toNat_natCast]
    rw [show ((i : Int) + 1) = ((i + 1 : Nat) : Int) by omega, hg]
    have hlt : i < (l.set i s).length := by rw [List.length_set]; omega
    rw [List.take_succ_eq_append_getElem hlt, List.getElem_set_self, List.take_set_of_le (Nat.le_refl _), List.append_assoc, List.replicate_succ]
    rfl

theorem pcuts_eq {n k o : Int} (h : 0 ≤ n → 0 ≤ k → n + k ≤ 1099511627776) : f_parts_Cuts (n, k, o) = some (cutsS n k o) := by
  unfold f_parts_Cuts F_parts_Cuts cutsS
  dsimp only
  by_cases hn : n < 0
  · simp [hn]
  by_cases hk : k < 0
  · simp [hn, hk]
  by_cases ho : o < 0
  · simp [hn, hk, ho]
  by_cases ho2 : o > 15
  · simp [hn, hk, ho, ho2]
  have h := h (by omega) (by omega)
  obtain ⟨j, rfl⟩ : ∃ j : Nat, o = j := ⟨o.toNat, by omega⟩
  have hp1 := pow_pos j
  have hp2 := pow_le (m := j) (n := 15) (by omega)
  have hm : 0 ≤ n + k := by omega
  rw [if_neg (show ¬(n < 0 ∨ k < 0 ∨ (j : Int) < 0 ∨ (j : Int) > 15) by omega)]
  simp only [hn, hk, ho, ho2, decide_false, Bool.false_eq_true, if_false, Option.bind_some, Int.toNat_natCast]
  rw [add64 (by omega) (by omega), shr_of .i64 (by omega) (by show _ ≤ (64 : Int); omega)]
  simp only [Option.bind_some, Int.toNat_natCast]
  rw [shl_of .i64 (by omega) (by show _ ≤ (64 : Int); omega)]
  simp only [Option.bind_some, Int.toNat_natCast]
  generalize hP : (2 : Int) ^ j = P at hp1 hp2 ⊢
  have hdm := Int.mul_ediv_add_emod (n + k) P
  have hd0 : 0 ≤ (n + k) / P := Int.ediv_nonneg hm (by omega)
  have hmod := Int.emod_nonneg (n + k) (show P ≠ 0 by omega)
  have hmul : 0 ≤ P * ((n + k) / P) := Int.mul_nonneg (by omega) hd0
  rw [Int.mul_comm, w64 (by omega) (by omega)]
  by_cases h1 : (n + k) % P = 0
  · have hb : (P * ((n + k) / P) != n + k) = false := by rw [bne_eq_false_iff_eq]; omega
    rw [hb]
    simp only [Bool.false_eq_true, if_false, Option.bind_some, h1, ne_eq, not_true, false_or]
    by_cases h2 : (n + k) / P ≤ k
    · simp [h2]
    · simp only [h2, decide_false, Bool.false_eq_true, if_false]
      rw [shl_of .i64 (by omega) (by show _ ≤ (64 : Int); omega)]
      simp only [Option.bind_some, Int.toNat_natCast, Int.one_mul, hP]
      rw [w64 (by omega) (by omega), mk_of (by omega) (by omega)]
      simp only [Option.bind_some]
      have hPn : P.toNat = 2 ^ j := by rw [← hP, show ((2 : Int) ^ j) = ((2 ^ j : Nat) : Int) by push_cast; rfl]; rfl
      rw [hPn]
      have hp3 : 2 ^ j ≤ 2 ^ 15 := Nat.pow_le_pow_right (by decide) (by omega)
      have hp4 : 1 ≤ 2 ^ j := Nat.one_le_two_pow
      have hl := pcuts_loop k ((n + k) / P) (2 ^ j) 0 (List.replicate (2 ^ j) 0) (by simp) (by simp; omega)
      rw [Int.natCast_zero, List.take_zero, List.nil_append] at hl
      rw [hl]
      obtain ⟨r, hr⟩ : ∃ r, 2 ^ j = r + 1 := ⟨2 ^ j - 1, by omega⟩
      rw [hr]
      simp only [Option.bind_some]
      have hdl : (n + k) / P ≤ n + k := Int.ediv_le_self _ hm
      rw [inb_of (by omega) (by simp), show idx (List.replicate (r + 1) ((n + k) / P)) 0 = some ((n + k) / P) by simp [idx, List.replicate_succ]]
      simp only [Option.bind_some]
      rw [sub64 (by omega) (by omega)]
      simp [List.replicate_succ]
  · have hb : (P * ((n + k) / P) != n + k) = true := by rw [bne_iff_ne]; omega
    rw [hb]
    simp [h1]

theorem rcuts_loop (m P : Int) (hm : 0 ≤ m) (hm2 : m ≤ 1099511627776) (hP : 1 ≤ P) (hP2 : P ≤ 32768) : ∀ (r : Nat) (l : List Int), (l.length : Int) + r = P → F_ref14_Cuts_8 (m, P, l) = some (l ++ List.replicate r (m / P))
  | 0, l, h => by
    refine lfp_base fun g => ?_
    unfold B_ref14_Cuts_8
    dsimp only
    have hd : decide ((l.length : Int) < P) = false := by rw [decide_eq_false_iff_not]; omega
    rw [hd]
    simp
  | r + 1, l, h => by
    refine lfp_step (rcuts_loop m P hm hm2 hP hP2 r (l ++ [m / P]) (by simp; omega)) fun g hg => ?_
    unfold B_ref14_Cuts_8
    dsimp only
    have hd : decide ((l.length : Int) < P) = true := by rw [decide_eq_true_iff]; omega
    rw [hd]
    simp only [if_true, Option.bind_some]
    rw [quo64 hm (by omega) (by omega)]
    simp only [Option.bind_some]
    rw [room_of (by simp; omega)]
    show g (m, P, l ++ [m / P]) = _
    rw [hg, List.append_assoc, List.replicate_succ]
    rfl

theorem rcuts_eq {n k o : Int} (h : 0 ≤ n → 0 ≤ k → n + k ≤ 1099511627776) : f_ref14_Cuts (n, k, o) = some (cutsS n k o) := by
  unfold f_ref14_Cuts F_ref14_Cuts cutsS
  dsimp only
  by_cases hn : n < 0
  · simp [hn]
  by_cases hk : k < 0
  · simp [hn, hk]
  by_cases ho : o < 0
  · simp [hn, hk, ho]
  by_cases ho2 : o > 15
  · simp [hn, hk, ho, ho2]
  have h := h (by omega) (by omega)
  obtain ⟨j, rfl⟩ : ∃ j : Nat, o = j := ⟨o.toNat, by omega⟩
  have hp1 := pow_pos j
  have hp2 := pow_le (m := j) (n := 15) (by omega)
  have hm : 0 ≤ n + k := by omega
  rw [if_neg (show ¬(n < 0 ∨ k < 0 ∨ (j : Int) < 0 ∨ (j : Int) > 15) by omega)]
  simp only [hn, hk, ho, ho2, decide_false, Bool.false_eq_true, if_false, Option.bind_some, Int.toNat_natCast]
  rw [power_eq j (by omega), add64 (by omega) (by omega)]
  simp only [Option.bind_some]
  generalize hP : (2 : Int) ^ j = P at hp1 hp2 ⊢
  rw [rem_pos hm (by omega)]
  simp only [Option.bind_some]
  have hd0 : 0 ≤ (n + k) / P := Int.ediv_nonneg hm (by omega)
  have hdl : (n + k) / P ≤ n + k := Int.ediv_le_self _ hm
  by_cases h1 : (n + k) % P = 0
  · simp only [h1, bne_self_eq_false, Bool.false_eq_true, if_false, ne_eq, not_true, false_or]
    rw [quo64 hm (by omega) (by omega)]
    simp only [Option.bind_some]
    by_cases h2 : (n + k) / P ≤ k
    · simp [h2]
    · simp only [h2, decide_false, Bool.false_eq_true, if_false]
      rw [quo64 hm (by omega) (by omega)]
      simp only [Option.bind_some]
      rw [sub64 (by omega) (by omega)]
      have hPn : P.toNat = 2 ^ j := by rw [← hP, show ((2 : Int) ^ j) = ((2 ^ j : Nat) : Int) by push_cast; rfl]; rfl
      have hl := rcuts_loop (n + k) P hm (by omega) (by omega) (by omega) (2 ^ j - 1) [(n + k) / P - k] (by
        have : 1 ≤ 2 ^ j := Nat.one_le_two_pow
        have e : P = ((2 ^ j : Nat) : Int) := by rw [← hPn]; omega
        simp; omega)
      show (F_ref14_Cuts_8 (n + k, P, [(n + k) / P - k])).bind _ = _
      rw [hl]
      rfl
  · have hb : ((n + k) % P != 0) = true := by rw [bne_iff_ne]; exact h1
    rw [hb]
    simp [h1]
end Go.Pv.Try
