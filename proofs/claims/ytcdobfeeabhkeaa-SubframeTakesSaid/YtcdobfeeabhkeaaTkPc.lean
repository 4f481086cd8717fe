/- Rules for loops; numbers with a sign; a folded number. -/
import Derived.Test.YtcdobfeeabhkeaaTkPb
set_option autoImplicit false
set_option linter.unusedVariables false
set_option linter.unusedSimpArgs false
namespace Go.Pv

theorem lfp_ends {α β : Type} {f : (α → Option β) → α → Option β} {x : α} {o : β} (h : lfp f x = some o) : Ends f x o := by
  unfold lfp at h
  split at h
  · rename_i hx
    cases h
    exact Classical.choose_spec hx
  · cases h
/-- once more -/
theorem lfp_step {α β : Type} {f : (α → Option β) → α → Option β} {x y : α} {o o' : β} (hy : lfp f y = some o) (h : ∀ g, g y = some o → f g x = some o') : lfp f x = some o' := by
  obtain ⟨n, hn⟩ := lfp_ends hy
  refine lfp_of ⟨n + 1, fun m hm => ?_⟩
  obtain ⟨m, rfl⟩ : ∃ k, m = k + 1 := ⟨m - 1, by omega⟩
  exact h (it f m) (hn m (by omega))
/-- no more -/
theorem lfp_base {α β : Type} {f : (α → Option β) → α → Option β} {x : α} {o : β} (h : ∀ g, f g x = some o) : lfp f x = some o := by
  refine lfp_of ⟨1, fun m hm => ?_⟩
  obtain ⟨m, rfl⟩ : ∃ k, m = k + 1 := ⟨m - 1, by omega⟩
  exact h (it f m)

theorem xor_zero {n : Int} (h0 : 0 ≤ n) (h1 : n ≤ 9223372036854775807) : xorI .i64 n 0 = n := by
  unfold xorI bitI
  show IntKind.wrap .i64 ((BitVec.ofInt 64 n ^^^ BitVec.ofInt 64 0).toNat : Int) = n
  rw [show BitVec.ofInt 64 0 = 0#64 from rfl, BitVec.xor_zero, ofInt_toNat h0 (by omega), w64 (by omega) (by omega)]; omega
theorem xor_neg {n : Int} (h0 : 0 ≤ n) (h1 : n ≤ 9223372036854775807) : xorI .i64 n (-1) = -n - 1 := by
  unfold xorI bitI
  show IntKind.wrap .i64 ((BitVec.ofInt 64 n ^^^ BitVec.ofInt 64 (-1)).toNat : Int) = _
  rw [show BitVec.ofInt 64 (-1) = BitVec.allOnes 64 from rfl, BitVec.xor_allOnes, BitVec.toNat_not, ofInt_toNat h0 (by omega), IntKind.wrap_i64]
  omega

theorem pow_pos (w : Nat) : (1 : Int) ≤ 2 ^ w := by exact_mod_cast Nat.one_le_two_pow
theorem pow_succ (w : Nat) : (2 : Int) ^ (w + 1) = 2 * 2 ^ w := by rw [Int.pow_succ, Int.mul_comm]
theorem pow_le {m n : Nat} (h : m ≤ n) : (2 : Int) ^ m ≤ 2 ^ n := by exact_mod_cast Nat.pow_le_pow_right (by decide) h

/-- of so many bits, the first of which is the sign -/
def sgn (w : Nat) (v : Nat) : Int := if w = 0 then 0 else if 2 ^ (w - 1) ≤ v then (v : Int) - 2 ^ w else v
theorem sgn_shift {w v : Nat} (h1 : 1 ≤ w) (h2 : w ≤ 64) (hv : v < 2 ^ w) : IntKind.wrap .i64 (IntKind.wrap .i64 (v : Int) * 2 ^ (64 - w)) / 2 ^ (64 - w) = sgn w v := by
  obtain ⟨k, rfl⟩ : ∃ k, w = k + 1 := ⟨w - 1, by omega⟩
  have e64 : (2 : Int) ^ (64 - (k + 1)) * 2 ^ (k + 1) = 2 ^ 64 := by rw [← Int.pow_add]; congr 1; omega
  have e63 : (2 : Int) ^ (64 - (k + 1)) * 2 ^ k = 2 ^ 63 := by rw [← Int.pow_add]; congr 1; omega
  have p1 := pow_pos (64 - (k + 1))
  have hvi : (v : Int) < 2 ^ (k + 1) := by exact_mod_cast hv
  have hps := pow_succ k
  have e0 : IntKind.wrap .i64 (IntKind.wrap .i64 (v : Int) * 2 ^ (64 - (k + 1))) = IntKind.wrap .i64 ((v : Int) * 2 ^ (64 - (k + 1))) := by
    by_cases hs : (v : Int) < 2 ^ 63
    · rw [w64 (a := (v : Int)) (by omega) (by omega)]
    · have hk : k = 63 := by
        rcases Nat.lt_or_ge k 63 with h | h
        · have := pow_le (m := k + 1) (n := 63) (by omega)
          omega
        · omega
      subst hk
      simp only [Nat.sub_self, Int.pow_zero, Int.mul_one]
      rw [IntKind.wrap_i64, IntKind.wrap_i64]; omega
  rw [e0]
  unfold sgn
  rw [if_neg (by omega)]
  simp only [Nat.add_sub_cancel]
  generalize hp : (2 : Int) ^ (64 - (k + 1)) = p at *
  by_cases h : 2 ^ k ≤ v
  · have hi : (2 : Int) ^ k ≤ v := by exact_mod_cast h
    rw [if_pos h]
    have h3 : (v : Int) * p = ((v : Int) - 2 ^ (k + 1)) * p + 2 ^ 64 := by rw [Int.sub_mul, Int.mul_comm (2 ^ (k + 1)) p, e64]; omega
    have h4 : -(2 ^ 63) ≤ ((v : Int) - 2 ^ (k + 1)) * p := by
      have : (-(2 ^ k) : Int) * p ≤ ((v : Int) - 2 ^ (k + 1)) * p := Int.mul_le_mul_of_nonneg_right (by omega) (by omega)
      rw [Int.neg_mul, Int.mul_comm, e63] at this
      exact this
    have h5 : ((v : Int) - 2 ^ (k + 1)) * p < 0 := Int.mul_neg_of_neg_of_pos (by omega) (by omega)
    have h6 : IntKind.wrap .i64 ((v : Int) * p) = ((v : Int) - 2 ^ (k + 1)) * p := by
      rw [h3, IntKind.wrap_i64]; omega
    rw [h6, Int.mul_ediv_cancel _ (by omega)]
  · have hi : (v : Int) < 2 ^ k := by exact_mod_cast Nat.lt_of_not_le h
    rw [if_neg h]
    have h4 : (v : Int) * p < 2 ^ 63 := by
      have : (v : Int) * p < 2 ^ k * p := Int.mul_lt_mul_of_pos_right hi (by omega)
      rw [Int.mul_comm (2 ^ k) p, e63] at this
      exact this
    have h5 : 0 ≤ (v : Int) * p := Int.mul_nonneg (by omega) (by omega)
    rw [w64 (by omega) (by omega), Int.mul_ediv_cancel _ (by omega)]

theorem sgn_rng {w v : Nat} (h1 : 1 ≤ w) (hv : v < 2 ^ w) : -(2 ^ (w - 1)) ≤ sgn w v ∧ sgn w v < 2 ^ (w - 1) := by
  obtain ⟨k, rfl⟩ : ∃ k, w = k + 1 := ⟨w - 1, by omega⟩
  unfold sgn
  rw [if_neg (by omega)]
  simp only [Nat.add_sub_cancel]
  have hvi : (v : Int) < 2 ^ (k + 1) := by exact_mod_cast hv
  have hps := pow_succ k
  split
  · rename_i h
    have hi : (2 : Int) ^ k ≤ v := by exact_mod_cast h
    omega
  · rename_i h
    have hi : (v : Int) < 2 ^ k := by exact_mod_cast Nat.lt_of_not_le h
    have := pow_pos k
    omega

/-- what was folded -/
def unf (u : Nat) : Int := if u % 2 = 0 then ((u / 2 : Nat) : Int) else -((u / 2 : Nat) : Int) - 1
end Go.Pv

namespace Go.Pv.Try
open Go Go.Pv

theorem unfold_eq {u : Nat} (h : u < 2 ^ 64) : f_rice_Unfold (u : Int) = some (unf u) := by
  unfold f_rice_Unfold F_rice_Unfold
  dsimp only
  rw [shr_of .u64 (by decide) (by decide)]
  simp only [Option.bind_some]
  have e2 : ((u : Int) / 2 ^ (1 : Int).toNat) = ((u / 2 : Nat) : Int) := by show (u : Int) / 2 ^ 1 = _; omega
  have e3 : andI .u64 (u : Int) 1 = ((u % 2 : Nat) : Int) := by
    have := and_mask .u64 (a := (u : Int)) (m := 1) (by omega) (by show _ < (18446744073709551616 : Int); omega) (by decide) (fun n h1 h2 _ => wu64 h1 (by have : n < (18446744073709551616 : Int) := h2; omega))
    rw [show ((2 : Int) ^ 1 - 1) = 1 from rfl] at this
    rw [this]; omega
  rw [e2, e3, w64 (by omega) (by omega), w64 (by omega) (by omega)]
  unfold unf
  split
  · rename_i h0
    rw [h0, show subI .i64 0 ((0 : Nat) : Int) = 0 from rfl, xor_zero (by omega) (by omega)]
  · rename_i h0
    have h1 : u % 2 = 1 := by omega
    rw [h1, show subI .i64 0 ((1 : Nat) : Int) = -1 from rfl, xor_neg (by omega) (by omega)]

theorem runfold_eq {u : Nat} (h : u < 2 ^ 64) : f_ref02_Unfold (u : Int) = some (unf u) := by
  unfold f_ref02_Unfold F_ref02_Unfold
  dsimp only
  rw [rem_pos (by omega) (by decide), quou64 (by omega) (by decide) (by omega)]
  simp only [Option.bind_some]
  rw [show ((u : Int) / 2) = ((u / 2 : Nat) : Int) by omega, w64 (by omega) (by omega)]
  have e : subI .i64 0 ((u / 2 : Nat) : Int) = -((u / 2 : Nat) : Int) := by rw [sub64 (by omega) (by omega)]; omega
  unfold unf
  split
  · rename_i h0
    have : u % 2 = 0 := by have := beq_iff_eq.mp h0; omega
    rw [if_pos this]
  · rename_i h0
    have : ¬ u % 2 = 0 := by intro h1; apply h0; rw [beq_iff_eq]; omega
    rw [if_neg this, e, sub64 (by omega) (by omega)]

theorem unf_rng {u : Nat} {m : Nat} (h : u < 2 * m) : -(m : Int) ≤ unf u ∧ unf u < m := by
  unfold unf; split <;> omega

/-! ### powers -/
theorem power_loop (n : Nat) (hn : n ≤ 62) : ∀ (m i : Nat), i + m = n → F_ref06_Power_3 ((n : Int), ((2 ^ i : Nat) : Int), (i : Int)) = some ((2 ^ n : Nat) : Int)
  | 0, i, h => by
    obtain rfl : i = n := by omega
    refine lfp_base fun g => ?_
    unfold B_ref06_Power_3
    simp
  | m + 1, i, h => by
    refine lfp_step (power_loop n hn m (i + 1) (by omega)) fun g hg => ?_
    unfold B_ref06_Power_3
    dsimp only
    have hd : decide ((i : Int) < (n : Int)) = true := by rw [decide_eq_true_iff]; omega
    have hp : (2 : Nat) ^ i ≤ 2 ^ 61 := Nat.pow_le_pow_right (by decide) (by omega)
    rw [hd]
    simp only [if_true, Option.bind_some]
    rw [← hg, Nat.pow_succ]
    generalize 2 ^ i = p at hp
    rw [mul64 (by omega) (by omega), add64 (by omega) (by omega), Nat.mul_comm]
    push_cast; rfl
theorem power_eq (n : Nat) (hn : n ≤ 62) : f_ref06_Power (n : Int) = some (2 ^ n) := by
  unfold f_ref06_Power F_ref06_Power
  dsimp only
  have := power_loop n hn n 0 (by omega)
  simp only [Nat.pow_zero, Int.natCast_one, Int.natCast_zero] at this
  rw [this]
  simp only [Option.bind_some]
  push_cast; rfl

theorem signed_eq {v w : Nat} (h2 : w ≤ 62) (hv : v < 2 ^ w) : f_ref15_Signed ((v : Int), (w : Int)) = some (sgn w v) := by
  unfold f_ref15_Signed F_ref15_Signed
  dsimp only
  unfold sgn
  by_cases h0 : w = 0
  · subst h0; rfl
  · have hb : ((w : Int) == 0) = false := by rw [beq_eq_false_iff_ne]; omega
    have hvi : (v : Int) < 2 ^ w := by exact_mod_cast hv
    have hp := pow_le h2
    rw [hb, if_neg h0]
    simp only [Bool.false_eq_true, if_false]
    rw [sub64 (by omega) (by omega), show ((w : Int) - 1) = ((w - 1 : Nat) : Int) by omega, power_eq _ (by omega), w64 (by omega) (by omega)]
    simp only [Option.bind_some]
    by_cases h : 2 ^ (w - 1) ≤ v
    · have hi : (2 : Int) ^ (w - 1) ≤ v := by exact_mod_cast h
      have hd : decide ((v : Int) ≥ 2 ^ (w - 1)) = true := by rw [decide_eq_true_iff]; exact hi
      have := pow_pos w
      rw [hd, if_pos h, power_eq _ h2]
      simp only [if_true, Option.bind_some]
      rw [sub64 (by omega) (by omega)]
    · have hi : (v : Int) < 2 ^ (w - 1) := by exact_mod_cast Nat.lt_of_not_le h
      have hd : decide ((v : Int) ≥ 2 ^ (w - 1)) = false := by rw [decide_eq_false_iff_not]; omega
      rw [hd, if_neg h]
      rfl

theorem held_nat {w : Nat} (h : w ≤ 64) : held (w : Int) = w := by unfold held; omega

/-- a number with a sign, read -/
theorem ssigned_eq (b : List Int) (hb : Bytes b) (a : Nat) (ha : a ≤ 8 * b.length) (e : Int) {w : Nat} (h1 : 1 ≤ w) (h2 : w ≤ 64) :
    f_subframe_signed (b, (a : Int), e, (w : Int)) = some (sgn w (rt b a e w).1, b, ((rt b a e w).2.1 : Int), (rt b a e w).2.2) := by
  unfold f_subframe_signed F_subframe_signed
  dsimp only
  simp only [take_eq b hb a ha, Option.bind_some]
  have hv := rt_lt (b := b) (a := a) (e := e) (w := w)
  rw [held_nat h2] at hv
  have hs : subI .i64 64 (w : Int) = ((64 - w : Nat) : Int) := by rw [sub64 (by omega) (by omega)]; omega
  rw [hs, shl_of .i64 (by omega) (by show _ ≤ (64 : Int); omega)]
  simp only [Option.bind_some]
  rw [shr_of .i64 (by omega) (by show _ ≤ (64 : Int); omega)]
  simp only [Option.bind_some, Int.toNat_natCast]
  rw [sgn_shift h1 h2 hv]

theorem sraw_eq (b : List Int) (hb : Bytes b) (a : Nat) (ha : a ≤ 8 * b.length) {w : Nat} (h2 : w ≤ 64) :
    f_section_raw (b, (a : Int), 0, (w : Int)) = some (sgn w (rt b a 0 w).1, b, ((rt b a 0 w).2.1 : Int), (rt b a 0 w).2.2) := by
  unfold f_section_raw F_section_raw
  dsimp only
  by_cases h0 : w = 0
  · subst h0
    have : rt b a 0 ((0 : Nat) : Int) = (0, a, 0) := by
      unfold rt
      have : held ((0 : Nat) : Int) = 0 := rfl
      rw [this, if_neg (by simp), if_neg (by omega)]; rfl
    rw [this]; rfl
  · have hw : ((w : Int) == 0) = false := by rw [beq_eq_false_iff_ne]; omega
    rw [hw]
    simp only [Bool.false_eq_true, if_false]
    exact ssigned_eq b hb a ha 0 (by omega) h2
end Go.Pv.Try
