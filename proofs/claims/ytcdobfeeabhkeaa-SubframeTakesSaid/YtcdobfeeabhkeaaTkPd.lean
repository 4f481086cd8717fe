/- Rice numbers. -/
import Derived.Test.YtcdobfeeabhkeaaTkPc
set_option autoImplicit false
set_option linter.unusedVariables false
set_option linter.unusedSimpArgs false
namespace Go.Pv.Try
open Go Go.Pv

theorem fail_eq (b : List Int) (a e : Int) : f_bits_Reader_Fail (b, a, e) = some (e, b, a, e) := rfl
theorem rt1 {b : List Int} {a : Nat} (h : a < 8 * b.length) : rt b a 0 1 = (bitN b a, a + 1, 0) := by
  unfold rt
  have : held 1 = 1 := rfl
  rw [this, if_neg (by simp), if_neg (by omega)]
  simp [rval]
theorem rt1' {b : List Int} {a : Nat} (h : ¬ a < 8 * b.length) : rt b a 0 1 = (0, a, 2) := by
  unfold rt
  have : held 1 = 1 := rfl
  rw [this, if_neg (by simp), if_pos (by omega)]
theorem rt_in {b : List Int} {a w : Nat} (hw : w ≤ 64) (h : a + w ≤ 8 * b.length) : rt b a 0 (w : Int) = (rval b a w, a + w, 0) := by
  unfold rt
  rw [held_nat hw, if_neg (by simp), if_neg (by omega)]
theorem rt_out {b : List Int} {a w : Nat} (hw : w ≤ 64) (h : ¬ a + w ≤ 8 * b.length) : rt b a 0 (w : Int) = (0, a, 2) := by
  unfold rt
  rw [held_nat hw, if_neg (by simp), if_pos (by omega)]

/-- how many bits 0, then the low ones -/
def rz (b : List Int) (k : Nat) : Nat → Nat → Nat → Int × Nat × Int
  | 0, a, q => (0, a, 2)
  | n + 1, a, q =>
    if bitN b a = 0 then rz b k n (a + 1) (q + 1)
    else if a + 1 + k ≤ 8 * b.length then (unf (q * 2 ^ k + rval b (a + 1) k), a + 1 + k, 0) else (0, a + 1, 2)
/-- a Rice number -/
def riceS (b : List Int) (a : Nat) (e : Int) (k : Nat) : Int × Nat × Int := if e ≠ 0 then (0, a, e) else rz b k (8 * b.length - a) a 0

theorem rice_big {q k v : Nat} (hq : q ≤ 8589934592) (hk : k ≤ 30) (hv : v < 2 ^ k) : q * 2 ^ k + v < 2 ^ 64 := by
  have h1 : 2 ^ k ≤ 2 ^ 30 := Nat.pow_le_pow_right (by decide) hk
  have h2 : q * 2 ^ k ≤ 8589934592 * 2 ^ 30 := Nat.mul_le_mul hq h1
  omega

theorem rz_le (b : List Int) (k : Nat) : ∀ n a q, a + n = 8 * b.length → (rz b k n a q).2.1 ≤ 8 * b.length
  | 0, a, q, h => by unfold rz; show a ≤ _; omega
  | n + 1, a, q, h => by
    unfold rz
    split
    · exact rz_le b k n (a + 1) (q + 1) (by omega)
    · split
      · assumption
      · show a + 1 ≤ _; omega
theorem riceS_le (b : List Int) (a : Nat) (e : Int) (k : Nat) (h : a ≤ 8 * b.length) : (riceS b a e k).2.1 ≤ 8 * b.length := by
  unfold riceS
  split
  · exact h
  · exact rz_le b k _ a 0 (by omega)
theorem rz_e (b : List Int) (k : Nat) : ∀ n a q, (rz b k n a q).2.2 = 0 ∨ (rz b k n a q).2.2 = 2 ∧ (rz b k n a q).1 = 0
  | 0, a, q => by unfold rz; exact .inr ⟨rfl, rfl⟩
  | n + 1, a, q => by
    unfold rz
    split
    · exact rz_e b k n (a + 1) (q + 1)
    · split
      · exact .inl rfl
      · exact .inr ⟨rfl, rfl⟩

theorem rice_step (g : L_rice_Take_g0) (b : List Int) (hb : Bytes b) (k : Nat) (hk : k ≤ 30) (n a q : Nat) (ha : a + n = 8 * b.length) (hq : q + n ≤ 8 * b.length)
    (hg : ∀ n', n = n' + 1 → g ((k : Int), ((q + 1 : Nat) : Int), b, ((a + 1 : Nat) : Int), 0) = some ((rz b k n' (a + 1) (q + 1)).1, b, ((rz b k n' (a + 1) (q + 1)).2.1 : Int), (rz b k n' (a + 1) (q + 1)).2.2)) :
    B_rice_Take_g0 f_bits_Reader_Fail f_bits_Reader_Take f_rice_Unfold g ((k : Int), (q : Int), b, (a : Int), 0) = some ((rz b k n a q).1, b, ((rz b k n a q).2.1 : Int), (rz b k n a q).2.2) := by
  have hlen := hb.len
  unfold B_rice_Take_g0
  dsimp only
  simp only [take_eq b hb a (by omega), Option.bind_some, fail_eq]
  cases n with
  | zero => rw [rt1' (by omega)]; rfl
  | succ n =>
    rw [rt1 (by omega)]
    unfold rz
    simp only [bne_self_eq_false, Bool.false_eq_true, if_false]
    by_cases h0 : bitN b a = 0
    · rw [if_pos h0, h0]
      simp only [Int.natCast_zero, beq_self_eq_true, if_true, Option.bind_some]
      rw [addu64 (by omega) (by omega), ← hg n rfl]
      rfl
    · have hd : ((bitN b a : Int) == 0) = false := by rw [beq_eq_false_iff_ne]; omega
      rw [if_neg h0, hd]
      simp only [Bool.false_eq_true, if_false, Option.bind_some]
      simp only [take_eq b hb (a + 1) (by omega), Option.bind_some, fail_eq]
      by_cases h : a + 1 + k ≤ 8 * b.length
      · rw [rt_in (by omega) h, if_pos h]
        simp only [bne_self_eq_false, Bool.false_eq_true, if_false]
        rw [shl_of .u64 (by omega) (by show _ ≤ (64 : Int); omega)]
        simp only [Option.bind_some, Int.toNat_natCast]
        have hv := rval_lt b (a + 1) k
        have hbig := rice_big (q := q) (by omega) hk hv
        have e1 : IntKind.wrap .u64 ((q : Int) * 2 ^ k) = ((q * 2 ^ k : Nat) : Int) := by
          rw [show ((q : Int) * 2 ^ k) = ((q * 2 ^ k : Nat) : Int) by push_cast; rfl]
          exact wu64 (by omega) (by omega)
        rw [e1, or_add hv hbig, unfold_eq hbig]
        rfl
      · rw [rt_out (by omega) h, if_neg h]
        rfl

theorem rice_loop (b : List Int) (hb : Bytes b) (k : Nat) (hk : k ≤ 30) : ∀ (n a q : Nat), a + n = 8 * b.length → q + n ≤ 8 * b.length →
    F_rice_Take_g0 ((k : Int), (q : Int), b, (a : Int), 0) = some ((rz b k n a q).1, b, ((rz b k n a q).2.1 : Int), (rz b k n a q).2.2)
  | 0, a, q, ha, hq => lfp_base fun g => rice_step g b hb k hk 0 a q ha hq fun n' h => absurd h (by omega)
  | n + 1, a, q, ha, hq => lfp_step (rice_loop b hb k hk n (a + 1) (q + 1) (by omega) (by omega)) fun g hg => rice_step g b hb k hk (n + 1) a q ha hq fun n' h => by
      obtain rfl : n = n' := by omega
      exact hg

def k30 (k : Int) : Nat := (max 0 (min k 30)).toNat
theorem k30_le (k : Int) : k30 k ≤ 30 := by unfold k30; omega
theorem maxmin30 (k : Int) : maxI 0 (minI k 30) = (k30 k : Int) := by
  unfold maxI minI k30
  split <;> split <;> omega

theorem rice_eq (b : List Int) (hb : Bytes b) (a : Nat) (ha : a ≤ 8 * b.length) (e k : Int) : f_rice_Take (b, (a : Int), e, k) = some ((riceS b a e (k30 k)).1, b, ((riceS b a e (k30 k)).2.1 : Int), (riceS b a e (k30 k)).2.2) := by
  unfold f_rice_Take F_rice_Take
  dsimp only
  simp only [f_rice_held, F_rice_held, maxmin30, Option.bind_some]
  unfold riceS
  by_cases he : e = 0
  · subst he
    rw [if_neg (by simp)]
    have h := rice_step F_rice_Take_g0 b hb (k30 k) (k30_le k) (8 * b.length - a) a 0 (by omega) (by omega) fun n' h => rice_loop b hb _ (k30_le k) n' (a + 1) 1 (by omega) (by omega)
    unfold B_rice_Take_g0 at h
    dsimp only at h
    rw [← h]
    simp only [bind_eta4]
    rfl
  · rw [if_pos he]
    simp only [take_eq b hb a ha, Option.bind_some, fail_eq, rt_bad he]
    simp [he]

/-! ### the document's -/
theorem rz_spec (b : List Int) (k : Nat) : ∀ n a q, a + n = 8 * b.length → (rz b k n a q = (0, 8 * b.length, 2)) ∨
    ∃ m, m < n ∧ rz b k n a q = if a + m + 1 + k ≤ 8 * b.length then (unf ((q + m) * 2 ^ k + rval b (a + m + 1) k), a + m + 1 + k, 0) else (0, a + m + 1, 2)
  | 0, a, q, h => by left; unfold rz; rw [← h]; rfl
  | n + 1, a, q, h => by
    unfold rz
    split
    · rcases rz_spec b k n (a + 1) (q + 1) (by omega) with h1 | ⟨m, hm, h1⟩
      · exact .inl h1
      · refine .inr ⟨m + 1, by omega, ?_⟩
        rw [h1, show a + 1 + m + 1 = a + (m + 1) + 1 by omega, show q + 1 + m = q + (m + 1) by omega]
    · exact .inr ⟨0, by omega, rfl⟩

/-- where the bits 0 end -/
def zs (b : List Int) : Nat → Nat → Nat → Option (Nat × Nat)
  | 0, a, q => none
  | n + 1, a, q => if bitN b a = 0 then zs b n (a + 1) (q + 1) else some (q, a + 1)
theorem zs_rz (b : List Int) (k : Nat) : ∀ n a q, a + n = 8 * b.length → rz b k n a q = match zs b n a q with
    | none => (0, 8 * b.length, 2)
    | some (q', a') => if a' + k ≤ 8 * b.length then (unf (q' * 2 ^ k + rval b a' k), a' + k, 0) else (0, a', 2)
  | 0, a, q, h => by unfold rz zs; rw [← h]; rfl
  | n + 1, a, q, h => by
    unfold rz zs
    split
    · exact zs_rz b k n (a + 1) (q + 1) (by omega)
    · rfl
theorem zs_le (b : List Int) : ∀ n a q q' a', a + n = 8 * b.length → zs b n a q = some (q', a') → a' ≤ 8 * b.length ∧ q' ≤ q + n
  | 0, a, q, q', a', h, h1 => by unfold zs at h1; cases h1
  | n + 1, a, q, q', a', h, h1 => by
    unfold zs at h1
    split at h1
    · have := zs_le b n (a + 1) (q + 1) q' a' (by omega) h1
      omega
    · cases h1; omega

theorem rr_loop (b : List Int) (hb : Bytes b) (k : Int) : ∀ (n a q : Nat), a + n = 8 * b.length → q + n ≤ 8 * b.length →
    F_ref02_Take_2 (k, (q : Int), bitsL b, (a : Int), 0) = some (match zs b n a q with
      | none => .inr (0, bitsL b, ((8 * b.length : Nat) : Int), 2)
      | some (q', a') => .inl (k, (q' : Int), bitsL b, (a' : Int), 0))
  | 0, a, q, ha, hq => by
    refine lfp_base fun g => ?_
    unfold B_ref02_Take_2
    dsimp only
    simp only [rtake_eq b hb a (by omega), Option.bind_some, rt1' (show ¬ a < 8 * b.length by omega)]
    unfold zs
    rw [← ha]
    rfl
  | n + 1, a, q, ha, hq => by
    have hlen := hb.len
    by_cases h0 : bitN b a = 0
    · refine lfp_step (rr_loop b hb k n (a + 1) (q + 1) (by omega) (by omega)) fun g hg => ?_
      unfold B_ref02_Take_2
      dsimp only
      simp only [rtake_eq b hb a (by omega), Option.bind_some, rt1 (show a < 8 * b.length by omega), h0]
      unfold zs
      rw [if_pos h0, ← hg]
      simp only [bne_self_eq_false, Bool.false_eq_true, if_false, Int.natCast_zero, show ((0 : Int) == 1) = false from rfl, Option.bind_some]
      rw [addu64 (by omega) (by omega)]
      rfl
    · refine lfp_base fun g => ?_
      have h1 : bitN b a = 1 := by have := bitN_lt b a; omega
      unfold B_ref02_Take_2
      dsimp only
      simp only [rtake_eq b hb a (by omega), Option.bind_some, rt1 (show a < 8 * b.length by omega), h1]
      unfold zs
      rw [if_neg h0]
      rfl

theorem rr_pow (k : Int) (q v : Int) (l : List Bool) (a e : Int) : ∀ (m i : Nat), i + m = k30 k →
    F_ref02_Take_12 (k, q, v, ((2 ^ i : Nat) : Int), (i : Int), l, a, e) = some (q, v, ((2 ^ (k30 k) : Nat) : Int), l, a, e)
  | 0, i, h => by
    obtain rfl : i = k30 k := by omega
    refine lfp_base fun g => ?_
    unfold B_ref02_Take_12
    dsimp only
    simp only [f_ref02_K, F_ref02_K, maxmin30, Option.bind_some]
    simp
  | m + 1, i, h => by
    refine lfp_step (rr_pow k q v l a e m (i + 1) (by omega)) fun g hg => ?_
    unfold B_ref02_Take_12
    dsimp only
    simp only [f_ref02_K, F_ref02_K, maxmin30, Option.bind_some]
    have hk := k30_le k
    have hd : decide ((i : Int) < (k30 k : Int)) = true := by rw [decide_eq_true_iff]; omega
    have hp : (2 : Nat) ^ i ≤ 2 ^ 29 := Nat.pow_le_pow_right (by decide) (by omega)
    rw [hd]
    simp only [if_true, Option.bind_some]
    rw [← hg, Nat.pow_succ]
    generalize 2 ^ i = p at hp
    rw [mulu64 (by omega) (by omega), add64 (by omega) (by omega), Nat.mul_comm]
    push_cast; rfl

theorem rrice_eq (b : List Int) (hb : Bytes b) (a : Nat) (ha : a ≤ 8 * b.length) (e k : Int) : f_ref02_Take (bitsL b, (a : Int), e, k) = some ((riceS b a e (k30 k)).1, bitsL b, ((riceS b a e (k30 k)).2.1 : Int), (riceS b a e (k30 k)).2.2) := by
  unfold f_ref02_Take F_ref02_Take
  dsimp only
  have hlen := hb.len
  unfold riceS
  by_cases he : e = 0
  · subst he
    rw [if_neg (by simp), zs_rz b (k30 k) (8 * b.length - a) a 0 (by omega)]
    have hl := rr_loop b hb k (8 * b.length - a) a 0 (by omega) (by omega)
    rw [Int.natCast_zero] at hl
    rw [hl]
    rcases hz : zs b (8 * b.length - a) a 0 with _ | ⟨q', a'⟩
    · rfl
    · obtain ⟨g1, g2⟩ := zs_le b _ _ _ _ _ (by omega) hz
      simp only [Option.bind_some, f_ref02_K, F_ref02_K, maxmin30, rtake_eq b hb a' g1]
      have hk := k30_le k
      by_cases h : a' + k30 k ≤ 8 * b.length
      · rw [rt_in (by omega) h, if_pos h]
        simp only [bne_self_eq_false, Bool.false_eq_true, if_false]
        have hv := rval_lt b a' (k30 k)
        have hbig := rice_big (q := q') (by omega) hk hv
        have hp := rr_pow k (q' : Int) ((rval b a' (k30 k) : Nat) : Int) (bitsL b) ((a' + k30 k : Nat) : Int) 0 (k30 k) 0 (by omega)
        rw [show ((2 ^ 0 : Nat) : Int) = 1 from rfl, Int.natCast_zero] at hp
        rw [hp]
        simp only [Option.bind_some]
        have e1 : mulI .u64 (q' : Int) ((2 ^ (k30 k) : Nat) : Int) = ((q' * 2 ^ k30 k : Nat) : Int) := by
          rw [mulu64 (by rw [← Int.natCast_mul]; omega) (by rw [← Int.natCast_mul]; omega)]
          push_cast; rfl
        rw [e1, addu64 (by omega) (by omega), ← Int.natCast_add, runfold_eq hbig]
        rfl
      · rw [rt_out (by omega) h, if_neg h]
        rfl
  · rw [if_pos he]
    have : F_ref02_Take_2 (k, 0, bitsL b, (a : Int), e) = some (.inr (0, bitsL b, (a : Int), e)) := by
      refine lfp_base fun g => ?_
      unfold B_ref02_Take_2
      dsimp only
      simp only [rtake_eq b hb a ha, Option.bind_some, rt_bad he]
      simp [he]
    rw [this]
    rfl
end Go.Pv.Try
