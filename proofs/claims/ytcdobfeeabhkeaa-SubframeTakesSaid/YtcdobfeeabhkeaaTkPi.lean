/- What is foretold; what is in a depth. -/
import Derived.Test.YtcdobfeeabhkeaaTkPh
set_option autoImplicit false
set_option linter.unusedVariables false
set_option linter.unusedSimpArgs false
namespace Go.Pv.Try
open Go Go.Pv

def mac (s : Int) (p : Int × Int) : Int := addI .i64 s (mulI .i64 p.1 p.2)
/-- products of factors and the last numbers, added -/
def dotW (f x : List Int) (s : Int) : Int := (f.zip x.reverse).foldl mac s

theorem rev_get {x : List Int} {i : Nat} (h : i < x.length) : idx x ((x.length : Int) - 1 - (i : Int)) = (x.reverse)[i]? := by
  rw [List.getElem?_reverse h]
  unfold idx
  rw [if_pos (by omega)]
  congr 1
  omega

theorem dot_step {f x : List Int} {i : Nat} (hf : i < f.length) (hx : i < x.length) (s : Int) :
    ((f.drop i).zip (x.reverse.drop i)).foldl mac s = ((f.drop (i + 1)).zip (x.reverse.drop (i + 1))).foldl mac (mac s (f[i], x.reverse[i]'(by rw [List.length_reverse]; exact hx))) := by
  rw [List.drop_eq_getElem_cons hf, List.drop_eq_getElem_cons (l := x.reverse) (by rw [List.length_reverse]; exact hx)]
  rfl

theorem told12_loop (x f : List Int) (hx : x.length ≤ 1099511627776) (hf : f.length ≤ x.length) (sh pr : Int) : ∀ (m i : Nat) (s : Int), i + m = f.length →
    F_ref12_Told_3 (x, (x.length : Int), s, (i : Int), sh, pr, f) = some (((f.drop i).zip (x.reverse.drop i)).foldl mac s, sh, pr, f)
  | 0, i, s, h => by
    refine lfp_base fun g => ?_
    unfold B_ref12_Told_3
    dsimp only
    have hd : decide ((i : Int) < (f.length : Int)) = false := by rw [decide_eq_false_iff_not]; omega
    rw [hd, List.drop_eq_nil_of_le (show f.length ≤ i by omega)]
    rfl
  | m + 1, i, s, h => by
    refine lfp_step (told12_loop x f hx hf sh pr m (i + 1) (mac s (f[i], x.reverse[i]'(by rw [List.length_reverse]; omega))) (by omega)) fun g hg => ?_
    unfold B_ref12_Told_3
    dsimp only
    have hd : decide ((i : Int) < (f.length : Int)) = true := by rw [decide_eq_true_iff]; omega
    rw [hd]
    simp only [if_true, Option.bind_some]
    rw [idx_nat (by omega), sub64 (a := (x.length : Int)) (by omega) (by omega), sub64 (by omega) (by omega), rev_get (by omega), List.getElem?_eq_getElem (by rw [List.length_reverse]; omega), add64 (a := (i : Int)) (by omega) (by omega)]
    simp only [Option.bind_some]
    rw [dot_step (by omega) (by omega), ← hg]
    rfl

theorem down_eq {n : Int} (h1 : -9223372036854775808 ≤ n) (h2 : n ≤ 9223372036854775807) {j : Nat} (hj : j ≤ 62) : f_ref08_Down (n, 2 ^ j) = some (n / 2 ^ j) := by
  unfold f_ref08_Down F_ref08_Down
  dsimp only
  have hp := pow_pos j
  have hp2 := pow_le hj
  generalize (2 : Int) ^ j = P at hp hp2 ⊢
  have hq : n.tdiv P = if n % P ≠ 0 ∧ n < 0 then n / P + 1 else n / P := by
    rw [Int.tdiv_eq_ediv]
    by_cases h : 0 ≤ n
    · rw [if_pos (Or.inl h), if_neg (show ¬(n % P ≠ 0 ∧ n < 0) by omega)]; omega
    · by_cases h0 : n % P = 0
      · rw [if_pos (Or.inr (Int.dvd_of_emod_eq_zero h0)), if_neg (show ¬(n % P ≠ 0 ∧ n < 0) by omega)]; omega
      · have hn : ¬(0 ≤ n ∨ P ∣ n) := fun h' => h'.elim h fun h' => h0 (Int.emod_eq_zero_of_dvd h')
        rw [if_neg hn, if_pos (show n % P ≠ 0 ∧ n < 0 from ⟨h0, by omega⟩), Int.sign_eq_one_of_pos (by omega)]
  have hmod : n.tmod P = n - P * n.tdiv P := Int.tmod_def n P
  have hdm := Int.mul_ediv_add_emod n P
  have hm0 := Int.emod_nonneg n (show P ≠ 0 by omega)
  have hm1 := Int.emod_lt_of_pos n (show 0 < P by omega)
  have hq1 : -9223372036854775808 ≤ n / P := by
    have h : n / P ≥ n ∨ 0 ≤ n / P := by
      rcases Int.le_total 0 n with h | h
      · exact .inr (Int.ediv_nonneg h (by omega))
      · left
        exact Int.le_ediv_of_mul_le (by omega) (by
          have : n * P ≤ n * 1 := Int.mul_le_mul_of_nonpos_left h (by omega)
          omega)
    omega
  have hq2 : n / P ≤ 9223372036854775806 ∨ (n / P ≤ 9223372036854775807 ∧ 0 ≤ n) := by
    rcases Int.le_total 0 n with h | h
    · right; exact ⟨Int.le_trans (Int.ediv_le_self _ h) h2, h⟩
    · left
      have : n / P ≤ 0 := Int.ediv_nonpos_of_nonpos_of_neg h (by omega)
      omega
  unfold quoI remI
  rw [if_neg (by omega), if_neg (by omega)]
  simp only [Option.bind_some]
  rw [hmod, hq]
  by_cases h : n % P ≠ 0 ∧ n < 0
  · rw [if_pos h]
    have e : P * (n / P + 1) = P * (n / P) + P := by rw [Int.mul_add, Int.mul_one]
    have hd : decide (n - P * (n / P + 1) < 0) = true := by rw [decide_eq_true_iff]; omega
    rw [hd, w64 (by omega) (by omega)]
    simp only [if_true, Option.bind_some]
    rw [sub64 (by omega) (by omega)]
    congr 1; omega
  · rw [if_neg h]
    have hd : decide (n - P * (n / P) < 0) = false := by rw [decide_eq_false_iff_not]; omega
    rw [hd, w64 (by omega) (by omega)]
    rfl
end Go.Pv.Try
