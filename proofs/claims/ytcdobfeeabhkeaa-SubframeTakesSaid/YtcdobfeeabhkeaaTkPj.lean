/- Predictors. -/
import Derived.Test.YtcdobfeeabhkeaaTkPi
set_option autoImplicit false
set_option linter.unusedVariables false
set_option linter.unusedSimpArgs false
namespace Go.Pv.Try
open Go Go.Pv

def I64 (n : Int) : Prop := -9223372036854775808 ≤ n ∧ n ≤ 9223372036854775807
theorem wrap_I64 (n : Int) : I64 (IntKind.wrap .i64 n) := by rw [IntKind.wrap_i64]; unfold I64; omega
theorem mac_I64 (s : Int) (p : Int × Int) : I64 (mac s p) := wrap_I64 _
theorem fold_I64 : ∀ (l : List (Int × Int)) (s : Int), I64 s → I64 (l.foldl mac s)
  | [], s, h => h
  | p :: l, s, h => fold_I64 l _ (mac_I64 s p)
theorem add_assoc (a b c : Int) : addI .i64 (addI .i64 a b) c = addI .i64 a (addI .i64 b c) := by
  unfold addI; rw [IntKind.wrap_i64, IntKind.wrap_i64, IntKind.wrap_i64, IntKind.wrap_i64]; omega
theorem fold_add : ∀ (l : List (Int × Int)) (n s : Int), l.foldl mac (addI .i64 n s) = addI .i64 n (l.foldl mac s)
  | [], n, s => rfl
  | p :: l, n, s => by
    rw [List.foldl_cons, List.foldl_cons, ← fold_add l n]
    congr 1
    exact add_assoc _ _ _
theorem dot_add (f x : List Int) {n : Int} (h : I64 n) : dotW f x n = addI .i64 n (dotW f x 0) := by
  unfold dotW
  rw [← fold_add]
  congr 1
  unfold I64 at h
  rw [add64 (by omega) (by omega)]; omega
theorem dot_I64 (f x : List Int) : I64 (dotW f x 0) := fold_I64 _ _ (by unfold I64; omega)

theorem zip_take : ∀ (f l : List Int) (k : Nat), f.length ≤ k → f.zip (l.take k) = f.zip l
  | [], l, k, h => rfl
  | a :: f, [], k, h => by rw [List.take_nil]
  | a :: f, b :: l, 0, h => by simp at h
  | a :: f, b :: l, k + 1, h => by
    rw [List.take_succ_cons, List.zip_cons_cons, List.zip_cons_cons, zip_take f l k (by simpa using h)]
theorem dot_last (f x : List Int) (s : Int) : dotW f (x.drop (x.length - f.length)) s = dotW f x s := by
  unfold dotW
  have h : (x.drop (x.length - f.length)).reverse = x.reverse.take (x.length - (x.length - f.length)) := by
    rw [List.reverse_drop]
  rw [h]
  rcases Nat.lt_or_ge x.length f.length with h1 | h1
  · rw [show x.length - (x.length - f.length) = x.length by omega, List.take_of_length_le (by simp)]
  · rw [zip_take f _ _ (by omega)]

/-- an order's factors -/
def fixF (k : Nat) : List Int := match k with | 1 => [1] | 2 => [2, -1] | 3 => [3, -3, 1] | 4 => [4, -6, 4, -1] | _ => []
theorem fixF_len {k : Nat} (h : k ≤ 4) : (fixF k).length = k := by
  rcases (by omega : k = 0 ∨ k = 1 ∨ k = 2 ∨ k = 3 ∨ k = 4) with rfl | rfl | rfl | rfl | rfl <;> rfl
theorem fixed_factors {k : Nat} (h : k ≤ 4) : f_fixed_Factors (k : Int) = some (fixF k) := by
  rcases (by omega : k = 0 ∨ k = 1 ∨ k = 2 ∨ k = 3 ∨ k = 4) with rfl | rfl | rfl | rfl | rfl <;> rfl
theorem ref_factors {k : Nat} (h : k ≤ 4) : f_ref07_Factors (k : Int) = some (fixF k) := by
  rcases (by omega : k = 0 ∨ k = 1 ∨ k = 2 ∨ k = 3 ∨ k = 4) with rfl | rfl | rfl | rfl | rfl <;> rfl

theorem rtold12 {x f : List Int} (hx : x.length ≤ 1099511627776) (hf : f.length ≤ x.length) {sh : Nat} (hs : sh ≤ 62) (pr : Int) :
    f_ref12_Told (x, (x.length : Int), ((sh : Int), (pr, (f, ())))) = some (dotW f x 0 / 2 ^ sh) := by
  unfold f_ref12_Told F_ref12_Told
  dsimp only
  have hl := told12_loop x f hx hf (sh : Int) pr f.length 0 0 (by omega)
  rw [Int.natCast_zero] at hl
  rw [hl]
  simp only [Option.bind_some, power_eq sh hs]
  have := dot_I64 f x
  unfold I64 at this
  rw [show ((f.drop 0).zip (x.reverse.drop 0)).foldl mac 0 = dotW f x 0 from rfl, down_eq this.1 this.2 hs]
  rfl

theorem tell_loop (x f : List Int) (hx : x.length ≤ 1099511627776) (hf : f.length ≤ x.length) (sh pr : Int) (f' : List Int) : ∀ (m i : Nat) (s : Int), i + m = f.length →
    F_lpc_teller_tell_3 (x, s, f, (f.length : Int), (i : Int), sh, pr, f') = some (((f.drop i).zip (x.reverse.drop i)).foldl mac s, sh, pr, f')
  | 0, i, s, h => by
    refine lfp_base fun g => ?_
    unfold B_lpc_teller_tell_3
    dsimp only
    have hd : decide ((i : Int) < (f.length : Int)) = false := by rw [decide_eq_false_iff_not]; omega
    rw [hd, List.drop_eq_nil_of_le (show f.length ≤ i by omega)]
    rfl
  | m + 1, i, s, h => by
    refine lfp_step (tell_loop x f hx hf sh pr f' m (i + 1) (mac s (f[i], x.reverse[i]'(by rw [List.length_reverse]; omega))) (by omega)) fun g hg => ?_
    unfold B_lpc_teller_tell_3
    dsimp only
    have hd : decide ((i : Int) < (f.length : Int)) = true := by rw [decide_eq_true_iff]; omega
    rw [hd]
    simp only [if_true, Option.bind_some]
    rw [idx_nat (by omega), sub64 (a := (x.length : Int)) (by omega) (by omega), sub64 (by omega) (by omega), rev_get (by omega), List.getElem?_eq_getElem (by rw [List.length_reverse]; omega), add64 (a := (i : Int)) (by omega) (by omega)]
    simp only [Option.bind_some]
    rw [dot_step (by omega) (by omega), ← hg]
    rfl
theorem tell_eq {x f : List Int} (hx : x.length ≤ 1099511627776) (hf : f.length ≤ x.length) {sh : Nat} (hs : sh ≤ 62) (pr : Int) :
    f_lpc_teller_tell (((sh : Int), (pr, (f, ()))), x) = some (dotW f x 0 / 2 ^ sh) := by
  unfold f_lpc_teller_tell F_lpc_teller_tell
  dsimp only
  have hl := tell_loop x f hx hf (sh : Int) pr f f.length 0 0 (by omega)
  rw [Int.natCast_zero] at hl
  rw [hl]
  simp only [Option.bind_some]
  rw [shr_of .i64 (by omega) (by show _ ≤ (64 : Int); omega)]
  rfl

theorem told07_loop (x f : List Int) (hx : x.length ≤ 1099511627776) (hf : f.length ≤ x.length) : ∀ (m i : Nat) (s : Int), i + m = f.length →
    F_ref07_Told_4 (x, (x.length : Int), s, (i : Int), f) = some (((f.drop i).zip (x.reverse.drop i)).foldl mac s)
  | 0, i, s, h => by
    refine lfp_base fun g => ?_
    unfold B_ref07_Told_4
    dsimp only
    have hd : decide ((i : Int) < (f.length : Int)) = false := by rw [decide_eq_false_iff_not]; omega
    rw [hd, List.drop_eq_nil_of_le (show f.length ≤ i by omega)]
    rfl
  | m + 1, i, s, h => by
    refine lfp_step (told07_loop x f hx hf m (i + 1) (mac s (f[i], x.reverse[i]'(by rw [List.length_reverse]; omega))) (by omega)) fun g hg => ?_
    unfold B_ref07_Told_4
    dsimp only
    have hd : decide ((i : Int) < (f.length : Int)) = true := by rw [decide_eq_true_iff]; omega
    rw [hd]
    simp only [if_true, Option.bind_some]
    rw [inb_of (by omega) (by omega), idx_nat (by omega), sub64 (a := (x.length : Int)) (by omega) (by omega), sub64 (by omega) (by omega), rev_get (by omega), List.getElem?_eq_getElem (by rw [List.length_reverse]; omega), add64 (a := (i : Int)) (by omega) (by omega)]
    simp only [Option.bind_some]
    rw [dot_step (by omega) (by omega), ← hg]
    rfl
theorem rtold07 {x : List Int} (hx : x.length ≤ 1099511627776) {k : Nat} (hk : k ≤ 4) (hkx : k ≤ x.length) :
    f_ref07_Told (x, (x.length : Int), (k : Int)) = some (dotW (fixF k) x 0) := by
  unfold f_ref07_Told F_ref07_Told
  dsimp only
  have hl := told07_loop x (fixF k) hx (by rw [fixF_len hk]; exact hkx) (fixF k).length 0 0 (by omega)
  rw [Int.natCast_zero] at hl
  rw [ref_factors hk]
  simp only [Option.bind_some]
  rw [hl]
  rfl

theorem fix_loop (x f r : List Int) (hx : x.length ≤ 1099511627776) (hf : f.length ≤ x.length) (f' : List Int) (y0 y1 : Int) : ∀ (m i : Nat) (s : Int), i + m = f.length →
    F_fixed_Restore_10 (f', s, (x.length : Int) - 1, r, y0, y1, f, (f.length : Int), (i : Int), x) = some (f', ((f.drop i).zip (x.reverse.drop i)).foldl mac s, r, y0, y1, x)
  | 0, i, s, h => by
    refine lfp_base fun g => ?_
    unfold B_fixed_Restore_10
    dsimp only
    have hd : decide ((i : Int) < (f.length : Int)) = false := by rw [decide_eq_false_iff_not]; omega
    rw [hd, List.drop_eq_nil_of_le (show f.length ≤ i by omega)]
    rfl
  | m + 1, i, s, h => by
    refine lfp_step (fix_loop x f r hx hf f' y0 y1 m (i + 1) (mac s (f[i], x.reverse[i]'(by rw [List.length_reverse]; omega))) (by omega)) fun g hg => ?_
    unfold B_fixed_Restore_10
    dsimp only
    have hd : decide ((i : Int) < (f.length : Int)) = true := by rw [decide_eq_true_iff]; omega
    rw [hd]
    simp only [if_true, Option.bind_some]
    rw [idx_nat (by omega), sub64 (by omega) (by omega), inb_of (by omega) (by omega), rev_get (by omega), List.getElem?_eq_getElem (by rw [List.length_reverse]; omega), add64 (a := (i : Int)) (by omega) (by omega)]
    simp only [Option.bind_some]
    rw [dot_step (by omega) (by omega), ← hg]
    rfl

theorem clone_eq {l : List Int} (h : l.length ≤ 1099511627776) : f_slices_Clone_sint_int l = some l := if_pos h

theorem fix_one {w : List Int} (hw : w.length ≤ 4) {n : Int} (hn : I64 n) : f_fixed_Restore (w, [n]) = some (w ++ [addI .i64 n (dotW (fixF w.length) w 0)], 0) := by
  unfold f_fixed_Restore F_fixed_Restore
  dsimp only
  have hd : decide ((w.length : Int) > 4) = false := by rw [decide_eq_false_iff_not]; omega
  rw [hd, fixed_factors hw]
  simp only [Bool.false_eq_true, if_false, Option.bind_some]
  rw [clone_eq (by omega)]
  simp only [Option.bind_some]
  have hbase : F_fixed_Restore_6 (fixF w.length, [n], ((1 : Nat) : Int), ((1 : Nat) : Int), w ++ [dotW (fixF w.length) w n]) = some (w ++ [dotW (fixF w.length) w n]) := by
    refine lfp_base fun g => ?_
    unfold B_fixed_Restore_6
    rfl
  have hl := fix_loop w (fixF w.length) [n] (by omega) (by rw [fixF_len hw]; exact Nat.le_refl _) (fixF w.length) ((1 : Nat) : Int) 0 (fixF w.length).length 0 n (by omega)
  rw [Int.natCast_zero] at hl
  have hstep : F_fixed_Restore_6 (fixF w.length, [n], ((1 : Nat) : Int), 0, w) = some (w ++ [dotW (fixF w.length) w n]) := by
    refine lfp_step hbase fun g hg => ?_
    unfold B_fixed_Restore_6
    dsimp only
    have hd : decide ((0 : Int) < ((1 : Nat) : Int)) = true := rfl
    rw [hd]
    simp only [if_true, Option.bind_some]
    rw [show idx [n] 0 = some n from rfl, sub64 (a := (w.length : Int)) (by omega) (by omega)]
    simp only [Option.bind_some]
    rw [hl]
    simp only [Option.bind_some]
    rw [room_of (by simp; omega), ← hg]
    rfl
  rw [show (([n].length : Nat) : Int) = ((1 : Nat) : Int) from rfl, hstep, ← dot_add _ _ hn]
  rfl

theorem lpc_one {w f : List Int} (hw : w.length ≤ 1099511627770) {sh pr : Nat} {n : Int} (hf : w.length = f.length) (hs : sh ≤ 62) (hc : f_lpc_Check ((sh : Int), ((pr : Int), (f, ()))) = some 0) :
    f_lpc_Restore (w, [n], ((sh : Int), ((pr : Int), (f, ())))) = some (w ++ [addI .i64 n (dotW f w 0 / 2 ^ sh)], 0) := by
  unfold f_lpc_Restore F_lpc_Restore
  dsimp only
  rw [hc]
  have hd : ((w.length : Int) != (f.length : Int)) = false := by rw [bne_eq_false_iff_eq, hf]
  simp only [Option.bind_some, bne_self_eq_false, Bool.false_eq_true, if_false, hd]
  rw [clone_eq (by omega)]
  simp only [Option.bind_some]
  have hbase : F_lpc_Restore_8 ((((sh : Int), ((pr : Int), (f, ()))), ()), [n], ((1 : Nat) : Int), ((1 : Nat) : Int), w ++ [addI .i64 n (dotW f w 0 / 2 ^ sh)]) = some (w ++ [addI .i64 n (dotW f w 0 / 2 ^ sh)]) := by
    refine lfp_base fun g => ?_
    unfold B_lpc_Restore_8
    rfl
  have hstep : F_lpc_Restore_8 ((((sh : Int), ((pr : Int), (f, ()))), ()), [n], ((1 : Nat) : Int), 0, w) = some (w ++ [addI .i64 n (dotW f w 0 / 2 ^ sh)]) := by
    refine lfp_step hbase fun g hg => ?_
    unfold B_lpc_Restore_8
    dsimp only
    have hd : decide ((0 : Int) < ((1 : Nat) : Int)) = true := rfl
    rw [hd]
    simp only [if_true, Option.bind_some]
    rw [show idx [n] 0 = some n from rfl, tell_eq (by omega) (by omega) hs]
    simp only [Option.bind_some]
    rw [room_of (by simp; omega), ← hg]
    rfl
  rw [show (([n].length : Nat) : Int) = ((1 : Nat) : Int) from rfl, hstep]
  rfl
end Go.Pv.Try
