/- A subframe, taken. -/
import Derived.Test.YtcdobfeeabhkeaaTkPl
set_option autoImplicit false
set_option linter.unusedVariables false
set_option linter.unusedSimpArgs false
namespace Go.Pv.Try
open Go Go.Pv

theorem mul64_one {n : Nat} (h : n ≤ 1073741824) : f_math_bits_Mul (1, (n : Int)) = some (0, (n : Int)) := by
  unfold f_math_bits_Mul F_math_bits_Mul f_math_bits_Mul64 F_math_bits_Mul64
  dsimp only
  have hsh : ∀ {x : Int}, 0 ≤ x → x ≤ 4294967295 → shrI .u64 x 32 = some 0 := fun {x} h0 h1 => by
    rw [shr_of .u64 (by decide) (by decide)]
    congr 1
    show x / 2 ^ 32 = 0
    omega
  have hand : ∀ {x : Int}, 0 ≤ x → x ≤ 4294967295 → andI .u64 x 4294967295 = x := fun {x} h0 h1 => by
    have := and_mask .u64 (a := x) (m := 32) h0 (by show _ < (18446744073709551616 : Int); omega) (by decide) (fun n h1 h2 _ => wu64 h1 (by have : n < (18446744073709551616 : Int) := h2; omega))
    rw [show ((2 : Int) ^ 32 - 1) = 4294967295 from rfl] at this
    rw [this]; omega
  rw [hsh (x := 1) (by decide) (by decide), hsh (x := (n : Int)) (by omega) (by omega)]
  simp only [Option.bind_some]
  rw [hand (x := 1) (by decide) (by decide), hand (x := (n : Int)) (by omega) (by omega)]
  have hm1 : mulI .u64 1 (n : Int) = n := by rw [mulu64 (by omega) (by omega)]; omega
  have hm0 : mulI .u64 0 (n : Int) = 0 := by rw [mulu64 (by omega) (by omega)]; omega
  rw [hm1, hm0, hsh (x := (n : Int)) (by omega) (by omega)]
  simp only [Option.bind_some]
  rfl

theorem rep_loop (v : Int) (N : Nat) (hN : N ≤ 1073741824) : ∀ (m n : Nat), 1 ≤ n → n ≤ N → N - n ≤ m → F_slices_Repeat_sint_int_8 ((n : Int), List.replicate n v ++ List.replicate (N - n) 0) = some (List.replicate N v)
  | m, n, h1, h2, h3 => by
    by_cases hn : n = N
    · subst hn
      refine lfp_base fun g => ?_
      unfold B_slices_Repeat_sint_int_8
      dsimp only
      rw [Nat.sub_self, List.replicate_zero, List.append_nil, List.length_replicate, decide_eq_false (show ¬ (n : Int) < (n : Int) by omega)]
      rfl
    · cases m with
      | zero => omega
      | succ m =>
        have ih := rep_loop v N hN m (n + min n (N - n)) (by omega) (by omega) (by omega)
        refine lfp_step ih fun g hg => ?_
        unfold B_slices_Repeat_sint_int_8
        dsimp only
        have hl : (List.replicate n v ++ List.replicate (N - n) (0 : Int)).length = N := by simp; omega
        rw [hl, decide_eq_true (show (n : Int) < (N : Int) by omega)]
        simp only [if_true, Option.bind_some]
        rw [hl, rng_of (by omega) (by omega) (by omega), rng_of (by omega) (by omega) (by omega)]
        simp only [Option.bind_some]
        have hv : view (List.replicate n v ++ List.replicate (N - n) (0 : Int)) (some (0 + (0 : Int).toNat, (n : Int).toNat - (0 : Int).toNat)) = List.replicate n v := by
          unfold view
          dsimp only
          rw [show 0 + (0 : Int).toNat = 0 from rfl, List.drop_zero, show (n : Int).toNat - (0 : Int).toNat = n by omega, List.take_append_of_le_length (by simp), List.take_of_length_le (by simp)]
        have hn2 : 0 + (n : Int).toNat = n := by omega
        have hn3 : (N : Int).toNat - (n : Int).toNat = N - n := by omega
        rw [hv, List.length_replicate, hn2, hn3]
        have hmin : Nat.min n (N - n) = min n (N - n) := rfl
        rw [hmin]
        generalize hj : min n (N - n) = j at *
        have hj1 : j ≤ n := by omega
        have hj2 : j ≤ N - n := by omega
        rw [add64 (by omega) (by omega), ← hg, show ((n : Int) + (j : Int)) = ((n + j : Nat) : Int) by omega]
        congr 2
        unfold splice
        rw [List.take_replicate, Nat.min_eq_left hj1, List.length_replicate, List.take_append_of_le_length (by simp), List.take_of_length_le (by simp), List.drop_append, List.drop_eq_nil_of_le (by simp), List.nil_append, List.length_replicate, List.drop_replicate]
        rw [← List.replicate_append_replicate (n := n) (m := j)]
        congr 2
        omega
  termination_by m => m

theorem repeat_eq (v : Int) (N : Nat) (h1 : 1 ≤ N) (hN : N ≤ 1073741824) : f_slices_Repeat_sint_int ([v], (N : Int)) = some (List.replicate N v) := by
  unfold f_slices_Repeat_sint_int F_slices_Repeat_sint_int
  dsimp only
  rw [decide_eq_false (show ¬ (N : Int) < 0 by omega)]
  simp only [Bool.false_eq_true, if_false]
  rw [show IntKind.wrap .u64 (([v].length : Nat) : Int) = 1 from rfl, wu64 (by omega) (by omega), mul64_one hN]
  simp only [Option.bind_some]
  rw [decide_eq_false (show ¬ (0 : Int) > 0 by decide), decide_eq_false (show ¬ (N : Int) > 9223372036854775807 by omega)]
  simp only [Bool.false_eq_true, if_false, Option.bind_some]
  rw [w64 (by omega) (by omega), mk_of (by omega) (by omega)]
  simp only [Option.bind_some, Int.toNat_natCast, List.length_replicate]
  have h := rep_loop v N hN N 1 (by omega) (by omega) (by omega)
  rw [show Nat.min [v].length N = 1 by show min 1 N = 1; omega]
  have hs : splice (List.replicate N (0 : Int)) 0 (List.take 1 [v]) = List.replicate 1 v ++ List.replicate (N - 1) 0 := by
    unfold splice
    simp
  rw [hs, h]
  rfl

/-- numbers, moved up -/
def upS (w : Nat) (x : List Int) : List Int := x.map fun v => IntKind.wrap .i64 (v * 2 ^ w)
theorem upS_step {w : Nat} {x : List Int} {i : Nat} (h : i < x.length) : (x.set i (IntKind.wrap .i64 (x[i] * 2 ^ w))).take (i + 1) ++ upS w ((x.set i (IntKind.wrap .i64 (x[i] * 2 ^ w))).drop (i + 1)) = x.take i ++ upS w (x.drop i) := by
  rw [List.drop_set_of_lt (by omega), List.take_succ_eq_append_getElem (by rw [List.length_set]; exact h), List.getElem_set_self, List.take_set_of_le (Nat.le_refl _), List.append_assoc]
  congr 1
  rw [List.drop_eq_getElem_cons h]
  rfl

theorem up_loop (b : List Int) (a e u1 u2 u3 u4 u5 : Int) (u6 : List Int) (u7 : Bool) (u8 : Int) (u9 : List e0) (K O Sh Pr : Int) (F : List Int) (p1 : Bool) (p2 : Int) (p3 : List e0) (w : Nat) (hw : w ≤ 64) : ∀ (m i : Nat) (x : List Int), i + m = x.length → x.length ≤ 1099511627776 →
    F_subframe_Take_29 ((x.length : Int), (i : Int), b, a, e, u1, u2, u3, u4, u5, u6, u7, u8, u9, K, (w : Int), O, Sh, Pr, F, p1, p2, p3, x) = some (b, a, e, u1, u2, u3, u4, u5, u6, u7, u8, u9, K, (w : Int), O, Sh, Pr, F, p1, p2, p3, x.take i ++ upS w (x.drop i))
  | 0, i, x, h, hx => by
    refine lfp_base fun g => ?_
    unfold B_subframe_Take_29
    dsimp only
    rw [decide_eq_false (show ¬ (i : Int) < (x.length : Int) by omega), List.drop_eq_nil_of_le (by omega), List.take_of_length_le (by omega)]
    simp [upS]
  | m + 1, i, x, h, hx => by
    have hi : i < x.length := by omega
    have ih := up_loop b a e u1 u2 u3 u4 u5 u6 u7 u8 u9 K O Sh Pr F p1 p2 p3 w hw m (i + 1) (x.set i (IntKind.wrap .i64 (x[i] * 2 ^ w))) (by rw [List.length_set]; omega) (by rw [List.length_set]; omega)
    rw [upS_step hi, List.length_set] at ih
    refine lfp_step ih fun g hg => ?_
    unfold B_subframe_Take_29
    dsimp only
    rw [decide_eq_true (show (i : Int) < (x.length : Int) by omega)]
    simp only [if_true, Option.bind_some]
    rw [inb_of (by omega) (by omega), idx_nat hi]
    simp only [Option.bind_some]
    rw [shl_of .i64 (by omega) (by show _ ≤ (64 : Int); omega), add64 (by omega) (by omega)]
    simp only [Option.bind_some, Int.toNat_natCast]
    rw [← hg]
    rfl

abbrev none9 : e9 := (0, (0, (0, ((0, (0, ([], ()))), ((false, (0, ([], ()))), ())))))

/-- a subframe -/
def takeS (b : List Int) (a : Nat) (blk depth : Nat) : Int ⊕ (List Int × e9 × Nat) :=
  match begS b a blk depth with
  | .inl er => .inl er
  | .inr (K, w, k, a1) =>
    match sgnsS b (depth - w) (if K = 0 then 1 else if K = 1 then blk else k) a1 with
    | .inl er => .inl er
    | .inr (x, a2) =>
      if K = 0 then .inr (upS w (List.replicate blk (x.getD 0 0)), ((0 : Int), ((w : Int), (0, ((0, (0, ([], ()))), ((false, (0, ([], ()))), ()))))), a2)
      else if K = 1 then .inr (upS w x, ((1 : Int), ((w : Int), (0, ((0, (0, ([], ()))), ((false, (0, ([], ()))), ()))))), a2)
      else if K = 2 then
        match sectS b a2 blk k with
        | .inl er => .inl er
        | .inr (r, p, a3) => match restS 2 k 0 (depth - w) [] r x with
          | .inl er => .inl er
          | .inr x' => .inr (upS w x', ((2 : Int), ((w : Int), ((k : Int), ((0, (0, ([], ()))), (p, ()))))), a3)
      else match linS b a2 k with
        | .inl er => .inl er
        | .inr (sh, pr, f, a3) => match sectS b a3 blk k with
          | .inl er => .inl er
          | .inr (r, p, a4) => match restS 3 k sh (depth - w) f r x with
            | .inl er => .inl er
            | .inr x' => .inr (upS w x', ((3 : Int), ((w : Int), (0, (((sh : Int), ((pr : Int), (f, ()))), (p, ()))))), a4)
end Go.Pv.Try
