/- In a depth; restored numbers. -/
import Derived.Test.YtcdobfeeabhkeaaTkPj
set_option autoImplicit false
set_option linter.unusedVariables false
set_option linter.unusedSimpArgs false
namespace Go.Pv.Try
open Go Go.Pv

def inS (d : Nat) (v : Int) : Bool := decide (-(2 ^ (d - 1)) ≤ v) && decide (v < 2 ^ (d - 1))
theorem inS_iff {d : Nat} {v : Int} : inS d v = true ↔ -(2 ^ (d - 1)) ≤ v ∧ v < 2 ^ (d - 1) := by
  unfold inS; rw [Bool.and_eq_true, decide_eq_true_iff, decide_eq_true_iff]

theorem in_eq {d : Nat} (h1 : 1 ≤ d) (h2 : d ≤ 62) (v : Int) : f_pcm_In (v, (d : Int)) = some (inS d v) := by
  unfold f_pcm_In F_pcm_In
  dsimp only
  rw [decide_eq_false (show ¬ (d : Int) < 1 by omega), decide_eq_false (show ¬ (d : Int) > 62 by omega)]
  simp only [Bool.false_eq_true, if_false, Option.bind_some]
  rw [sub64 (by omega) (by omega), show ((d : Int) - 1) = ((d - 1 : Nat) : Int) by omega, shr_of .i64 (by omega) (by show _ ≤ (64 : Int); omega)]
  simp only [Option.bind_some, Int.toNat_natCast]
  unfold inS
  have hp := pow_pos (d - 1)
  generalize (2 : Int) ^ (d - 1) = P at hp ⊢
  have hdm := Int.mul_ediv_add_emod v P
  have hm0 := Int.emod_nonneg v (show P ≠ 0 by omega)
  have hm1 := Int.emod_lt_of_pos v (show 0 < P by omega)
  by_cases h0 : v / P = 0
  · rw [h0] at hdm ⊢
    rw [decide_eq_true (show -P ≤ v by omega), decide_eq_true (show v < P by omega)]; rfl
  · have hb : (v / P == 0) = false := by rw [beq_eq_false_iff_ne]; exact h0
    rw [hb]
    simp only [Bool.false_eq_true, if_false, Option.bind_some]
    congr 1
    rw [Bool.eq_iff_iff, beq_iff_eq, Bool.and_eq_true, decide_eq_true_iff, decide_eq_true_iff]
    constructor
    · intro h; rw [h] at hdm; omega
    · rintro ⟨h3, h4⟩
      have h5 : v / P < 1 := Int.ediv_lt_of_lt_mul (by omega) (by omega)
      have h6 : -1 ≤ v / P := Int.le_ediv_of_mul_le (by omega) (by omega)
      omega

theorem rin_eq {d : Nat} (h1 : 1 ≤ d) (h2 : d ≤ 62) (v : Int) : f_ref06_In (v, (d : Int)) = some (inS d v) := by
  unfold f_ref06_In F_ref06_In
  dsimp only
  rw [decide_eq_false (show ¬ (d : Int) < 1 by omega), decide_eq_false (show ¬ (d : Int) > 62 by omega)]
  simp only [Bool.false_eq_true, if_false, Option.bind_some]
  rw [sub64 (by omega) (by omega), show ((d : Int) - 1) = ((d - 1 : Nat) : Int) by omega, power_eq _ (by omega)]
  simp only [Option.bind_some]
  unfold inS
  have hp := pow_pos (d - 1)
  have hp2 := pow_le (m := d - 1) (n := 62) (by omega)
  generalize (2 : Int) ^ (d - 1) = P at hp hp2 ⊢
  rw [sub64 (by omega) (by omega), show (0 : Int) - P = -P by omega]
  by_cases h : v ≥ -P
  · rw [decide_eq_true h]; rfl
  · rw [decide_eq_false h]; rfl

theorem check_loop (f : List Int) (d : Nat) (h1 : 1 ≤ d) (h2 : d ≤ 62) (hl : f.length ≤ 1099511627776) (hin : ∀ v ∈ f, inS d v = true) (c : Unit × e2) (hc : c.2.2.1 = (d : Int)) : ∀ (m i : Nat), i + m = f.length →
    F_slices_IndexFunc_sint_int_lpc_Check_1_2 (f, c, (f.length : Int), (i : Int)) = some (.inl ())
  | 0, i, h => by
    refine lfp_base fun g => ?_
    unfold B_slices_IndexFunc_sint_int_lpc_Check_1_2
    dsimp only
    rw [decide_eq_false (show ¬ (i : Int) < (f.length : Int) by omega)]
    rfl
  | m + 1, i, h => by
    refine lfp_step (check_loop f d h1 h2 hl hin c hc m (i + 1) (by omega)) fun g hg => ?_
    unfold B_slices_IndexFunc_sint_int_lpc_Check_1_2
    dsimp only
    have hi : i < f.length := by omega
    rw [decide_eq_true (show (i : Int) < (f.length : Int) by omega)]
    simp only [if_true, Option.bind_some]
    rw [idx_nat hi]
    simp only [Option.bind_some]
    unfold f_lpc_Check_1 F_lpc_Check_1
    dsimp only
    rw [hc, in_eq h1 h2, hin _ (List.getElem_mem hi)]
    simp only [Option.bind_some, Bool.not_true, Bool.false_eq_true, if_false]
    rw [add64 (by omega) (by omega), ← hg]
    rfl

theorem check_ok {f : List Int} {sh pr : Nat} (hf1 : 1 ≤ f.length) (hf2 : f.length ≤ 32) (h1 : 1 ≤ pr) (h2 : pr ≤ 15) (h3 : sh ≤ 15) (hin : ∀ v ∈ f, inS pr v = true) :
    f_lpc_Check ((sh : Int), ((pr : Int), (f, ()))) = some 0 := by
  unfold f_lpc_Check F_lpc_Check
  dsimp only
  rw [decide_eq_false (show ¬ (f.length : Int) < 1 by omega), decide_eq_false (show ¬ (f.length : Int) > 32 by omega)]
  simp only [Bool.false_eq_true, if_false, Option.bind_some]
  rw [decide_eq_false (show ¬ (pr : Int) < 1 by omega), decide_eq_false (show ¬ (pr : Int) > 15 by omega), decide_eq_false (show ¬ (sh : Int) < 0 by omega), decide_eq_false (show ¬ (sh : Int) > 15 by omega)]
  simp only [Bool.false_eq_true, if_false, Option.bind_some]
  unfold f_slices_ContainsFunc_sint_int_lpc_Check_1 F_slices_ContainsFunc_sint_int_lpc_Check_1 f_slices_IndexFunc_sint_int_lpc_Check_1 F_slices_IndexFunc_sint_int_lpc_Check_1
  dsimp only
  have hl := check_loop f pr h1 (by omega) (by omega) hin ((), ((sh : Int), ((pr : Int), (f, ())))) rfl f.length 0 (by omega)
  rw [Int.natCast_zero] at hl
  rw [hl]
  rfl

/-- what is foretold behind numbers -/
def toldS (kind k : Nat) (sh : Nat) (f x : List Int) : Int := if kind = 2 then dotW (fixF k) x 0 else dotW f x 0 / 2 ^ sh

/-- numbers of which it is left -/
def restS (kind k sh d : Nat) (f : List Int) : List Int → List Int → Int ⊕ List Int
  | [], x => .inr x
  | n :: r, x => if inS d (addI .i64 n (toldS kind k sh f x)) = true then restS kind k sh d f r (x ++ [addI .i64 n (toldS kind k sh f x)]) else .inl 6

theorem view_last {x : List Int} {k : Nat} (h : k ≤ x.length) : view x (some (0 + (x.length - k), x.length - (x.length - k))) = x.drop (x.length - k) := by
  unfold view
  dsimp only
  rw [List.take_of_length_le (by simp), Nat.zero_add]

theorem restored_loop (k sh pr d : Nat) (kind : Nat) (f : List Int) (hk : kind = 2 ∧ k ≤ 4 ∨ kind = 3 ∧ k = f.length ∧ sh ≤ 62 ∧ f_lpc_Check ((sh : Int), ((pr : Int), (f, ()))) = some 0)
    (hd1 : 1 ≤ d) (hd2 : d ≤ 62) (R : List Int) (hR : ∀ n ∈ R, I64 n) (hRl0 : R.length ≤ 1073741824) (y0 y1 y3 : Int) (z0 : Bool) (z1 : Int) (z2 : List e0) : ∀ (r : List Int) (i : Nat) (x : List Int), R.drop i = r → i ≤ R.length → k ≤ x.length → x.length + r.length ≤ 1073741824 →
    F_subframe_restored_3 (R, (d : Int), (k : Int), (R.length : Int), (i : Int), (kind : Int), y0, y1, (sh : Int), (pr : Int), f, z0, z1, z2, x) = some (match restS kind k sh d f r x with
      | .inl er => .inr (er, [])
      | .inr x' => .inl x')
  | [], i, x, hr, hi, hkx, hl => by
    have hi' : R.length ≤ i := by
      rcases Nat.lt_or_ge i R.length with h1 | h1
      · rw [List.drop_eq_getElem_cons h1] at hr; cases hr
      · exact h1
    refine lfp_base fun g => ?_
    unfold B_subframe_restored_3 restS
    dsimp only
    rw [decide_eq_false (show ¬ (i : Int) < (R.length : Int) by omega)]
    rfl
  | n :: r, i, x, hr, hi, hkx, hl => by
    have hi' : i < R.length := by
      rcases Nat.lt_or_ge i R.length with h1 | h1
      · exact h1
      · rw [List.drop_eq_nil_of_le h1] at hr; cases hr
    have hr0 := hr
    rw [List.drop_eq_getElem_cons hi'] at hr
    simp only [List.cons.injEq] at hr
    have hRl : R.length = i + 1 + r.length := by
      have := congrArg List.length hr.2
      rw [List.length_drop] at this; omega
    have hn : I64 n := by rw [← hr.1]; exact hR _ (List.getElem_mem hi')
    have hview : view R (some (i, 1)) = [n] := by
      unfold view
      dsimp only
      rw [hr0]; rfl
    rw [List.length_cons] at hl
    have hw : (x.drop (x.length - k)).length = k := by rw [List.length_drop]; omega
    have body : ∀ g : L_subframe_restored_3, B_subframe_restored_3 f_fixed_Restore f_lpc_Restore f_pcm_In g (R, (d : Int), (k : Int), (R.length : Int), (i : Int), (kind : Int), y0, y1, (sh : Int), (pr : Int), f, z0, z1, z2, x) =
        if inS d (addI .i64 n (toldS kind k sh f x)) = true then g (R, (d : Int), (k : Int), (R.length : Int), ((i + 1 : Nat) : Int), (kind : Int), y0, y1, (sh : Int), (pr : Int), f, z0, z1, z2, x ++ [addI .i64 n (toldS kind k sh f x)])
        else some (.inr (6, [])) := by
      intro g
      unfold B_subframe_restored_3
      dsimp only
      rw [decide_eq_true (show (i : Int) < (R.length : Int) by omega)]
      simp only [if_true, Option.bind_some]
      rw [sub64 (by omega) (by omega), rng_of (by omega) (by omega) (by omega)]
      simp only [Option.bind_some]
      rw [add64 (a := (i : Int)) (by omega) (by omega), rng_of (n := R.length) (by omega) (by omega) (by omega)]
      simp only [Option.bind_some]
      have e1 : ((x.length : Int) - (k : Int)).toNat = x.length - k := by omega
      have e2 : ((x.length : Nat) : Int).toNat = x.length := Int.toNat_natCast _
      have e3 : ((i : Int) + 1).toNat - (i : Int).toNat = 1 := by omega
      have e4 : (i : Int).toNat = i := Int.toNat_natCast _
      have e5 : addI .i64 (i : Int) 1 = ((i + 1 : Nat) : Int) := by rw [add64 (by omega) (by omega)]; omega
      rw [e1, e2, e3, e4, view_last hkx, hview]
      have hidx : ∀ v : Int, idx (x.drop (x.length - k) ++ [v]) (k : Int) = some v := fun v => idx_of (by omega) (by
        rw [Int.toNat_natCast, List.getElem?_append_right (by omega), hw]; simp)
      have hinb : ∀ v : Int, inb (k : Int) (x.drop (x.length - k) ++ [v]).length = some () := fun v => inb_of (by omega) (by rw [List.length_append, hw]; simp; omega)
      have hroom : ∀ v : Int, room (x.length + ((List.replicate 1 (0 : Int)).set 0 v).length) = some () := fun v => room_of (by simp; omega)
      rcases hk with ⟨rfl, hk4⟩ | ⟨rfl, hkf, hsh, hc⟩
      · have ht : dotW (fixF k) (x.drop (x.length - k)) 0 = toldS 2 k sh f x := by
          have := dot_last (fixF k) x 0
          rw [fixF_len hk4] at this
          rw [this]; rfl
        have hone := fix_one (w := x.drop (x.length - k)) (by omega) hn
        rw [hw, ht] at hone
        simp only [show (((2 : Nat) : Int) == 2) = true from rfl, if_true, hone, Option.bind_some, hinb, hidx, in_eq hd1 hd2, hroom, e5]
        cases inS d (addI .i64 n (toldS 2 k sh f x)) <;> rfl
      · have ht : dotW f (x.drop (x.length - k)) 0 / 2 ^ sh = toldS 3 k sh f x := by
          have := dot_last f x 0
          rw [← hkf] at this
          rw [this]; rfl
        have hone := lpc_one (w := x.drop (x.length - k)) (n := n) (by omega) (by rw [hw, hkf]) hsh hc
        rw [ht] at hone
        simp only [show (((3 : Nat) : Int) == 2) = false from rfl, Bool.false_eq_true, if_false, hone, Option.bind_some, hinb, hidx, in_eq hd1 hd2, hroom, e5]
        cases inS d (addI .i64 n (toldS 3 k sh f x)) <;> rfl
    unfold restS
    by_cases h : inS d (addI .i64 n (toldS kind k sh f x)) = true
    · rw [if_pos h]
      have ih := restored_loop k sh pr d kind f hk hd1 hd2 R hR hRl0 y0 y1 y3 z0 z1 z2 r (i + 1) (x ++ [addI .i64 n (toldS kind k sh f x)]) hr.2 hi' (by simp; omega) (by simp; omega)
      exact lfp_step ih fun g hg => by rw [body, if_pos h, hg]
    · rw [if_neg h]
      exact lfp_base fun g => by rw [body, if_neg h]

theorem restored_eq {k sh pr d kind : Nat} {f : List Int} (hk : kind = 2 ∧ k ≤ 4 ∨ kind = 3 ∧ k = f.length ∧ sh ≤ 62 ∧ f_lpc_Check ((sh : Int), ((pr : Int), (f, ()))) = some 0)
    (hd1 : 1 ≤ d) (hd2 : d ≤ 62) {R : List Int} (hR : ∀ n ∈ R, I64 n) (y0 y1 : Int) (p : e4) (x : List Int) (hx : x.length = k) (hl : x.length + R.length ≤ 1073741824) :
    f_subframe_restored (x, R, ((kind : Int), (y0, (y1, (((sh : Int), ((pr : Int), (f, ()))), (p, ()))))), (d : Int)) = some (match restS kind k sh d f R x with
      | .inl er => ([], er)
      | .inr x' => (x', 0)) := by
  unfold f_subframe_restored F_subframe_restored
  dsimp only
  rw [clone_eq (by omega)]
  have h := restored_loop k sh pr d kind f hk hd1 hd2 R hR (by omega) y0 y1 0 p.1 p.2.1 p.2.2.1 R 0 x rfl (by omega) (by omega) hl
  rw [Int.natCast_zero] at h
  simp only [Option.bind_some]
  rw [hx, h]
  rcases restS kind k sh d f R x with er | x' <;> rfl
end Go.Pv.Try
