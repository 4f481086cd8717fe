/- A section. -/
import Derived.Test.YtcdobfeeabhkeaaTkPg
set_option autoImplicit false
set_option linter.unusedVariables false
set_option linter.unusedSimpArgs false
namespace Go.Pv.Try
open Go Go.Pv

theorem sum_rep (m s : Nat) : (List.replicate m s).sum = m * s := by
  induction m with
  | zero => simp
  | succ m ih => rw [List.replicate_succ, List.sum_cons, ih, Nat.succ_mul, Nat.add_comm]

theorem cutsS_nat {n k o : Int} : ∃ C : List Nat, cutsS n k o = C.map (fun n : Nat => (n : Int)) ∧ (∀ c ∈ C, 1 ≤ c) ∧ (C ≠ [] → (C.sum : Int) = n) ∧ C.length ≤ 32768 := by
  unfold cutsS
  split
  · exact ⟨[], rfl, (fun c h => by cases h), fun h => absurd rfl h, by simp⟩
  · rename_i h1
    split
    · exact ⟨[], rfl, (fun c h => by cases h), fun h => absurd rfl h, by simp⟩
    · rename_i h2
      obtain ⟨j, rfl⟩ : ∃ j : Nat, o = j := ⟨o.toNat, by omega⟩
      simp only [Int.toNat_natCast] at h2 ⊢
      have hp1 := pow_pos j
      have hp2 := pow_le (m := j) (n := 15) (by omega)
      have e2 : (2 : Int) ^ j = ((2 ^ j : Nat) : Int) := by push_cast; rfl
      have hdm := Int.mul_ediv_add_emod (n + k) (2 ^ j)
      have hmod : (n + k) % 2 ^ j = 0 := by
        rcases Classical.em ((n + k) % 2 ^ j = 0) with h | h
        · exact h
        · exact absurd (.inl h) h2
      have hgt : ¬ (n + k) / 2 ^ j ≤ k := fun h => h2 (.inr h)
      obtain ⟨s, hs⟩ : ∃ s : Nat, (n + k) / 2 ^ j = s := ⟨((n + k) / 2 ^ j).toNat, by omega⟩
      obtain ⟨k', rfl⟩ : ∃ k' : Nat, k = k' := ⟨k.toNat, by omega⟩
      rw [hs] at hgt hdm ⊢
      refine ⟨(s - k') :: List.replicate (2 ^ j - 1) s, ?_, ?_, ?_, ?_⟩
      · simp only [List.map_cons, List.map_replicate]
        congr 1
        omega
      · intro c hc
        rcases List.mem_cons.mp hc with rfl | hc
        · omega
        · have := List.eq_of_mem_replicate hc
          omega
      · intro _
        rw [List.sum_cons, sum_rep]
        have hj : 1 ≤ 2 ^ j := Nat.one_le_two_pow
        have h3 : (2 ^ j - 1) * s + s = 2 ^ j * s := by
          rw [← Nat.succ_mul]; congr 1; omega
        have h4 : ((2 ^ j * s : Nat) : Int) = 2 ^ j * (s : Int) := by push_cast; rfl
        omega
      · simp only [List.length_cons, List.length_replicate]
        have : 2 ^ j ≤ 2 ^ 15 := Nat.pow_le_pow_right (by decide) (by omega)
        omega

/-- a section -/
def sectS (b : List Int) (a : Nat) (block order : Int) : Int ⊕ (List Int × e4 × Nat) :=
  if order < 0 ∨ order > 32 ∨ block ≤ order ∨ block > 65535 then .inl 1
  else if (rt b a 0 2).2.2 ≠ 0 then .inl (rt b a 0 2).2.2
  else if (rt b a 0 2).1 > 1 then .inl 8
  else if (rt b (rt b a 0 2).2.1 0 4).2.2 ≠ 0 then .inl (rt b (rt b a 0 2).2.1 0 4).2.2
  else match cutsS (block - order) order (rt b (rt b a 0 2).2.1 0 4).1 with
    | [] => .inl 5
    | c :: cs => match partsS b ((rt b a 0 2).1 == 1) ((c :: cs).map Int.toNat) (rt b (rt b a 0 2).2.1 0 4).2.1 with
      | .inl er => .inl er
      | .inr (ps, ls, a') => .inr (ls, ((rt b a 0 2).1 == 1, (((rt b (rt b a 0 2).2.1 0 4).1 : Int), (ps, ()))), a')

theorem toNat_cast (C : List Nat) : (C.map (fun n : Nat => (n : Int))).map Int.toNat = C := by
  rw [List.map_map]
  have : (Int.toNat ∘ fun n : Nat => (n : Int)) = id := funext fun n => Int.toNat_natCast n
  rw [this, List.map_id]

theorem numsS_err (b : List Int) (K : Nat) (raw : Bool) : ∀ n a e er, numsS b K raw n a e = .inl er → er ≠ 0
  | 0, a, e, er, h => by unfold numsS at h; cases h
  | n + 1, a, e, er, h => by
    unfold numsS at h
    split at h
    · cases h; assumption
    · split at h
      · cases h; decide
      · split at h
        · cases h; rename_i hr; exact numsS_err b K raw n _ _ _ hr
        · cases h
theorem partsS_err (b : List Int) (wide : Bool) : ∀ D a er, partsS b wide D a = .inl er → er ≠ 0
  | [], a, er, h => by unfold partsS at h; cases h
  | c :: D, a, er, h => by
    unfold partsS at h
    split at h
    · cases h; rename_i hr; exact numsS_err b _ _ _ _ _ _ hr
    · split at h
      · cases h; rename_i hr; exact partsS_err b wide D _ _ hr
      · cases h
theorem partsS_len (b : List Int) (wide : Bool) : ∀ D a ps ls a', a ≤ 8 * b.length → partsS b wide D a = .inr (ps, ls, a') → ls.length = D.sum ∧ ps.length = D.length ∧ a' ≤ 8 * b.length
  | [], a, ps, ls, a', ha, h => by unfold partsS at h; cases h; exact ⟨rfl, rfl, ha⟩
  | c :: D, a, ps, ls, a', ha, h => by
    unfold partsS at h
    split at h
    · cases h
    · rename_i hr
      have h1 := numsS_len b _ _ _ _ _ _ _ (partS_le ha).1 hr
      split at h
      · cases h
      · cases h
        rename_i hr2
        have h2 := partsS_len b wide D _ _ _ _ h1.2 hr2
        exact ⟨by rw [List.length_append, List.sum_cons, h1.1, h2.1], by simp [h2.2.1], h2.2.2⟩

theorem sectS_err {b : List Int} {a : Nat} {block order er : Int} (h : sectS b a block order = .inl er) : er ≠ 0 := by
  unfold sectS at h
  split at h
  · cases h; decide
  · split at h
    · cases h; assumption
    · split at h
      · cases h; decide
      · split at h
        · cases h; assumption
        · split at h
          · cases h; decide
          · split at h
            · cases h; rename_i hr; exact partsS_err _ _ _ _ _ hr
            · cases h
theorem sectS_len {b : List Int} {a : Nat} {block order : Int} {ls : List Int} {p : e4} {a' : Nat} (ha : a ≤ 8 * b.length) (h : sectS b a block order = .inr (ls, p, a')) : (ls.length : Int) = block - order ∧ a' ≤ 8 * b.length := by
  unfold sectS at h
  split at h
  · cases h
  · split at h
    · cases h
    · split at h
      · cases h
      · split at h
        · cases h
        · split at h
          · cases h
          · rename_i hc
            split at h
            · cases h
            · rename_i hr
              cases h
              obtain ⟨C, hC, _, hs, _⟩ := cutsS_nat (n := block - order) (k := order) (o := (rt b (rt b a 0 2).2.1 0 4).1)
              rw [← hc, hC, toNat_cast] at hr
              have h2 := partsS_len b _ _ _ _ _ _ (rt_le (rt_le ha)) hr
              rw [h2.1, hs (by rintro rfl; rw [hC] at hc; cases hc)]
              exact ⟨rfl, h2.2.2⟩

theorem ssect (b : List Int) (hb : Bytes b) (a : Nat) (ha : a ≤ 8 * b.length) (block order : Int) :
    match sectS b a block order with
    | .inl er => ∃ a' e' : Int, f_section_Take (b, (a : Int), 0, block, order) = some ([], (false, (0, ([], ()))), er, b, a', e')
    | .inr (ls, p, a') => f_section_Take (b, (a : Int), 0, block, order) = some (ls, p, 0, b, (a' : Int), 0) := by
  unfold f_section_Take F_section_Take sectS
  dsimp only
  by_cases h1 : order < 0
  · simp [h1]
  by_cases h2 : order > 32
  · simp [h1, h2]
  by_cases h3 : block ≤ order
  · simp [h1, h2, h3]
  by_cases h4 : block > 65535
  · simp [h1, h2, h3, h4]
  rw [if_neg (by omega)]
  simp only [h1, h2, h3, h4, decide_false, Bool.false_eq_true, if_false, Option.bind_some, take_eq b hb a ha, fail_eq]
  have hle := rt_le (b := b) (a := a) (e := 0) (w := 2) ha
  have hlt := rt_lt (b := b) (a := a) (e := 0) (w := 2)
  have hlt2 : 2 ^ held 2 = 4 := rfl
  rcases ht : rt b a 0 2 with ⟨v, a1, e1⟩
  rw [ht] at hle hlt
  dsimp only at hle hlt ⊢
  by_cases he : e1 = 0
  · subst he
    rw [if_neg (by simp)]
    simp only [beq_self_eq_true, if_true, Option.bind_some]
    by_cases hv : v > 1
    · rw [if_pos hv]
      have : decide ((v : Int) > 1) = true := by rw [decide_eq_true_iff]; omega
      simp only [this, if_true]
      exact ⟨_, _, rfl⟩
    · rw [if_neg hv]
      have : decide ((v : Int) > 1) = false := by rw [decide_eq_false_iff_not]; omega
      simp only [this, Bool.false_eq_true, if_false, take_eq b hb a1 hle, Option.bind_some, fail_eq]
      have hle := rt_le (b := b) (a := a1) (e := 0) (w := 4) hle
      have hlt := rt_lt (b := b) (a := a1) (e := 0) (w := 4)
      have hlt2 : 2 ^ held 4 = 16 := rfl
      rcases ht : rt b a1 0 4 with ⟨u, a2, e2⟩
      rw [ht] at hle hlt
      dsimp only at hle hlt ⊢
      by_cases he : e2 = 0
      · subst he
        rw [if_neg (by simp)]
        simp only [bne_self_eq_false, Bool.false_eq_true, if_false]
        rw [w64 (by omega) (by omega), sub64 (by omega) (by omega), pcuts_eq (by omega)]
        simp only [Option.bind_some]
        obtain ⟨C, hC, hC1, hC2, hC3⟩ := cutsS_nat (n := block - order) (k := order) (o := (u : Int))
        rw [hC]
        cases C with
        | nil => exact ⟨_, _, rfl⟩
        | cons c D =>
          have hC2 := hC2 (by simp)
          have hp := sparts b hb ((v : Int) == 1) 0 (u : Int) false [] ((c :: D).map (fun n : Nat => (n : Int))) (by simp at hC3 ⊢; omega) (c :: D) 0 a2 [] [] rfl hC1 hle (by omega) rfl (by rw [List.length_nil]; omega)
          have hz : ((((c :: D).map (fun n : Nat => (n : Int))).length : Int) == 0) = false := by rw [beq_eq_false_iff_ne]; simp; omega
          rw [hz]
          simp only [Bool.false_eq_true, if_false]
          rw [Int.natCast_zero] at hp
          have hbv : (v == 1) = ((v : Int) == 1) := by rw [Bool.eq_iff_iff, beq_iff_eq, beq_iff_eq]; omega
          rw [List.map_cons] at hp
          rw [hbv, List.map_cons]
          dsimp only
          rw [show List.map Int.toNat ((c : Int) :: D.map (fun n : Nat => (n : Int))) = c :: D from toNat_cast (c :: D)]
          rcases hr : partsS b ((v : Int) == 1) (c :: D) a2 with er | ⟨ps, ls, a'⟩
          · rw [hr] at hp
            obtain ⟨a', e', ho⟩ := hp
            exact ⟨a', e', by rw [ho]; rfl⟩
          · rw [hr] at hp
            dsimp only at hp ⊢
            rw [hp]
            rfl
      · rw [if_pos he]
        have hb2 : (e2 != 0) = true := by rw [bne_iff_ne]; exact he
        simp only [hb2, if_true]
        exact ⟨_, _, rfl⟩
  · rw [if_pos he]
    have hb1 : (e1 == 0) = false := by rw [beq_eq_false_iff_ne]; exact he
    have hb2 : (e1 != 0) = true := by rw [bne_iff_ne]; exact he
    simp only [hb1, hb2, Bool.false_eq_true, if_false, if_true, Option.bind_some, take_eq b hb a1 hle, fail_eq, rt_bad he]
    exact ⟨_, _, rfl⟩

theorem rsect (b : List Int) (hb : Bytes b) (a : Nat) (ha : a ≤ 8 * b.length) (block order : Int) :
    match sectS b a block order with
    | .inl er => ∃ a' e' : Int, f_ref15_Take (bitsL b, (a : Int), 0, block, order) = some ([], (false, (0, ([], ()))), er, bitsL b, a', e')
    | .inr (ls, p, a') => f_ref15_Take (bitsL b, (a : Int), 0, block, order) = some (ls, p, 0, bitsL b, (a' : Int), 0) := by
  unfold f_ref15_Take F_ref15_Take sectS
  dsimp only
  by_cases h1 : order < 0
  · simp [h1]
  by_cases h2 : order > 32
  · simp [h1, h2]
  by_cases h5 : block < 1
  · have : block ≤ order := by omega
    simp [h1, h2, this, h5]
  by_cases h4 : block > 65535
  · simp [h1, h2, h4, h5]
  by_cases h3 : block ≤ order
  · simp [h1, h2, h3, h4, h5]
  rw [if_neg (by omega)]
  simp only [h1, h2, h3, h4, h5, decide_false, Bool.false_eq_true, if_false, Option.bind_some, rtake_eq b hb a ha]
  have hle := rt_le (b := b) (a := a) (e := 0) (w := 2) ha
  have hlt := rt_lt (b := b) (a := a) (e := 0) (w := 2)
  have hlt2 : 2 ^ held 2 = 4 := rfl
  rcases ht : rt b a 0 2 with ⟨v, a1, e1⟩
  rw [ht] at hle hlt
  dsimp only at hle hlt ⊢
  by_cases he : e1 = 0
  · subst he
    rw [if_neg (by simp)]
    simp only [bne_self_eq_false, Bool.false_eq_true, if_false]
    by_cases hv : v > 1
    · rw [if_pos hv]
      have : decide ((v : Int) > 1) = true := by rw [decide_eq_true_iff]; omega
      simp only [this, if_true]
      exact ⟨_, _, rfl⟩
    · rw [if_neg hv]
      have : decide ((v : Int) > 1) = false := by rw [decide_eq_false_iff_not]; omega
      simp only [this, Bool.false_eq_true, if_false, rtake_eq b hb a1 hle, Option.bind_some]
      have hle := rt_le (b := b) (a := a1) (e := 0) (w := 4) hle
      have hlt := rt_lt (b := b) (a := a1) (e := 0) (w := 4)
      have hlt2 : 2 ^ held 4 = 16 := rfl
      rcases ht : rt b a1 0 4 with ⟨u, a2, e2⟩
      rw [ht] at hle hlt
      dsimp only at hle hlt ⊢
      by_cases he : e2 = 0
      · subst he
        rw [if_neg (by simp)]
        simp only [bne_self_eq_false, Bool.false_eq_true, if_false]
        rw [w64 (by omega) (by omega), sub64 (by omega) (by omega), rcuts_eq (by omega)]
        simp only [Option.bind_some]
        obtain ⟨C, hC, hC1, hC2, hC3⟩ := cutsS_nat (n := block - order) (k := order) (o := (u : Int))
        rw [hC]
        cases C with
        | nil => exact ⟨_, _, rfl⟩
        | cons c D =>
          have hC2 := hC2 (by simp)
          obtain ⟨blk, rfl⟩ : ∃ n : Nat, block = n := ⟨block.toNat, by omega⟩
          obtain ⟨ord, rfl⟩ : ∃ n : Nat, order = n := ⟨order.toNat, by omega⟩
          have hp := rparts b hb ((v : Int) == 1) blk ord (by omega) (by omega) false false 0 0 (u : Int) [] [] (c :: D) ((c :: D).map (fun n : Nat => (n : Int))) 0 a2 [] [] rfl hC1 hle (by omega) (by simp at hC3 ⊢; omega) rfl (by rw [List.length_nil]; omega)
          have hz : ((((c :: D).map (fun n : Nat => (n : Int))).length : Int) == 0) = false := by rw [beq_eq_false_iff_ne]; simp; omega
          rw [hz]
          simp only [Bool.false_eq_true, if_false]
          rw [Int.natCast_zero] at hp
          have hbv : (v == 1) = ((v : Int) == 1) := by rw [Bool.eq_iff_iff, beq_iff_eq, beq_iff_eq]; omega
          rw [List.map_cons] at hp
          rw [hbv, List.map_cons]
          dsimp only
          rw [show List.map Int.toNat ((c : Int) :: D.map (fun n : Nat => (n : Int))) = c :: D from toNat_cast (c :: D)]
          have hsz : ∀ {β : Type} (f : Int → Option β), (if ((v : Int) == 1) = true then f 5 else f 4) = f (sizeN ((v : Int) == 1) : Int) := by
            intro β f
            unfold sizeN
            cases ((v : Int) == 1) <;> rfl
          rw [hsz (fun x => some ((blk : Int), (ord : Int), x, _))]
          simp only [Option.bind_some]
          rcases hr : partsS b ((v : Int) == 1) (c :: D) a2 with er | ⟨ps, ls, a'⟩
          · rw [hr] at hp
            obtain ⟨a', e', ho⟩ := hp
            exact ⟨a', e', by rw [ho]; rfl⟩
          · rw [hr] at hp
            dsimp only at hp ⊢
            rw [hp]
            rfl
      · rw [if_pos he]
        have hb2 : (e2 != 0) = true := by rw [bne_iff_ne]; exact he
        simp only [hb2, if_true]
        exact ⟨_, _, rfl⟩
  · rw [if_pos he]
    have hb2 : (e1 != 0) = true := by rw [bne_iff_ne]; exact he
    simp only [hb2, if_true]
    exact ⟨_, _, rfl⟩
end Go.Pv.Try
