/- The program's subframe. -/
import Derived.Test.YtcdobfeeabhkeaaTkPm
set_option autoImplicit false
set_option linter.unusedVariables false
set_option linter.unusedSimpArgs false
namespace Go.Pv.Try
open Go Go.Pv

theorem kindS_ok {n K k : Nat} (hn : n < 64) (h : kindS n = some (K, k)) : (K = 0 ∨ K = 1) ∧ k = 0 ∨ K = 2 ∧ k ≤ 4 ∨ K = 3 ∧ 1 ≤ k ∧ k ≤ 32 := by
  unfold kindS at h
  split at h
  · cases h; omega
  · split at h
    · cases h; omega
    · split at h
      · cases h; omega
      · cases h

theorem begS_ok {b : List Int} {a : Nat} {blk : Int} {depth K w k a' : Nat} (ha : a ≤ 8 * b.length) (hd : 1 ≤ depth) (h : begS b a blk depth = .inr (K, w, k, a')) :
    ((K = 0 ∨ K = 1) ∧ k = 0 ∨ K = 2 ∧ k ≤ 4 ∨ K = 3 ∧ 1 ≤ k ∧ k ≤ 32) ∧ w < depth ∧ (k : Int) < blk ∧ a' ≤ 8 * b.length := by
  unfold begS at h
  split at h
  · cases h
  · split at h
    · cases h
    · split at h
      · cases h
      · split at h
        · cases h
        · rename_i hk
          split at h
          · cases h
          · rename_i hw
            split at h
            · cases h
            · split at h
              · cases h
              · cases h
                have h1 := wasteS_le (rt_le (rt_le (rt_le ha))) (by omega) hw
                have h2 := rt_lt (b := b) (a := (rt b a 0 1).2.1) (e := 0) (w := 6)
                exact ⟨kindS_ok h2 hk, h1.2, by omega, h1.1⟩
theorem begS_err {b : List Int} {a : Nat} {blk : Int} {depth : Nat} {er : Int} (h : begS b a blk depth = .inl er) : er ≠ 0 := by
  unfold begS at h
  split at h
  · cases h; assumption
  · split at h
    · cases h; decide
    · split at h
      · cases h; assumption
      · split at h
        · cases h; decide
        · split at h
          · cases h; decide
          · split at h
            · cases h; assumption
            · split at h
              · cases h; decide
              · cases h
theorem linS_ok {b : List Int} {a k sh pr : Nat} {l : List Int} {a' : Nat} (ha : a ≤ 8 * b.length) (h : linS b a k = .inr (sh, pr, l, a')) :
    sh ≤ 15 ∧ 1 ≤ pr ∧ pr ≤ 15 ∧ l.length = k ∧ (∀ v ∈ l, inS pr v = true) ∧ a' ≤ 8 * b.length := by
  unfold linS at h
  split at h
  · cases h
  · split at h
    · cases h
    · split at h
      · cases h
      · split at h
        · cases h
        · split at h
          · cases h
          · rename_i hr
            cases h
            have h2 := rt_lt (b := b) (a := a) (e := 0) (w := 4)
            have h3 : 2 ^ held 4 = 16 := rfl
            have := sgnsS_len (by omega) (by omega) (rt_le (rt_le ha)) hr
            exact ⟨by omega, by omega, by omega, this.1, this.2.2, this.2.1⟩
theorem linS_err {b : List Int} {a k : Nat} {er : Int} (h : linS b a k = .inl er) : er ≠ 0 := by
  unfold linS at h
  split at h
  · cases h; assumption
  · split at h
    · cases h; decide
    · split at h
      · cases h; assumption
      · split at h
        · cases h; decide
        · split at h
          · rename_i hr; cases h; exact sgnsS_err hr
          · cases h
theorem numsS_rng (b : List Int) (K : Nat) (raw : Bool) : ∀ n a e l a', numsS b K raw n a e = .inr (l, a') → ∀ v ∈ l, -2147483648 < v ∧ v < 2147483648
  | 0, a, e, l, a', h => by unfold numsS at h; cases h; exact fun v hv => by cases hv
  | n + 1, a, e, l, a', h => by
    unfold numsS at h
    split at h
    · cases h
    · split at h
      · cases h
      · split at h
        · cases h
        · rename_i hr
          cases h
          intro v hv
          rcases List.mem_cons.mp hv with rfl | hv
          · omega
          · exact numsS_rng b K raw n _ _ _ _ hr v hv
theorem partsS_rng (b : List Int) (wide : Bool) : ∀ D a ps ls a', partsS b wide D a = .inr (ps, ls, a') → ∀ v ∈ ls, -2147483648 < v ∧ v < 2147483648
  | [], a, ps, ls, a', h => by unfold partsS at h; cases h; exact fun v hv => by cases hv
  | c :: D, a, ps, ls, a', h => by
    unfold partsS at h
    split at h
    · cases h
    · rename_i hr
      split at h
      · cases h
      · rename_i hr2
        cases h
        intro v hv
        rcases List.mem_append.mp hv with hv | hv
        · exact numsS_rng b _ _ _ _ _ _ _ hr v hv
        · exact partsS_rng b wide D _ _ _ _ hr2 v hv
theorem sectS_rng {b : List Int} {a : Nat} {block order : Int} {ls : List Int} {p : e4} {a' : Nat} (h : sectS b a block order = .inr (ls, p, a')) : ∀ v ∈ ls, -2147483648 < v ∧ v < 2147483648 := by
  unfold sectS at h
  split at h
  · cases h
  · split at h
    · cases h
    · split at h
      · cases h
      · split at h
        · cases h
        · split at h
          · cases h
          · split at h
            · cases h
            · rename_i hr
              cases h
              exact partsS_rng b _ _ _ _ _ _ hr
theorem restS_err {kind k sh d : Nat} {f : List Int} : ∀ {r x : List Int} {er : Int}, restS kind k sh d f r x = .inl er → er = 6
  | [], x, er, h => by unfold restS at h; cases h
  | n :: r, x, er, h => by
    unfold restS at h
    split at h
    · exact restS_err h
    · cases h; rfl
theorem restS_len {kind k sh d : Nat} {f : List Int} : ∀ {r x x' : List Int}, restS kind k sh d f r x = .inr x' → x'.length = x.length + r.length
  | [], x, x', h => by unfold restS at h; cases h; rfl
  | n :: r, x, x', h => by
    unfold restS at h
    split at h
    · rw [restS_len h]; simp; omega
    · cases h

theorem many_eq {K : Nat} (hK : K ≤ 3) (blk k : Nat) : Option.getD (lookM (K : Int) (setM 3 (k : Int) (setM 2 (k : Int) (setM 1 (blk : Int) (setM 0 1 ([] : List (Int × Int))))))) 0 = ((if K = 0 then 1 else if K = 1 then blk else k : Nat) : Int) := by
  rcases (by omega : K = 0 ∨ K = 1 ∨ K = 2 ∨ K = 3) with rfl | rfl | rfl | rfl <;> rfl

theorem take_bad (b : List Int) (a : Int) (e blk depth : Int) (h : depth < 4 ∨ depth > 33 ∨ blk < 1 ∨ blk > 65535) : f_subframe_Take (b, a, e, blk, depth) = some ([], none9, 1, b, a, e) := by
  unfold f_subframe_Take F_subframe_Take
  dsimp only
  by_cases h1 : depth < 4
  · simp [h1]
  by_cases h2 : depth > 33
  · simp [h1, h2]
  by_cases h3 : blk < 1
  · simp [h1, h2, h3]
  have h4 : blk > 65535 := by omega
  simp [h1, h2, h3, h4]

theorem stake (b : List Int) (hb : Bytes b) (a : Nat) (ha : a ≤ 8 * b.length) (blk depth : Nat) (hd1 : 4 ≤ depth) (hd2 : depth ≤ 33) (hb1 : 1 ≤ blk) (hb2 : blk ≤ 65535) :
    match takeS b a blk depth with
    | .inl er => ∃ a' e' : Int, f_subframe_Take (b, (a : Int), 0, (blk : Int), (depth : Int)) = some ([], none9, er, b, a', e')
    | .inr (x, s, a') => f_subframe_Take (b, (a : Int), 0, (blk : Int), (depth : Int)) = some (x, s, 0, b, (a' : Int), 0) := by
  unfold f_subframe_Take F_subframe_Take takeS
  dsimp only
  rw [decide_eq_false (show ¬ (depth : Int) < 4 by omega), decide_eq_false (show ¬ (depth : Int) > 33 by omega), decide_eq_false (show ¬ (blk : Int) < 1 by omega), decide_eq_false (show ¬ (blk : Int) > 65535 by omega)]
  simp only [Bool.false_eq_true, if_false, Option.bind_some]
  have hbeg := beg_eq b hb a ha (blk : Int) depth (by omega) (by omega)
  rcases hB : begS b a (blk : Int) depth with er | ⟨K, w, k, a1⟩
  · rw [hB] at hbeg
    obtain ⟨h1, s, k, a', e', ho⟩ := hbeg
    rw [ho]
    have hne : (er != 0) = true := by rw [bne_iff_ne]; exact h1
    simp only [Option.bind_some, hne, if_true]
    exact ⟨_, _, rfl⟩
  · rw [hB] at hbeg
    dsimp only at hbeg ⊢
    obtain ⟨hK, hw, hkb, ha1⟩ := begS_ok ha (by omega) hB
    rw [hbeg]
    simp only [Option.bind_some, bne_self_eq_false, Bool.false_eq_true, if_false]
    rw [many_eq (by omega) blk k, sub64 (by omega) (by omega), show ((depth : Int) - (w : Int)) = ((depth - w : Nat) : Int) by omega]
    have hn := numbers_eq b hb (depth - w) (if K = 0 then 1 else if K = 1 then blk else k) (by omega) (by omega) (by split <;> (try split) <;> omega) a1 ha1
    rcases hS : sgnsS b (depth - w) (if K = 0 then 1 else if K = 1 then blk else k) a1 with er | ⟨x, a2⟩
    · rw [hS] at hn
      obtain ⟨a', ho⟩ := hn
      rw [ho]
      have hne : (er != 0) = true := by rw [bne_iff_ne]; exact sgnsS_err hS
      simp only [Option.bind_some, fail_eq, hne, if_true]
      exact ⟨_, _, rfl⟩
    · rw [hS] at hn
      dsimp only at hn ⊢
      obtain ⟨hx1, ha2, hx2⟩ := sgnsS_len (by omega) (by omega) ha1 hS
      rw [hn]
      simp only [Option.bind_some, fail_eq, bne_self_eq_false, Bool.false_eq_true, if_false]
      rcases (by omega : K = 0 ∨ K = 1 ∨ K = 2 ∨ K = 3) with rfl | rfl | rfl | rfl
      · rw [if_pos rfl]
        rw [if_pos rfl] at hx1
        obtain ⟨v, rfl⟩ : ∃ v, x = [v] := by
          match x, hx1 with
          | [v], _ => exact ⟨v, rfl⟩
        simp only [show ((0 : Nat) : Int) = 0 from rfl, beq_self_eq_true, if_true, Option.bind_some, repeat_eq v blk hb1 (by omega)]
        have hu := up_loop b (a2 : Int) 0 0 0 0 0 0 [] false 0 [] 0 0 0 0 [] false 0 [] w (by omega) blk 0 (List.replicate blk v) (by simp) (by simp; omega)
        rw [Int.natCast_zero] at hu
        rw [hu]
        rfl
      · rw [if_neg (by decide), if_pos rfl]
        rw [if_neg (by decide), if_pos rfl] at hx1
        simp only [show ((1 : Nat) : Int) = 1 from rfl, show ((1 : Int) == 0) = false from rfl, show ((1 : Int) == 3) = false from rfl, show ((1 : Int) == 2) = false from rfl, Bool.false_eq_true, if_false, Option.bind_some]
        have hu := up_loop b (a2 : Int) 0 0 0 0 0 0 [] false 0 [] 1 0 0 0 [] false 0 [] w (by omega) x.length 0 x (by simp) (by omega)
        rw [Int.natCast_zero] at hu
        rw [hu]
        rfl
      · rw [if_neg (by decide), if_neg (by decide), if_pos rfl]
        rw [if_neg (by decide), if_neg (by decide)] at hx1
        simp only [show ((2 : Nat) : Int) = 2 from rfl, show ((2 : Int) == 0) = false from rfl, show ((2 : Int) == 3) = false from rfl, beq_self_eq_true, if_true, Bool.false_eq_true, if_false, Option.bind_some]
        have hs := ssect b hb a2 ha2 (blk : Int) (k : Int)
        rcases hS2 : sectS b a2 (blk : Int) (k : Int) with er | ⟨r, p, a3⟩
        · rw [hS2] at hs
          obtain ⟨a', e', ho⟩ := hs
          rw [ho]
          have hne : (er != 0) = true := by rw [bne_iff_ne]; exact sectS_err hS2
          simp only [Option.bind_some, hne, if_true]
          exact ⟨_, _, rfl⟩
        · rw [hS2] at hs
          dsimp only at hs ⊢
          obtain ⟨hr1, ha3⟩ := sectS_len ha2 hS2
          have hr2 := sectS_rng hS2
          rw [hs]
          simp only [Option.bind_some, bne_self_eq_false, Bool.false_eq_true, if_false]
          have hres := restored_eq (k := k) (sh := 0) (pr := 0) (d := depth - w) (kind := 2) (f := []) (.inl ⟨rfl, by omega⟩) (by omega) (by omega) (R := r) (fun n hn => by have := hr2 n hn; unfold I64; omega) (w : Int) (k : Int) p x hx1 (by omega)
          rw [show (p.1, p.2.1, p.2.2.1, ()) = p from rfl]
          rw [show ((2 : Nat) : Int) = 2 from rfl, show ((0 : Nat) : Int) = 0 from rfl] at hres
          rw [hres]
          rcases hR : restS 2 k 0 (depth - w) [] r x with er | x'
          · have hne : (er != 0) = true := by rw [bne_iff_ne, restS_err hR]; decide
            simp only [Option.bind_some, hne, if_true]
            exact ⟨_, _, rfl⟩
          · simp only [Option.bind_some, bne_self_eq_false, Bool.false_eq_true, if_false]
            have hlen := restS_len hR
            have hu := up_loop b (a3 : Int) 0 0 0 0 0 0 [] false 0 [] 2 (k : Int) 0 0 [] p.1 p.2.1 p.2.2.1 w (by omega) x'.length 0 x' (by simp) (by omega)
            rw [Int.natCast_zero] at hu
            rw [hu]
            rfl
      · rw [if_neg (by decide), if_neg (by decide), if_neg (by decide)]
        rw [if_neg (by decide), if_neg (by decide)] at hx1
        simp only [show ((3 : Nat) : Int) = 3 from rfl, show ((3 : Int) == 0) = false from rfl, show ((3 : Int) == 2) = false from rfl, beq_self_eq_true, if_true, Bool.false_eq_true, if_false, Option.bind_some]
        have hlin := linear_eq b hb a2 ha2 k (by omega) (by omega)
        rcases hL : linS b a2 k with er | ⟨sh, pr, f, a3⟩
        · rw [hL] at hlin
          obtain ⟨h1, s, a', e', ho⟩ := hlin
          rw [ho]
          have hne : (er != 0) = true := by rw [bne_iff_ne]; exact h1
          simp only [Option.bind_some, hne, if_true]
          exact ⟨_, _, rfl⟩
        · rw [hL] at hlin
          dsimp only at hlin ⊢
          obtain ⟨l1, l2, l3, l4, l5, ha3⟩ := linS_ok ha2 hL
          rw [hlin]
          simp only [Option.bind_some, bne_self_eq_false, Bool.false_eq_true, if_false, show ((3 : Int) == 2) = false from rfl]
          have hs := ssect b hb a3 ha3 (blk : Int) (k : Int)
          rcases hS2 : sectS b a3 (blk : Int) (k : Int) with er | ⟨r, p, a4⟩
          · rw [hS2] at hs
            obtain ⟨a', e', ho⟩ := hs
            rw [ho]
            have hne : (er != 0) = true := by rw [bne_iff_ne]; exact sectS_err hS2
            simp only [Option.bind_some, hne, if_true]
            exact ⟨_, _, rfl⟩
          · rw [hS2] at hs
            dsimp only at hs ⊢
            obtain ⟨hr1, ha4⟩ := sectS_len ha3 hS2
            have hr2 := sectS_rng hS2
            rw [hs]
            simp only [Option.bind_some, bne_self_eq_false, Bool.false_eq_true, if_false]
            have hres := restored_eq (k := k) (sh := sh) (pr := pr) (d := depth - w) (kind := 3) (f := f) (.inr ⟨rfl, by omega, by omega, check_ok (by omega) (by omega) (by omega) (by omega) (by omega) l5⟩) (by omega) (by omega) (R := r) (fun n hn => by have := hr2 n hn; unfold I64; omega) (w : Int) 0 p x hx1 (by omega)
            rw [show (p.1, p.2.1, p.2.2.1, ()) = p from rfl]
            rw [show ((3 : Nat) : Int) = 3 from rfl] at hres
            rw [hres]
            rcases hR : restS 3 k sh (depth - w) f r x with er | x'
            · have hne : (er != 0) = true := by rw [bne_iff_ne, restS_err hR]; decide
              simp only [Option.bind_some, hne, if_true]
              exact ⟨_, _, rfl⟩
            · simp only [Option.bind_some, bne_self_eq_false, Bool.false_eq_true, if_false]
              have hlen := restS_len hR
              have hu := up_loop b (a4 : Int) 0 0 0 0 0 0 [] false 0 [] 3 0 (sh : Int) (pr : Int) f p.1 p.2.1 p.2.2.1 w (by omega) x'.length 0 x' (by simp) (by omega)
              rw [Int.natCast_zero] at hu
              rw [hu]
              rfl
end Go.Pv.Try
