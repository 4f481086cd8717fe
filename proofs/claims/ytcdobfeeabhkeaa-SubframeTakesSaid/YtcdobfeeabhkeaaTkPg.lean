/- Parts of a section. -/
import Derived.Test.YtcdobfeeabhkeaaTkPf
set_option autoImplicit false
set_option linter.unusedVariables false
set_option linter.unusedSimpArgs false
namespace Go.Pv.Try
open Go Go.Pv

def sizeN (wide : Bool) : Nat := if wide = true then 5 else 4
/-- a part's head -/
def partS (b : List Int) (wide : Bool) (a : Nat) : Nat × Bool × Nat × Int :=
  if (rt b a 0 (sizeN wide)).1 = 2 ^ sizeN wide - 1 then
    ((rt b (rt b a 0 (sizeN wide)).2.1 (rt b a 0 (sizeN wide)).2.2 5).1, true, (rt b (rt b a 0 (sizeN wide)).2.1 (rt b a 0 (sizeN wide)).2.2 5).2)
  else ((rt b a 0 (sizeN wide)).1, false, (rt b a 0 (sizeN wide)).2)

theorem partS_le {b : List Int} {wide : Bool} {a : Nat} (h : a ≤ 8 * b.length) : (partS b wide a).2.2.1 ≤ 8 * b.length ∧ (partS b wide a).1 < 32 := by
  have h1 := rt_le (b := b) (a := a) (e := 0) (w := sizeN wide) h
  have h2 := rt_lt (b := b) (a := a) (e := 0) (w := sizeN wide)
  unfold partS
  split
  · exact ⟨rt_le h1, rt_lt⟩
  · refine ⟨h1, ?_⟩
    have : 2 ^ held (sizeN wide : Int) ≤ 32 := by cases wide <;> decide
    dsimp only
    omega

theorem spart (b : List Int) (hb : Bytes b) (a : Nat) (ha : a ≤ 8 * b.length) (wide : Bool) :
    f_section_part (b, (a : Int), 0, wide) = some ((((partS b wide a).1 : Int), ((partS b wide a).2.1, ())), b, ((partS b wide a).2.2.1 : Int), (partS b wide a).2.2.2) := by
  unfold f_section_part F_section_part
  dsimp only
  have h1 := rt_le (b := b) (a := a) (e := 0) (w := sizeN wide) ha
  have h2 := rt_lt (b := b) (a := a) (e := 0) (w := sizeN wide)
  have hsz : f_section_size wide = some (sizeN wide : Int) := by cases wide <;> rfl
  have h32 : 2 ^ held (sizeN wide : Int) ≤ 32 := by cases wide <;> decide
  have hsh : shlI .i64 1 (sizeN wide : Int) = some ((2 ^ sizeN wide : Nat) : Int) := by cases wide <;> rfl
  have h32' : 2 ^ sizeN wide ≤ 32 := by cases wide <;> decide
  have h32'' : 1 ≤ 2 ^ sizeN wide := Nat.one_le_two_pow
  simp only [hsz, hsh, Option.bind_some, take_eq b hb a ha]
  rw [w64 (by omega) (by omega), sub64 (by omega) (by omega)]
  unfold partS
  by_cases h : (rt b a 0 (sizeN wide)).1 = 2 ^ sizeN wide - 1
  · have hd : (((rt b a 0 (sizeN wide)).1 : Int) == ((2 ^ sizeN wide : Nat) : Int) - 1) = true := by rw [beq_iff_eq]; omega
    have h5 := rt_lt (b := b) (a := (rt b a 0 (sizeN wide)).2.1) (e := (rt b a 0 (sizeN wide)).2.2) (w := 5)
    have h5' : 2 ^ held 5 = 32 := rfl
    rw [if_pos h]
    simp only [hd, if_true, take_eq b hb _ h1, Option.bind_some]
    rw [w64 (by omega) (by omega)]
  · have hd : (((rt b a 0 (sizeN wide)).1 : Int) == ((2 ^ sizeN wide : Nat) : Int) - 1) = false := by rw [beq_eq_false_iff_ne]; omega
    rw [if_neg h]
    simp only [hd, Bool.false_eq_true, if_false]

/-- all parts, by how long they are -/
def partsS (b : List Int) (wide : Bool) : List Nat → Nat → Int ⊕ (List e0 × List Int × Nat)
  | [], a => .inr ([], [], a)
  | c :: D, a => match numsS b (partS b wide a).1 (partS b wide a).2.1 c (partS b wide a).2.2.1 (partS b wide a).2.2.2 with
    | .inl er => .inl er
    | .inr (l, a') => match partsS b wide D a' with
      | .inl er => .inl er
      | .inr (ps, ls, a'') => .inr ((((partS b wide a).1 : Int), ((partS b wide a).2.1, ())) :: ps, l ++ ls, a'')

theorem drop_cons {cuts : List Int} {i c : Nat} {D : List Nat} (h : cuts.drop i = (c :: D).map (fun n : Nat => (n : Int))) : i < cuts.length ∧ cuts[i]? = some (c : Int) ∧ cuts.drop (i + 1) = D.map (fun n : Nat => (n : Int)) := by
  have h0 : i < cuts.length := by
    rcases Nat.lt_or_ge i cuts.length with h1 | h1
    · exact h1
    · rw [List.drop_eq_nil_of_le h1] at h; cases h
  rw [List.drop_eq_getElem_cons h0] at h
  simp only [List.map_cons, List.cons.injEq] at h
  exact ⟨h0, by rw [List.getElem?_eq_getElem h0, h.1], h.2⟩

theorem sparts (b : List Int) (hb : Bytes b) (wide : Bool) (z3 o1 : Int) (z1 : Bool) (z2 : List e0) (cuts : List Int) (hcl : cuts.length ≤ 1073741824) :
    ∀ (D : List Nat) (i a : Nat) (acc : List e0) (l : List Int), cuts.drop i = D.map (fun n : Nat => (n : Int)) → (∀ c ∈ D, 1 ≤ c) → a ≤ 8 * b.length → i ≤ cuts.length → acc.length = i → l.length + D.sum ≤ 1099511627776 →
    match partsS b wide D a with
    | .inl er => ∃ a' e' : Int, F_section_Take_14 ((cuts.length : Int), (i : Int), b, (a : Int), 0, z1, z3, z2, wide, o1, acc, cuts, l) = some (.inr (er, b, a', e', [], false, 0, []))
    | .inr (ps, ls, a') => F_section_Take_14 ((cuts.length : Int), (i : Int), b, (a : Int), 0, z1, z3, z2, wide, o1, acc, cuts, l) = some (.inl (b, (a' : Int), 0, z1, z3, z2, wide, o1, acc ++ ps, l ++ ls))
  | [], i, a, acc, l, hD, hc, ha, hi, hacc, hl => by
    unfold partsS
    have hi' : cuts.length ≤ i := by
      rcases Nat.lt_or_ge i cuts.length with h1 | h1
      · rw [List.drop_eq_getElem_cons h1] at hD; cases hD
      · exact h1
    refine lfp_base fun g => ?_
    unfold B_section_Take_14
    dsimp only
    have hd : decide ((i : Int) < (cuts.length : Int)) = false := by rw [decide_eq_false_iff_not]; omega
    rw [hd]
    simp
  | c :: D, i, a, acc, l, hD, hc, ha, hi, hacc, hl => by
    obtain ⟨h0, hget, hD'⟩ := drop_cons hD
    have hd : decide ((i : Int) < (cuts.length : Int)) = true := by rw [decide_eq_true_iff]; omega
    have hc1 : 1 ≤ c := hc c (List.mem_cons_self ..)
    unfold partsS
    have hle := partS_le (b := b) (wide := wide) ha
    have hpart := spart b hb a ha wide
    rcases hp : partS b wide a with ⟨K, raw, a1, e1⟩
    rw [hp] at hle hpart
    dsimp only at hle hpart ⊢
    have hsum : l.length + (c + D.sum) ≤ 1099511627776 := by rw [List.sum_cons] at hl; exact hl
    have hn := snums b hb K (by omega) raw (cuts.length : Int) (i : Int) z3 o1 z1 wide z2 (acc ++ [((K : Int), (raw, ()))]) cuts c 0 a1 e1 l hle.1 (by omega) (by omega) (by omega)
    rw [Nat.zero_add, Int.natCast_zero] at hn
    have body : ∀ g : L_section_Take_14, B_section_Take_14 f_section_part F_section_Take_19 g ((cuts.length : Int), (i : Int), b, (a : Int), 0, z1, z3, z2, wide, o1, acc, cuts, l) =
        (F_section_Take_19 ((cuts.length : Int), (i : Int), (c : Int), 0, b, (a1 : Int), e1, z1, z3, z2, wide, o1, acc ++ [((K : Int), (raw, ()))], cuts, l, (K : Int), raw)).bind fun o => match o with
          | (.inl (x158, x159, x160, x161, x162, x163, x164, x165, x166, x167, x168, x169, x170)) =>
            g ((x158, (addI .i64 x159 ((1 : Int))), x160, x161, x162, x163, x164, x165, x166, x167, x168, x169, x170))
          | (.inr (x171, x172, x173, x174, x175, x176, x177, x178)) =>
            some ((.inr (x171, x172, x173, x174, x175, x176, x177, x178))) := by
      intro g
      unfold B_section_Take_14
      dsimp only
      rw [hd]
      simp only [if_true, Option.bind_some]
      rw [inb_of (by omega) (by omega), idx_of (by omega) hget]
      simp only [Option.bind_some, hpart]
      rw [room_of (by simp; omega)]
      rfl
    rcases hr : numsS b K raw c a1 e1 with er | ⟨l', a'⟩
    · rw [hr] at hn
      obtain ⟨a', e', ho⟩ := hn
      exact ⟨a', e', lfp_base fun g => by rw [body, ho]; rfl⟩
    · rw [hr] at hn
      dsimp only at hn ⊢
      have hln := numsS_len b K raw c a1 e1 l' a' hle.1 hr
      have ih := sparts b hb wide z3 o1 z1 z2 cuts hcl D (i + 1) a' (acc ++ [((K : Int), (raw, ()))]) (l ++ l') hD' (fun x hx => hc x (List.mem_cons_of_mem _ hx)) hln.2 h0 (by simp [hacc]) (by rw [List.length_append, hln.1]; omega)
      have e : addI .i64 (i : Int) 1 = ((i + 1 : Nat) : Int) := by rw [add64 (by omega) (by omega)]; omega
      rcases hr2 : partsS b wide D a' with er | ⟨ps, ls, a''⟩
      · rw [hr2] at ih
        obtain ⟨a2, e2, ho⟩ := ih
        exact ⟨a2, e2, lfp_step ho fun g hg => by rw [body, hn]; simp only [Option.bind_some, e, hg]⟩
      · rw [hr2] at ih
        dsimp only at ih ⊢
        rw [List.append_assoc, List.append_assoc] at ih
        exact lfp_step ih fun g hg => by rw [body, hn]; simp only [Option.bind_some, e, hg]; rfl

theorem rparts (b : List Int) (hb : Bytes b) (wide : Bool) (blk ord : Nat) (hbo : ord ≤ blk) (hblk : blk ≤ 65535) (z0 z1 : Bool) (y0 y1 o1 : Int) (q0 q1 : List e0) :
    ∀ (D : List Nat) (cuts : List Int) (i a : Nat) (acc : List e0) (l : List Int), cuts.drop i = D.map (fun n : Nat => (n : Int)) → (∀ c ∈ D, 1 ≤ c) → a ≤ 8 * b.length → i ≤ cuts.length → cuts.length ≤ 1073741824 → acc.length = i → l.length + D.sum + ord ≤ blk →
    match partsS b wide D a with
    | .inl er => ∃ a' e' : Int, F_ref15_Take_21 ((blk : Int), (ord : Int), (sizeN wide : Int), (i : Int), bitsL b, (a : Int), 0, z0, y0, q0, z1, y1, q1, wide, o1, acc, cuts, l) = some (.inr (er, bitsL b, a', e', [], z1, y1, q1))
    | .inr (ps, ls, a') => F_ref15_Take_21 ((blk : Int), (ord : Int), (sizeN wide : Int), (i : Int), bitsL b, (a : Int), 0, z0, y0, q0, z1, y1, q1, wide, o1, acc, cuts, l) = some (.inl (bitsL b, (a' : Int), 0, z0, y0, q0, wide, o1, acc ++ ps, l ++ ls))
  | [], cuts, i, a, acc, l, hD, hc, ha, hi, hcl, hacc, hl => by
    unfold partsS
    have hi' : cuts.length ≤ i := by
      rcases Nat.lt_or_ge i cuts.length with h1 | h1
      · rw [List.drop_eq_getElem_cons h1] at hD; cases hD
      · exact h1
    refine lfp_base fun g => ?_
    unfold B_ref15_Take_21
    dsimp only
    have hd : decide ((i : Int) < (cuts.length : Int)) = false := by rw [decide_eq_false_iff_not]; omega
    rw [hd]
    simp
  | c :: D, cuts, i, a, acc, l, hD, hc, ha, hi, hcl, hacc, hl => by
    obtain ⟨h0, hget, hD'⟩ := drop_cons hD
    have hd : decide ((i : Int) < (cuts.length : Int)) = true := by rw [decide_eq_true_iff]; omega
    have hc1 : 1 ≤ c := hc c (List.mem_cons_self ..)
    unfold partsS
    have hle := partS_le (b := b) (wide := wide) ha
    rcases hp : partS b wide a with ⟨K, raw, a1, e1⟩
    rw [hp] at hle
    dsimp only at hle ⊢
    have hsum : l.length + (c + D.sum) + ord ≤ blk := by rw [List.sum_cons] at hl; exact hl
    have hn := rnums b hb K (by omega) raw blk ord (sizeN wide) i z0 z1 wide y0 y1 o1 q0 q1 (acc ++ [((K : Int), (raw, ()))]) cuts h0 hbo hblk c a1 e1 l hle.1 (by omega) (by omega)
    have hset : cuts.set i (c : Int) = cuts := by
      have : cuts[i] = (c : Int) := by
        rw [List.getElem?_eq_getElem h0] at hget
        exact Option.some.inj hget
      rw [← this, List.set_getElem_self]
    rw [hset] at hn
    have body : ∀ g : L_ref15_Take_21, B_ref15_Take_21 f_ref01_Reader_Take F_ref15_Take_29 g ((blk : Int), (ord : Int), (sizeN wide : Int), (i : Int), bitsL b, (a : Int), 0, z0, y0, q0, z1, y1, q1, wide, o1, acc, cuts, l) =
        (F_ref15_Take_29 ((blk : Int), (ord : Int), (sizeN wide : Int), (i : Int), bitsL b, (a1 : Int), e1, z0, y0, q0, z1, y1, q1, wide, o1, acc ++ [((K : Int), (raw, ()))], cuts, l, (K : Int), raw)).bind fun o => match o with
          | (.inl (x267, x268, x269, x270, x271, x272, x273, x274, x275, x276, x277, x278, x279, x280, x281, x282, x283, x284)) =>
            g ((x267, x268, x269, (addI .i64 x270 ((1 : Int))), x271, x272, x273, x274, x275, x276, x277, x278, x279, x280, x281, x282, x283, x284))
          | (.inr (x285, x286, x287, x288, x289, x290, x291, x292)) =>
            some ((.inr (x285, x286, x287, x288, x289, x290, x291, x292))) := by
      intro g
      unfold B_ref15_Take_21
      dsimp only
      rw [hd]
      have hroom : ∀ x : e0, room (acc.length + (List.set (List.replicate 1 ((0 : Int), (false, ()))) 0 x).length) = some () := fun x => room_of (by simp; omega)
      have h1 := rt_le (b := b) (a := a) (e := 0) (w := sizeN wide) ha
      have h2 := rt_lt (b := b) (a := a) (e := 0) (w := sizeN wide)
      have h32 : 2 ^ held (sizeN wide : Int) ≤ 32 := by cases wide <;> decide
      unfold partS at hp
      rcases ht : rt b a 0 (sizeN wide) with ⟨v, a0, e0⟩
      rw [ht] at hp h1 h2
      dsimp only at hp h1 h2
      simp only [if_true, Option.bind_some, rtake_eq b hb a ha, ht]
      rw [w64 (by omega) (by omega)]
      by_cases h : v = 2 ^ sizeN wide - 1
      · rw [if_pos h] at hp
        simp only [Prod.mk.injEq] at hp
        obtain ⟨hK, rfl, hp⟩ := hp
        have h5 := rt_lt (b := b) (a := a0) (e := e0) (w := 5)
        have h5' : 2 ^ held 5 = 32 := rfl
        have hw : IntKind.wrap .i64 ((rt b a0 e0 5).1 : Int) = (K : Int) := by rw [w64 (by omega) (by omega), hK]
        cases wide
        · have hv : ((v : Int) == 15) = true := by rw [beq_iff_eq, h]; rfl
          simp only [hv, Bool.not_false, if_true, Option.bind_some, rtake_eq b hb a0 h1, hw, hp, hroom]
          rfl
        · have hv : ((v : Int) == 15) = false := by rw [h]; rfl
          have hv2 : ((v : Int) == 31) = true := by rw [h]; rfl
          simp only [hv, hv2, Bool.false_eq_true, if_false, if_true, Option.bind_some, rtake_eq b hb a0 h1, hw, hp, hroom]
          rfl
      · rw [if_neg h] at hp
        simp only [Prod.mk.injEq] at hp
        obtain ⟨rfl, rfl, rfl, rfl⟩ := hp
        cases wide
        · have hs : 2 ^ held (sizeN false : Int) = 16 := rfl
          have hs2 : 2 ^ sizeN false = 16 := rfl
          have hv : ((v : Int) == 15) = false := by rw [beq_eq_false_iff_ne]; omega
          have hv2 : ((v : Int) == 31) = false := by rw [beq_eq_false_iff_ne]; omega
          simp only [hv, hv2, Bool.false_eq_true, if_false, Option.bind_some, hroom]
          rfl
        · have hs2 : 2 ^ sizeN true = 32 := rfl
          have hv2 : ((v : Int) == 31) = false := by rw [beq_eq_false_iff_ne]; omega
          by_cases hv : ((v : Int) == 15) = true
          · simp only [hv, hv2, Bool.not_true, Bool.false_eq_true, if_true, if_false, Option.bind_some, hroom]
            rfl
          · simp only [hv, hv2, Bool.false_eq_true, if_false, Option.bind_some, hroom]
            rfl
    rcases hr : numsS b K raw c a1 e1 with er | ⟨l', a'⟩
    · rw [hr] at hn
      obtain ⟨a', e', ho⟩ := hn
      exact ⟨a', e', lfp_base fun g => by rw [body, ho]; rfl⟩
    · rw [hr] at hn
      dsimp only at hn ⊢
      have hln := numsS_len b K raw c a1 e1 l' a' hle.1 hr
      have ih := rparts b hb wide blk ord hbo hblk z0 z1 y0 y1 o1 q0 q1 D (cuts.set i 0) (i + 1) a' (acc ++ [((K : Int), (raw, ()))]) (l ++ l') (by rw [List.drop_set_of_lt (by omega)]; exact hD') (fun x hx => hc x (List.mem_cons_of_mem _ hx)) hln.2 (by rw [List.length_set]; exact h0) (by rw [List.length_set]; exact hcl) (by simp [hacc]) (by rw [List.length_append, hln.1]; omega)
      have e : addI .i64 (i : Int) 1 = ((i + 1 : Nat) : Int) := by rw [add64 (by omega) (by omega)]; omega
      rcases hr2 : partsS b wide D a' with er | ⟨ps, ls, a''⟩
      · rw [hr2] at ih
        obtain ⟨a2, e2, ho⟩ := ih
        exact ⟨a2, e2, lfp_step ho fun g hg => by rw [body, hn]; simp only [Option.bind_some, e, hg]⟩
      · rw [hr2] at ih
        dsimp only at ih ⊢
        rw [List.append_assoc, List.append_assoc] at ih
        exact lfp_step ih fun g hg => by rw [body, hn]; simp only [Option.bind_some, e, hg]; rfl
end Go.Pv.Try
