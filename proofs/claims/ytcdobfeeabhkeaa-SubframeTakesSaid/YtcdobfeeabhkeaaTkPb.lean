/- Bits of bytes, and readers of them. -/
import Derived.Test.YtcdobfeeabhkeaaTkPa
import Derived.Test.YtcdobfeeabhkeaaAll1
set_option autoImplicit false
set_option linter.unusedVariables false
set_option linter.unusedSimpArgs false
namespace Go.Pv.Try
open Go Go.Pv

def byt (b : List Int) (i : Nat) : Nat := (b.getD i 0).toNat
def bitN (b : List Int) (i : Nat) : Nat := byt b (i / 8) / 2 ^ (7 - i % 8) % 2
def rval (b : List Int) (at_ : Nat) : Nat → Nat
  | 0 => 0
  | n + 1 => 2 * rval b at_ n + bitN b (at_ + n)

theorem bitN_lt (b : List Int) (i : Nat) : bitN b i < 2 := Nat.mod_lt _ (by decide)
theorem rval_lt (b : List Int) (a : Nat) : ∀ n, rval b a n < 2 ^ n
  | 0 => Nat.lt_succ_self 0
  | n + 1 => by
    have := rval_lt b a n
    have := bitN_lt b (a + n)
    rw [rval, Nat.pow_succ]; omega
theorem rval_add (b : List Int) (a m : Nat) : ∀ n, rval b a (m + n) = rval b a m * 2 ^ n + rval b (a + m) n
  | 0 => by simp [rval]
  | n + 1 => by
    rw [← Nat.add_assoc, rval, rval_add b a m n, rval, Nat.pow_succ, ← Nat.add_assoc]
    have : rval b a m * (2 ^ n * 2) = 2 * (rval b a m * 2 ^ n) := by rw [← Nat.mul_assoc, Nat.mul_comm]
    omega

theorem rval_byte (b : List Int) (a : Nat) : ∀ n, a % 8 + n ≤ 8 → rval b a n = byt b (a / 8) / 2 ^ (8 - a % 8 - n) % 2 ^ n
  | 0, _ => by simp [rval, Nat.mod_one]
  | n + 1, h => by
    rw [rval, rval_byte b a n (by omega)]
    have e1 : (a + n) / 8 = a / 8 := by omega
    have e2 : (a + n) % 8 = a % 8 + n := by omega
    unfold bitN
    rw [e1, e2]
    generalize byt b (a / 8) = x
    have e3 : 8 - a % 8 - n = (7 - (a % 8 + n)) + 1 := by omega
    have e4 : 8 - a % 8 - (n + 1) = 7 - (a % 8 + n) := by omega
    rw [e3, e4]
    generalize 7 - (a % 8 + n) = s
    rw [Nat.pow_succ 2 s, ← Nat.div_div_eq_div_mul]
    generalize x / 2 ^ s = y
    rw [Nat.pow_succ 2 n, Nat.mul_comm (2 ^ n) 2, Nat.mod_mul]
    omega

/-- bytes, not too many -/
structure Bytes (b : List Int) : Prop where
  rng : ∀ x ∈ b, 0 ≤ x ∧ x ≤ 255
  len : b.length ≤ 1073741824

theorem Bytes.byt {b : List Int} (h : Bytes b) {i : Nat} (hi : i < b.length) : idx b (i : Int) = some (Try.byt b i : Int) ∧ Try.byt b i ≤ 255 := by
  have hx := h.rng b[i] (List.getElem_mem hi)
  have e : Try.byt b i = (b[i]).toNat := by unfold Try.byt; simp [List.getD, hi]
  rw [idx_nat hi, e]
  constructor
  · congr 1; omega
  · omega

def held (w : Int) : Nat := (max 0 (min w 64)).toNat
theorem held_le (w : Int) : held w ≤ 64 := by unfold held; omega
theorem maxmin (w : Int) : maxI 0 (minI w 64) = (held w : Int) := by
  unfold maxI minI held
  split <;> split <;> omega

/-- what a reader takes: the number, where it is, how it failed -/
def rt (b : List Int) (a : Nat) (e : Int) (w : Int) : Nat × Nat × Int :=
  if e ≠ 0 then (0, a, e) else if 8 * b.length < a + held w then (0, a, 2) else (rval b a (held w), a + held w, 0)

theorem rt_le {b : List Int} {a : Nat} {e w : Int} (h : a ≤ 8 * b.length) : (rt b a e w).2.1 ≤ 8 * b.length := by
  unfold rt; split
  · exact h
  · split
    · exact h
    · show a + held w ≤ _; omega
theorem rt_bad {b : List Int} {a : Nat} {e w : Int} (h : e ≠ 0) : rt b a e w = (0, a, e) := if_pos h
theorem rt_lt {b : List Int} {a : Nat} {e w : Int} : (rt b a e w).1 < 2 ^ held w := by
  unfold rt; split
  · exact Nat.two_pow_pos _
  · split
    · exact Nat.two_pow_pos _
    · exact rval_lt _ _ _
theorem rt_lt64 {b : List Int} {a : Nat} {e w : Int} : (rt b a e w).1 < 2 ^ 64 := Nat.lt_of_lt_of_le rt_lt (Nat.pow_le_pow_right (by decide) (held_le w))

theorem take_step (again : L_bits_Reader_Take_g0) (b : List Int) (hb : Bytes b) (l n a : Nat) (f : Int) (hl : l ≤ 64) (hn : n < 2 ^ (64 - l)) (ha : a + l ≤ 8 * b.length)
    (hag : ∀ (l' n' a' : Nat), l' < l → n' < 2 ^ (64 - l') → a' + l' ≤ 8 * b.length → again ((l' : Int), (n' : Int), b, (a' : Int), f) = some (((n' * 2 ^ l' + rval b a' l' : Nat) : Int), b, ((a' + l' : Nat) : Int), f)) :
    B_bits_Reader_Take_g0 again ((l : Int), (n : Int), b, (a : Int), f) = some (((n * 2 ^ l + rval b a l : Nat) : Int), b, ((a + l : Nat) : Int), f) := by
  unfold B_bits_Reader_Take_g0
  dsimp only
  have hlen := hb.len
  by_cases h0 : l = 0
  · subst h0; simp [rval]
  · have hi : a / 8 < b.length := by omega
    obtain ⟨g1, g2⟩ := hb.byt hi
    rw [if_neg (by simpa using h0), rem_pos (by omega) (by decide), quo64 (by omega) (by decide) (by omega)]
    simp only [Option.bind_some]
    rw [show ((a : Int) / 8) = ((a / 8 : Nat) : Int) by omega, g1]
    simp only [Option.bind_some]
    -- how many come
    obtain ⟨m, hm⟩ : ∃ m, m = min (8 - a % 8) l := ⟨_, rfl⟩
    have e1 : subI .i64 (8 : Int) ((a : Int) % 8) = ((8 - a % 8 : Nat) : Int) := by rw [sub64 (by omega) (by omega)]; omega
    have e2 : minI (((8 - a % 8 : Nat) : Int)) (l : Int) = (m : Int) := by unfold minI; split <;> omega
    rw [e1, e2, sub64 (by omega) (by omega)]
    have hm1 : 1 ≤ m ∧ m ≤ 8 ∧ m ≤ l ∧ m ≤ 8 - a % 8 := by omega
    have e3 : (((8 - a % 8 : Nat) : Int) - (m : Int)) = ((8 - a % 8 - m : Nat) : Int) := by omega
    rw [e3, shr_of .u8 (by omega) (by show _ ≤ (8 : Int); omega), shl_of .u8 (by omega) (by show _ ≤ (8 : Int); omega), shl_of .u64 (by omega) (by show _ ≤ (64 : Int); omega)]
    simp only [Option.bind_some, Int.toNat_natCast]
    have hp : 2 ^ m ≤ 2 ^ 8 := Nat.pow_le_pow_right (by decide) hm1.2.1
    have hp1 : 1 ≤ 2 ^ m := Nat.one_le_two_pow
    -- the part of the byte
    have e4 : andI .u8 ((Try.byt b (a / 8) : Int) / 2 ^ (8 - a % 8 - m)) (subI .u8 (IntKind.wrap .u8 (1 * 2 ^ m)) 1) = ((rval b a m : Nat) : Int) := by
      rw [rval_byte b a m (by omega)]
      have hq : (Try.byt b (a / 8) : Int) / 2 ^ (8 - a % 8 - m) = ((Try.byt b (a / 8) / 2 ^ (8 - a % 8 - m) : Nat) : Int) := by push_cast; rfl
      rw [hq]
      have hq2 : Try.byt b (a / 8) / 2 ^ (8 - a % 8 - m) ≤ 255 := Nat.le_trans (Nat.div_le_self _ _) g2
      generalize Try.byt b (a / 8) / 2 ^ (8 - a % 8 - m) = y at hq2
      by_cases h8 : m = 8
      · subst h8
        have : subI .u8 (IntKind.wrap .u8 (1 * 2 ^ 8)) 1 = (2 : Int) ^ 8 - 1 := by decide
        rw [this, and_mask .u8 (by omega) (by show _ < (256 : Int); omega) (by decide) (fun n h1 h2 _ => wu8 h1 (by have : n < (256 : Int) := h2; omega))]
        show (y : Int) % 256 = ((y % 256 : Nat) : Int)
        omega
      · have h2m : 2 ^ m ≤ 2 ^ 7 := Nat.pow_le_pow_right (by decide) (by omega)
        have e : IntKind.wrap .u8 ((1 : Int) * 2 ^ m) = 2 ^ m := by
          rw [Int.one_mul]
          exact wu8 (Int.pow_nonneg (by decide)) (by
            have h3 : ((2 ^ m : Nat) : Int) ≤ 128 := by exact_mod_cast h2m
            push_cast at h3
            omega)
        have e' : ((2 : Int) ^ m) = ((2 ^ m : Nat) : Int) := by push_cast; rfl
        rw [e, subu8 (by rw [e']; omega) (by rw [e']; omega), and_mask .u8 (by omega) (by show _ < (256 : Int); omega) (by show m ≤ 8; omega) (fun n h1 h2 _ => wu8 h1 (by have : n < (256 : Int) := h2; omega))]
        push_cast; rfl
    rw [e4]
    have hr := rval_lt b a m
    have hnm : n * 2 ^ m < 2 ^ (64 - (l - m)) := by
      rw [show 64 - (l - m) = (64 - l) + m by omega, Nat.pow_add]
      exact Nat.mul_lt_mul_of_pos_right hn (by omega)
    have hnm2 : n * 2 ^ m + rval b a m < 2 ^ (64 - (l - m)) := by
      rw [show 64 - (l - m) = (64 - l) + m by omega, Nat.pow_add]
      have : (n + 1) * 2 ^ m ≤ 2 ^ (64 - l) * 2 ^ m := Nat.mul_le_mul_right _ hn
      rw [Nat.add_mul, Nat.one_mul] at this
      omega
    have h64 : 2 ^ (64 - (l - m)) ≤ 2 ^ 64 := Nat.pow_le_pow_right (by decide) (by omega)
    have e5 : IntKind.wrap .u64 ((n : Int) * 2 ^ m) = ((n * 2 ^ m : Nat) : Int) := by
      have : ((n : Int) * 2 ^ m) = ((n * 2 ^ m : Nat) : Int) := by push_cast; rfl
      rw [this]; exact wu64 (by omega) (by omega)
    have e6 : IntKind.wrap .u64 ((rval b a m : Nat) : Int) = ((rval b a m : Nat) : Int) := wu64 (by omega) (by omega)
    rw [e5, e6, or_add hr (by omega), sub64 (by omega) (by omega), add64 (by omega) (by omega)]
    rw [show ((l : Int) - (m : Int)) = ((l - m : Nat) : Int) by omega, show ((a : Int) + (m : Int)) = ((a + m : Nat) : Int) by omega, hag (l - m) _ (a + m) (by omega) hnm2 (by omega)]
    have hl' : l = m + (l - m) := by omega
    have e7 : n * 2 ^ l + rval b a l = (n * 2 ^ m + rval b a m) * 2 ^ (l - m) + rval b (a + m) (l - m) := by
      conv => lhs; rw [hl', rval_add, Nat.pow_add]
      rw [Nat.add_mul, Nat.mul_assoc]
      omega
    rw [e7, show a + m + (l - m) = a + l by omega]

theorem take_loop (b : List Int) (hb : Bytes b) (l n a : Nat) (f : Int) (hl : l ≤ 64) (hn : n < 2 ^ (64 - l)) (ha : a + l ≤ 8 * b.length) :
    F_bits_Reader_Take_g0 ((l : Int), (n : Int), b, (a : Int), f) = some (((n * 2 ^ l + rval b a l : Nat) : Int), b, ((a + l : Nat) : Int), f) :=
  lfp_rule (B_bits_Reader_Take_g0) (fun x => ∃ l n a : Nat, x = ((l : Int), (n : Int), b, (a : Int), f) ∧ l ≤ 64 ∧ n < 2 ^ (64 - l) ∧ a + l ≤ 8 * b.length)
    (fun x => (((x.2.1.toNat * 2 ^ x.1.toNat + rval b x.2.2.2.1.toNat x.1.toNat : Nat) : Int), b, ((x.2.2.2.1.toNat + x.1.toNat : Nat) : Int), f)) (fun x => x.1.toNat)
    (by
      rintro again x ⟨l, n, a, rfl, h1, h2, h3⟩ hag
      exact take_step again b hb l n a f h1 h2 h3 fun l' n' a' q1 q2 q3 => hag ((l' : Int), (n' : Int), b, (a' : Int), f) ⟨l', n', a', rfl, by omega, q2, q3⟩ q1)
    ((l : Int), (n : Int), b, (a : Int), f) ⟨l, n, a, rfl, hl, hn, ha⟩

theorem take_eq (b : List Int) (hb : Bytes b) (a : Nat) (ha : a ≤ 8 * b.length) (e w : Int) : f_bits_Reader_Take (b, (a : Int), e, w) = some (((rt b a e w).1 : Int), b, ((rt b a e w).2.1 : Int), (rt b a e w).2.2) := by
  unfold f_bits_Reader_Take F_bits_Reader_Take
  have hlen := hb.len
  have hh := held_le w
  simp only [f_bits_held, F_bits_held, f_bits_Reader_Left, F_bits_Reader_Left, maxmin, Option.bind_some]
  by_cases he : e = 0
  · subst he
    rw [mul64 (by omega) (by omega), sub64 (by omega) (by omega)]
    simp only [beq_self_eq_true, if_true, Option.bind_some]
    by_cases hs : 8 * b.length < a + held w
    · have hd : decide ((held w : Int) > 8 * (b.length : Int) - (a : Int)) = true := by rw [decide_eq_true_iff]; omega
      simp [hd, rt, hs]
    · have hd : decide ((held w : Int) > 8 * (b.length : Int) - (a : Int)) = false := by rw [decide_eq_false_iff_not]; omega
      simp only [hd, Bool.false_eq_true, if_false, Option.bind_some]
      have h := take_step F_bits_Reader_Take_g0 b hb (held w) 0 a 0 hh (by exact Nat.two_pow_pos _) (by omega) fun l' n' a' q1 q2 q3 => take_loop b hb l' n' a' 0 (by omega) q2 q3
      unfold B_bits_Reader_Take_g0 at h
      dsimp only at h
      simp only [bne_self_eq_false, Bool.false_eq_true, if_false]
      simp only [Nat.zero_mul, Nat.zero_add, Int.natCast_zero] at h
      have ht : rt b a 0 w = (rval b a (held w), a + held w, 0) := by simp [rt, hs]
      rw [ht, ← h]
      by_cases h0 : held w = 0
      · simp [h0]
      · have : ((held w : Int) == 0) = false := by simpa using h0
        simp only [this, Bool.false_eq_true, if_false]
        simp only [bind_eta4]
  · simp [he, rt]

/-! ### the document's reader -/
def digits : Nat → Nat → List Bool
  | _, 0 => []
  | n, k + 1 => digits (n / 2) k ++ [n % 2 == 1]
theorem digits_length : ∀ (k n : Nat), (digits n k).length = k
  | 0, _ => rfl
  | k + 1, n => by simp [digits, digits_length k]

theorem digits_get : ∀ (k n i : Nat), i < k → (digits n k)[i]? = some (n / 2 ^ (k - 1 - i) % 2 == 1)
  | k + 1, n, i, h => by
    rw [digits]
    by_cases hi : i < k
    · rw [List.getElem?_append_left (by rw [digits_length]; exact hi), digits_get k _ i hi]
      rw [Nat.div_div_eq_div_mul, show 2 * 2 ^ (k - 1 - i) = 2 ^ (k + 1 - 1 - i) by rw [← Nat.pow_succ']; congr 1; omega]
    · have : i = k := by omega
      subst this
      rw [List.getElem?_append_right (by rw [digits_length]; exact Nat.le_refl _), digits_length]
      simp

def numB (l : List Bool) : Nat := l.foldl (fun n x => 2 * n + if x then 1 else 0) 0
theorem numB_snoc (l : List Bool) (x : Bool) : numB (l ++ [x]) = 2 * numB l + if x then 1 else 0 := by unfold numB; rw [List.foldl_append]; rfl
theorem numB_lt_go : ∀ (l : List Bool) (acc : Nat), l.foldl (fun n x => 2 * n + if x then 1 else 0) acc < (acc + 1) * 2 ^ l.length
  | [], acc => by simp
  | x :: l, acc => by
    rw [List.foldl_cons, List.length_cons, Nat.pow_succ]
    refine Nat.lt_of_lt_of_le (numB_lt_go l _) ?_
    rw [Nat.mul_comm (2 ^ l.length) 2, ← Nat.mul_assoc]
    apply Nat.mul_le_mul_right
    split <;> omega
theorem numB_lt (l : List Bool) : numB l < 2 ^ l.length := by
  have := numB_lt_go l 0
  rwa [Nat.zero_add, Nat.one_mul] at this

theorem digits_loop (n i : Nat) (out : List Bool) (hn : n < 2 ^ 64) (hi : i ≤ out.length) (ho : out.length ≤ 64) :
    F_ref01_Digits_4 ((n : Int), (i : Int) - 1, out) = some (digits n i ++ out.drop i) :=
  lfp_rule B_ref01_Digits_4 (fun x => ∃ (n i : Nat) (out : List Bool), x = ((n : Int), (i : Int) - 1, out) ∧ n < 2 ^ 64 ∧ i ≤ out.length ∧ out.length ≤ 64)
    (fun x => digits x.1.toNat (x.2.1 + 1).toNat ++ x.2.2.drop (x.2.1 + 1).toNat) (fun x => (x.2.1 + 1).toNat)
    (by
      rintro again x ⟨n, i, out, rfl, h1, h2, h3⟩ hag
      unfold B_ref01_Digits_4
      dsimp only
      cases i with
      | zero => simp [digits]
      | succ i =>
        have hd : decide ((((i + 1 : Nat) : Int) - 1) ≥ 0) = true := by rw [decide_eq_true_iff]; omega
        have e0 : (((i + 1 : Nat) : Int) - 1) = (i : Int) := by omega
        rw [hd]
        simp only [if_true, Option.bind_some]
        rw [e0, rem_pos (by omega) (by decide), inb_of (by omega) (by omega), idx_nat (by omega), quou64 (by omega) (by decide) (by omega)]
        simp only [Option.bind_some]
        rw [sub64 (by omega) (by omega), show ((n : Int) / 2) = ((n / 2 : Nat) : Int) by omega]
        rw [hag (((n / 2 : Nat) : Int), (i : Int) - 1, _) ⟨n / 2, i, _, rfl, by omega, by rw [List.length_set]; omega, by rw [List.length_set]; omega⟩ (by dsimp only; omega)]
        simp only [Int.toNat_natCast, Int.sub_add_cancel, show ((i : Int) + 1).toNat = i + 1 by omega]
        rw [digits, List.append_assoc]
        congr 2
        have hlt : i < (out.set i (((n : Int) % 2) == 1)).length := by simp; omega
        rw [List.drop_eq_getElem_cons hlt]
        simp only [List.getElem_set_self, List.singleton_append, List.drop_set]
        rw [if_pos (by omega)]
        congr 1
        rw [Bool.eq_iff_iff]; simp; omega)
    ((n : Int), (i : Int) - 1, out) ⟨n, i, out, rfl, hn, hi, ho⟩ |>.trans (by simp)

theorem digits_eq (n : Nat) (w : Int) (hn : n < 2 ^ 64) : f_ref01_Digits ((n : Int), w) = some (digits n (held w)) := by
  unfold f_ref01_Digits F_ref01_Digits
  simp only [f_ref01_Width, F_ref01_Width, maxmin, Option.bind_some]
  have := held_le w
  rw [mk_of (by omega) (by omega)]
  simp only [Option.bind_some]
  rw [sub64 (by omega) (by omega), digits_loop n (held w) _ hn (by simp) (by simp; omega)]
  simp

def bitsL (b : List Int) : List Bool := b.flatMap fun x => digits x.toNat 8
theorem bitsL_length : ∀ b : List Int, (bitsL b).length = 8 * b.length
  | [] => rfl
  | x :: b => by
    have := bitsL_length b
    unfold bitsL at this ⊢
    rw [List.flatMap_cons, List.length_append, this, digits_length, List.length_cons]; omega

theorem bitsL_snoc (b : List Int) (x : Int) : bitsL (b ++ [x]) = bitsL b ++ digits x.toNat 8 := by unfold bitsL; simp

theorem bitsL_get : ∀ (b : List Int) (i : Nat), i < 8 * b.length → (bitsL b)[i]? = some (bitN b i == 1)
  | [], i, h => by simp at h
  | x :: b, i, h => by
    have e : bitsL (x :: b) = digits x.toNat 8 ++ bitsL b := rfl
    rw [e]
    by_cases hi : i < 8
    · rw [List.getElem?_append_left (by rw [digits_length]; exact hi), digits_get 8 _ i hi]
      have h1 : i / 8 = 0 := by omega
      have h2 : i % 8 = i := by omega
      simp [bitN, byt, h1, h2]
    · rw [List.getElem?_append_right (by rw [digits_length]; omega), digits_length, bitsL_get b (i - 8) (by simp at h; omega)]
      have h1 : i / 8 = (i - 8) / 8 + 1 := by omega
      have h2 : i % 8 = (i - 8) % 8 := by omega
      simp [bitN, byt, h1, h2]

theorem bits_loop (b : List Int) (hb : Bytes b) (i : Nat) (hi : i ≤ b.length) : F_ref01_Bits_3 (b, (i : Int), bitsL (b.take i)) = some (bitsL b) :=
  lfp_rule (B_ref01_Bits_3 f_ref01_Digits) (fun x => ∃ i : Nat, x = (b, (i : Int), bitsL (b.take i)) ∧ i ≤ b.length) (fun _ => bitsL b) (fun x => b.length - x.2.1.toNat)
    (by
      rintro again x ⟨i, rfl, hi⟩ hag
      have hlen := hb.len
      unfold B_ref01_Bits_3
      dsimp only
      by_cases h : i < b.length
      · have hd : decide ((i : Int) < (b.length : Int)) = true := by rw [decide_eq_true_iff]; omega
        have hx := hb.rng b[i] (List.getElem_mem h)
        rw [hd]
        simp only [if_true, Option.bind_some]
        rw [idx_nat h]
        simp only [Option.bind_some]
        rw [wu64 (by omega) (by omega), show b[i] = ((b[i].toNat : Nat) : Int) by omega, digits_eq _ _ (by omega)]
        simp only [Option.bind_some]
        have hl8 : (digits b[i].toNat (held 8)).length = 8 := by rw [digits_length]; rfl
        rw [room_of (by rw [bitsL_length, hl8, List.length_take]; omega)]
        simp only [Option.bind_some]
        rw [add64 (by omega) (by omega)]
        have e : bitsL (b.take i) ++ digits b[i].toNat (held 8) = bitsL (b.take (i + 1)) := by
          rw [List.take_succ_eq_append_getElem h, bitsL_snoc]; rfl
        rw [e]
        exact hag (b, ((i : Int) + 1), _) ⟨i + 1, by push_cast; rfl, h⟩ (by dsimp only; omega)
      · have hd : decide ((i : Int) < (b.length : Int)) = false := by rw [decide_eq_false_iff_not]; omega
        rw [hd]
        simp [List.take_of_length_le (Nat.le_of_not_lt h)])
    (b, (i : Int), bitsL (b.take i)) ⟨i, rfl, hi⟩

theorem bits_eq (b : List Int) (hb : Bytes b) : f_ref01_Bits b = some (bitsL b) := by
  unfold f_ref01_Bits F_ref01_Bits
  dsimp only
  have := bits_loop b hb 0 (Nat.zero_le _)
  simp only [List.take_zero] at this
  rw [show ([] : List Bool) = bitsL [] from rfl, show (0 : Int) = ((0 : Nat) : Int) from rfl, this]
  rfl

theorem number_loop (l : List Bool) (hl : l.length ≤ 64) (i : Nat) (hi : i ≤ l.length) : F_ref01_Number_3 (l, ((numB (l.take i) : Nat) : Int), (i : Int)) = some ((numB l : Nat) : Int) :=
  lfp_rule B_ref01_Number_3 (fun x => ∃ i : Nat, x = (l, ((numB (l.take i) : Nat) : Int), (i : Int)) ∧ i ≤ l.length) (fun _ => ((numB l : Nat) : Int)) (fun x => l.length - x.2.2.toNat)
    (by
      rintro again x ⟨i, rfl, hi⟩ hag
      unfold B_ref01_Number_3
      dsimp only
      by_cases h : i < l.length
      · have hd : decide ((i : Int) < (l.length : Int)) = true := by rw [decide_eq_true_iff]; omega
        rw [hd]
        simp only [if_true, Option.bind_some]
        rw [idx_nat h]
        simp only [Option.bind_some]
        have h1 := numB_lt (l.take (i + 1))
        have h2 : 2 ^ (l.take (i + 1)).length ≤ 2 ^ 64 := Nat.pow_le_pow_right (by decide) (by rw [List.length_take]; omega)
        have e := numB_snoc (l.take i) l[i]
        rw [← List.take_succ_eq_append_getElem h] at e
        have hag' := hag (l, ((numB (l.take (i + 1)) : Nat) : Int), ((i : Int) + 1)) ⟨i + 1, by push_cast; rfl, h⟩ (by dsimp only; omega)
        cases hx : l[i] with
        | true =>
          rw [hx] at e
          simp only [if_true, Option.bind_some] at e ⊢
          rw [mulu64 (by omega) (by omega), addu64 (by omega) (by omega), add64 (by omega) (by omega), ← hag']
          congr 3; omega
        | false =>
          rw [hx] at e
          simp only [Bool.false_eq_true, if_false, Option.bind_some] at e ⊢
          rw [mulu64 (by omega) (by omega), add64 (by omega) (by omega), ← hag']
          congr 3; omega
      · have hd : decide ((i : Int) < (l.length : Int)) = false := by rw [decide_eq_false_iff_not]; omega
        rw [hd]
        simp [List.take_of_length_le (Nat.le_of_not_lt h)])
    (l, ((numB (l.take i) : Nat) : Int), (i : Int)) ⟨i, rfl, hi⟩

theorem number_eq (l : List Bool) (hl : l.length ≤ 64) : f_ref01_Number l = some ((numB l : Nat) : Int) := by
  unfold f_ref01_Number F_ref01_Number
  dsimp only
  have := number_loop l hl 0 (Nat.zero_le _)
  rw [List.take_zero] at this
  rw [show (0 : Int) = ((numB [] : Nat) : Int) from rfl] at *
  rw [show F_ref01_Number_3 (l, ((numB [] : Nat) : Int), ((numB [] : Nat) : Int)) = _ from this]
  rfl

theorem numB_bits (b : List Int) (a : Nat) : ∀ k, a + k ≤ 8 * b.length → numB (((bitsL b).drop a).take k) = rval b a k
  | 0, _ => rfl
  | k + 1, h => by
    have hlt : k < ((bitsL b).drop a).length := by rw [List.length_drop, bitsL_length]; omega
    rw [List.take_succ_eq_append_getElem hlt, numB_snoc, numB_bits b a k (by omega), rval]
    have hg := bitsL_get b (a + k) (by omega)
    have : ((bitsL b).drop a)[k] = (bitN b (a + k) == 1) := by
      have : ((bitsL b).drop a)[k]? = some (bitN b (a + k) == 1) := by rw [List.getElem?_drop]; exact hg
      rw [List.getElem?_eq_getElem hlt] at this
      exact Option.some.inj this
    rw [this]
    have := bitN_lt b (a + k)
    rcases (by omega : bitN b (a + k) = 0 ∨ bitN b (a + k) = 1) with h | h <;> simp [h]

theorem rtake_eq (b : List Int) (hb : Bytes b) (a : Nat) (ha : a ≤ 8 * b.length) (e w : Int) : f_ref01_Reader_Take (bitsL b, (a : Int), e, w) = some (((rt b a e w).1 : Int), bitsL b, ((rt b a e w).2.1 : Int), (rt b a e w).2.2) := by
  unfold f_ref01_Reader_Take F_ref01_Reader_Take
  have hlen := hb.len
  have hh := held_le w
  simp only [f_ref01_Width, F_ref01_Width, maxmin, Option.bind_some]
  by_cases he : e = 0
  · subst he
    simp only [bne_self_eq_false, Bool.false_eq_true, if_false]
    rw [bitsL_length, sub64 (by omega) (by omega)]
    by_cases hs : 8 * b.length < a + held w
    · have hd : decide ((held w : Int) > ((8 * b.length : Nat) : Int) - (a : Int)) = true := by rw [decide_eq_true_iff]; omega
      rw [hd]
      simp [rt, hs]
    · have hd : decide ((held w : Int) > ((8 * b.length : Nat) : Int) - (a : Int)) = false := by rw [decide_eq_false_iff_not]; omega
      rw [hd]
      simp only [Bool.false_eq_true, if_false]
      rw [add64 (by omega) (by omega), sub64 (by omega) (by omega), rng_of (by omega) (by omega) (by omega)]
      simp only [Option.bind_some, view]
      have e1 : ((a : Int) + (held w : Int) - (held w : Int)).toNat = a := by omega
      have e2 : ((a : Int) + (held w : Int)).toNat - a = held w := by omega
      rw [e1, e2, number_eq _ (by rw [List.length_take]; omega), numB_bits b a (held w) (by omega)]
      simp [rt, hs]
  · simp [he, rt]
end Go.Pv.Try
