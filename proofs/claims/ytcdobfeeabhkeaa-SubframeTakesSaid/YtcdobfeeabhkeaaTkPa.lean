/- Whole numbers of Go's kinds, where nothing is lost. -/
import Derived.Test.YtcdobfeeabhkeaaPvW
import Derived.IntWalk
set_option autoImplicit false
set_option linter.unusedVariables false
namespace Go.Pv

theorem add64 {a b : Int} (h1 : -9223372036854775808 ≤ a + b) (h2 : a + b ≤ 9223372036854775807) : addI .i64 a b = a + b := IntWalk.i64_in _ ⟨h1, h2⟩
theorem sub64 {a b : Int} (h1 : -9223372036854775808 ≤ a - b) (h2 : a - b ≤ 9223372036854775807) : subI .i64 a b = a - b := IntWalk.i64_in _ ⟨h1, h2⟩
theorem mul64 {a b : Int} (h1 : -9223372036854775808 ≤ a * b) (h2 : a * b ≤ 9223372036854775807) : mulI .i64 a b = a * b := IntWalk.i64_in _ ⟨h1, h2⟩
theorem addu64 {a b : Int} (h1 : 0 ≤ a + b) (h2 : a + b ≤ 18446744073709551615) : addI .u64 a b = a + b := IntWalk.u64_in _ ⟨h1, h2⟩
theorem mulu64 {a b : Int} (h1 : 0 ≤ a * b) (h2 : a * b ≤ 18446744073709551615) : mulI .u64 a b = a * b := IntWalk.u64_in _ ⟨h1, h2⟩
theorem subu8 {a b : Int} (h1 : 0 ≤ a - b) (h2 : a - b ≤ 255) : subI .u8 a b = a - b := IntWalk.u8_in _ ⟨h1, h2⟩
theorem w64 {a : Int} (h1 : -9223372036854775808 ≤ a) (h2 : a ≤ 9223372036854775807) : IntKind.wrap .i64 a = a := IntWalk.i64_in _ ⟨h1, h2⟩
theorem wu64 {a : Int} (h1 : 0 ≤ a) (h2 : a ≤ 18446744073709551615) : IntKind.wrap .u64 a = a := IntWalk.u64_in _ ⟨h1, h2⟩
theorem wu8 {a : Int} (h1 : 0 ≤ a) (h2 : a ≤ 255) : IntKind.wrap .u8 a = a := IntWalk.u8_in _ ⟨h1, h2⟩

theorem quo_pos (k : IntKind) {a b : Int} (ha : 0 ≤ a) (hb : 0 < b) (hk : a / b ≤ k.max) (h0 : k.min ≤ 0) (hw : ∀ n, k.min ≤ n → n ≤ k.max → k.wrap n = n) : quoI k a b = some (a / b) := by
  unfold quoI
  rw [if_neg (by omega), Int.tdiv_eq_ediv_of_nonneg ha, hw _ (Int.le_trans h0 (Int.ediv_nonneg ha (by omega))) hk]
theorem quo64 {a b : Int} (ha : 0 ≤ a) (hb : 0 < b) (h : a ≤ 9223372036854775807) : quoI .i64 a b = some (a / b) := by
  unfold quoI
  have h1 : 0 ≤ a / b := Int.ediv_nonneg ha (by omega)
  have h2 : a / b ≤ a := Int.ediv_le_self _ ha
  rw [if_neg (by omega), Int.tdiv_eq_ediv_of_nonneg ha, w64 (by omega) (by omega)]
theorem quou64 {a b : Int} (ha : 0 ≤ a) (hb : 0 < b) (h : a ≤ 18446744073709551615) : quoI .u64 a b = some (a / b) := by
  unfold quoI
  have h1 : 0 ≤ a / b := Int.ediv_nonneg ha (by omega)
  have h2 : a / b ≤ a := Int.ediv_le_self _ ha
  rw [if_neg (by omega), Int.tdiv_eq_ediv_of_nonneg ha, wu64 (by omega) (by omega)]
theorem rem_pos {a b : Int} (ha : 0 ≤ a) (hb : b ≠ 0) : remI a b = some (a % b) := by
  unfold remI
  rw [if_neg hb, Int.tmod_eq_emod_of_nonneg ha]

theorem idx_of {α : Type} {l : List α} {i : Int} {x : α} (h0 : 0 ≤ i) (h : l[i.toNat]? = some x) : idx l i = some x := by
  unfold idx; rw [if_pos h0, h]
theorem idx_nat {α : Type} {l : List α} {i : Nat} (h : i < l.length) : idx l (i : Int) = some l[i] := idx_of (Int.natCast_nonneg _) (by simp [h])
theorem inb_of {i : Int} {n : Nat} (h0 : 0 ≤ i) (h : i < n) : inb i n = some () := by unfold inb; rw [if_pos ⟨h0, h⟩]
theorem rng_of {n : Nat} {lo hi : Int} (h0 : 0 ≤ lo) (h1 : lo ≤ hi) (h2 : hi ≤ n) : rng n lo hi = some (lo.toNat, hi.toNat - lo.toNat) := by unfold rng; rw [if_pos ⟨h0, h1, h2⟩]
theorem room_of {n : Nat} (h : n ≤ 1099511627776) : room n = some () := by unfold room; rw [if_pos h]
theorem mk_of {α : Type} {n : Int} {b : Nat} {z : α} (h0 : 0 ≤ n) (h : b * n ≤ 281474976710656) : mk n b z = some (List.replicate n.toNat z) := by unfold mk; rw [if_pos ⟨h0, h⟩]

theorem shl_of (k : IntKind) {a b : Int} (hb : 0 ≤ b) (hk : b ≤ k.bits) : shlI k a b = some (k.wrap (a * 2 ^ b.toNat)) := by
  unfold shlI
  rw [if_neg (by omega), Nat.min_eq_left (by omega)]
theorem shr_of (k : IntKind) {a b : Int} (hb : 0 ≤ b) (hk : b ≤ k.bits) : shrI k a b = some (a / 2 ^ b.toNat) := by
  unfold shrI
  rw [if_neg (by omega), Nat.min_eq_left (by omega)]
  congr 1
  exact Int.fdiv_eq_ediv_of_nonneg _ (Int.pow_nonneg (by decide))

theorem ofInt_toNat {n : Nat} {a : Int} (h0 : 0 ≤ a) (h : a < 2 ^ n) : (BitVec.ofInt n a).toNat = a.toNat := by
  rw [BitVec.toNat_ofInt]
  congr 1
  exact Int.emod_eq_of_lt h0 (by exact_mod_cast h)

/-- the lowest bits -/
theorem and_mask (k : IntKind) {a : Int} {m : Nat} (h0 : 0 ≤ a) (h1 : a < 2 ^ k.bits) (hm : m ≤ k.bits) (hw : ∀ n : Int, 0 ≤ n → n < 2 ^ k.bits → n ≤ a → k.wrap n = n) : andI k a (2 ^ m - 1) = a % 2 ^ m := by
  have hp : (1 : Int) ≤ 2 ^ m := by exact_mod_cast Nat.one_le_two_pow
  have hle : (2 : Int) ^ m ≤ 2 ^ k.bits := by exact_mod_cast Nat.pow_le_pow_right (by decide) hm
  have e : ((2 : Int) ^ m - 1).toNat = 2 ^ m - 1 := by
    have : ((2 : Int) ^ m - 1) = ((2 ^ m - 1 : Nat) : Int) := by
      rw [Int.natCast_sub Nat.one_le_two_pow]; push_cast; rfl
    rw [this]; rfl
  unfold andI bitI
  rw [BitVec.toNat_and, ofInt_toNat h0 h1, ofInt_toNat (by omega) (by omega), e, Nat.and_two_pow_sub_one_eq_mod]
  have hmod : ((a.toNat % 2 ^ m : Nat) : Int) = a % 2 ^ m := by
    push_cast
    rw [Int.toNat_of_nonneg h0]
  rw [hmod]
  have g0 : 0 ≤ a % 2 ^ m := Int.emod_nonneg _ (by omega)
  have g1 : a % 2 ^ m ≤ a := by
    rw [← hmod]
    have : a.toNat % 2 ^ m ≤ a.toNat := Nat.mod_le _ _
    omega
  exact hw _ g0 (by omega) g1

/-- bits behind bits -/
theorem or_add {a b : Nat} {m : Nat} (hb : b < 2 ^ m) (h : a * 2 ^ m + b < 2 ^ 64) : orI .u64 ((a * 2 ^ m : Nat) : Int) (b : Int) = ((a * 2 ^ m + b : Nat) : Int) := by
  unfold orI bitI
  have h1 : a * 2 ^ m < 2 ^ 64 := by omega
  have h2 : b < 2 ^ 64 := by omega
  show IntKind.wrap .u64 ((BitVec.ofInt 64 _ ||| BitVec.ofInt 64 _).toNat : Int) = _
  rw [BitVec.toNat_or, ofInt_toNat (Int.natCast_nonneg _) (by exact_mod_cast h1), ofInt_toNat (Int.natCast_nonneg _) (by exact_mod_cast h2)]
  rw [Int.toNat_natCast, Int.toNat_natCast, Nat.mul_comm, ← Nat.two_pow_add_eq_or_of_lt hb]
  exact wu64 (Int.natCast_nonneg _) (by rw [Nat.mul_comm]; omega)

theorem bind_eta2 {α β : Type} (o : Option (α × β)) : (o.bind fun x => some (x.fst, x.snd)) = o := by cases o <;> rfl
theorem bind_eta3 {α β γ : Type} (o : Option (α × β × γ)) : (o.bind fun x => some (x.fst, x.2.fst, x.2.snd)) = o := by cases o <;> rfl
theorem bind_eta4 {α β γ δ : Type} (o : Option (α × β × γ × δ)) : (o.bind fun x => some (x.fst, x.2.fst, x.2.2.fst, x.2.2.snd)) = o := by cases o <;> rfl
theorem bind_eta1 {α : Type} (o : Option α) : (o.bind fun x => some x) = o := by cases o <;> rfl
end Go.Pv
