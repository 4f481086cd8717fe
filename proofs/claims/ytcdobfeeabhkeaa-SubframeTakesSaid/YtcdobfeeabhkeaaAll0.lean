/- What the functions compute, read off the program, with its proof. -/
import Derived.Test.YtcdobfeeabhkeaaPvZ
import Derived.Test.YtcdobfeeabhkeaaProg
set_option autoImplicit false
set_option linter.unusedVariables false
set_option maxRecDepth 100000
namespace Go.Pv.Try
open Go Go.Pv
theorem mixed : Proofs.Try.prog.follows .mixedOrders = true := by kernel_rfl
abbrev y0 : Ty := .pair tI (.pair tO .unit)
abbrev e0 := Int × Bool × Unit
abbrev y1 : Ty := .pair tI (.pair tL .unit)
abbrev e1 := Int × (List Int) × Unit
abbrev y2 : Ty := .pair tI y1
abbrev e2 := Int × Int × (List Int) × Unit
abbrev y3 : Ty := .pair tI (.pair (.slice y0) .unit)
abbrev e3 := Int × (List e0) × Unit
abbrev y4 : Ty := .pair tO y3
abbrev e4 := Bool × Int × (List e0) × Unit
abbrev y5 : Ty := .pair y4 .unit
abbrev e5 := e4 × Unit
abbrev y6 : Ty := .pair y2 y5
abbrev e6 := e2 × e4 × Unit
abbrev y7 : Ty := .pair tI y6
abbrev e7 := Int × e2 × e4 × Unit
abbrev y8 : Ty := .pair tI y7
abbrev e8 := Int × Int × e2 × e4 × Unit
abbrev y9 : Ty := .pair tI y8
abbrev e9 := Int × Int × Int × e2 × e4 × Unit
/-! serinette/bits.New -/
abbrev G_bits_New := Unit → Option (((List Int) × Int))
def F_bits_New : G_bits_New
  | _ =>
    some ((([] : List Int), (0 : Int)))
noncomputable def f_bits_New : G_bits_New := F_bits_New
def s_bits_New : Sig := ⟨[], [], [⟨.box [.own tU8, vI], [], [tB, tI]⟩]⟩
def D_bits_New : Desc := ⟨[], [0], true, [], [], [], [false]⟩
theorem q_bits_New : D_bits_New.body Proofs.Try.prog Proofs.Try.f15 s_bits_New () = F_bits_New () := by kernel_rfl
theorem k_bits_New : Known Proofs.Try.prog 15 (s_bits_New.sp f_bits_New) :=
  known_of (D := D_bits_New) mixed Proofs.Try.func15 (by kernel_rfl) (by kernel_rfl) trivial trivial fun x => q_bits_New

/-! serinette/pcm.In -/
abbrev G_pcm_In := Int × Int → Option (Bool)
def F_pcm_In : G_pcm_In
  | (p1, p2) =>
    Option.bind (α := (Int × Int × Bool)) (
      if (decide (p2 < ((1 : Int)))) = true then
        some ((p1, p2, true))
      else
        some ((p1, p2, (decide (p2 > ((62 : Int))))))) fun (x3, x4, x5) =>
    if x5 = true then
      some false
    else
      (shrI .i64 x3 ((subI .i64 x4 ((1 : Int))))).bind fun x6 =>
      Option.bind (α := Bool) (
        if (x6 == ((0 : Int))) = true then
          some true
        else
          some ((x6 == ((-1 : Int))))) fun x7 =>
      some x7
noncomputable def f_pcm_In : G_pcm_In := F_pcm_In
def s_pcm_In : Sig := ⟨[vI, vI], [tI, tI], [⟨vO, [], [tO]⟩]⟩
def D_pcm_In : Desc := ⟨[], [0, 1, 2, 3, 4, 5], false, [], [(300001, [⟨.normal, [], [(0, vI), (1, vI), (11, vO)], [], [tI, tI, tO]⟩]), (300004, [⟨.normal, [], [(4, vO)], [], [tO]⟩])], [], [false]⟩
theorem q_pcm_In : ∀ (p1 : Int) (p2 : Int), D_pcm_In.body Proofs.Try.prog Proofs.Try.f66 s_pcm_In (p1, p2) = F_pcm_In (p1, p2) := fun p1 p2 => by kernel_rfl
theorem k_pcm_In : Known Proofs.Try.prog 66 (s_pcm_In.sp f_pcm_In) :=
  known_of (D := D_pcm_In) mixed Proofs.Try.func66 (by kernel_rfl) (by kernel_rfl) trivial trivial fun x => q_pcm_In x.1 x.2

/-! serinette/subframe.odd -/
abbrev G_subframe_odd := (List Int) × e9 × Int → Option (Int)
abbrev L_subframe_odd_5 := Int × (List Int) × Int × Int × Int × Int × Int × Int × Int × (List Int) × Bool × Int × (List e0) → Option (Unit ⊕ Int)
def B_subframe_odd_5 (g_pcm_In : G_pcm_In) (again : L_subframe_odd_5) : L_subframe_odd_5
  | (a28, a29, a30, a31, a32, a33, a34, a35, a36, a37, a38, a39, a40) =>
    Option.bind (α := (Int × (List Int) × Int × Int × Int × Int × Int × Int × Int × (List Int) × Bool × Int × (List e0)) ⊕ Unit) (
      if (decide (a31 < a30)) = true then
        some ((.inl (a28, a29, a30, a31, a32, a33, a34, a35, a36, a37, a38, a39, a40)))
      else
        some ((.inr ()))) fun o => match o with
      | (.inl (x41, x42, x43, x44, x45, x46, x47, x48, x49, x50, x51, x52, x53)) =>
        (idx x42 x44).bind fun x54 =>
        Option.bind (α := (Int × (List Int) × Int × Int × Bool × Int × Int × Int × Int × Int × (List Int) × Bool × Int × (List e0))) (
          (g_pcm_In ((x54, x41))).bind fun x55 =>
          if (!x55) = true then
            some ((x41, x42, x43, x44, true, x45, x46, x47, x48, x49, x50, x51, x52, x53))
          else
            (shrI .i64 x54 x46).bind fun x56 =>
            (shlI .i64 x56 x46).bind fun x57 =>
            some ((x41, x42, x43, x44, (x57 != x54), x45, x46, x47, x48, x49, x50, x51, x52, x53))) fun (x58, x59, x60, x61, x62, x63, x64, x65, x66, x67, x68, x69, x70, x71) =>
        if x62 = true then
          some ((.inr (6 : Int)))
        else
          again ((x58, x59, x60, (addI .i64 x61 ((1 : Int))), x63, x64, x65, x66, x67, x68, x69, x70, x71))
      | (.inr _) =>
        some ((.inl ()))
noncomputable def F_subframe_odd_5 : L_subframe_odd_5 := lfp (B_subframe_odd_5 f_pcm_In)
abbrev S_subframe_odd_5 (l : L_subframe_odd_5) : LoopS := ⟨⟨.normal, [], [(2, vI), (4, .ptr 16384 0 0), (48, vL), (49, vI), (50, vI)], [(16384, 0, .box [vI, vI, vI, vI, vI, vL, vO, vI, .val (.slice y0)])], [tI, tL, tI, tI, tI, tI, tI, tI, tI, tL, tO, tI, .slice y0]⟩, [⟨.exit 0, [], [], [], []⟩, ⟨.ret, [], [(6, vI)], [], [tI]⟩], l⟩
def F_subframe_odd (l_5 : L_subframe_odd_5) : G_subframe_odd
  | (p1, p2, p3) =>
    Option.bind (α := ((List Int) × Int × Bool × Int × Int × Int × Int × Int × (List Int) × Bool × Int × (List e0))) (
      if (decide ((((List.length p1 : Nat) : Int)) < ((1 : Int)))) = true then
        some ((p1, p3, true, p2.1, p2.2.1, p2.2.2.1, p2.2.2.2.1.1, p2.2.2.2.1.2.1, p2.2.2.2.1.2.2.1, p2.2.2.2.2.1.1, p2.2.2.2.2.1.2.1, p2.2.2.2.2.1.2.2.1))
      else
        some ((p1, p3, (decide ((((List.length p1 : Nat) : Int)) > ((65535 : Int)))), p2.1, p2.2.1, p2.2.2.1, p2.2.2.2.1.1, p2.2.2.2.1.2.1, p2.2.2.2.1.2.2.1, p2.2.2.2.2.1.1, p2.2.2.2.2.1.2.1, p2.2.2.2.2.1.2.2.1))) fun (x4, x5, x6, x7, x8, x9, x10, x11, x12, x13, x14, x15) =>
    Option.bind (α := ((List Int) × Int × Bool × Int × Int × Int × Int × Int × (List Int) × Bool × Int × (List e0))) (
      if (decide (x5 < ((4 : Int)))) = true then
        some ((x4, x5, true, x7, x8, x9, x10, x11, x12, x13, x14, x15))
      else
        if (decide (x5 > ((33 : Int)))) = true then
          some ((x4, x5, true, x7, x8, x9, x10, x11, x12, x13, x14, x15))
        else
          if x6 = true then
            some ((x4, x5, true, x7, x8, x9, x10, x11, x12, x13, x14, x15))
          else
            if (decide (x7 < ((0 : Int)))) = true then
              some ((x4, x5, true, x7, x8, x9, x10, x11, x12, x13, x14, x15))
            else
              if (decide (x7 > ((3 : Int)))) = true then
                some ((x4, x5, true, x7, x8, x9, x10, x11, x12, x13, x14, x15))
              else
                if (decide (x8 < ((0 : Int)))) = true then
                  some ((x4, x5, true, x7, x8, x9, x10, x11, x12, x13, x14, x15))
                else
                  some ((x4, x5, (decide (x8 ≥ x5)), x7, x8, x9, x10, x11, x12, x13, x14, x15))) fun (x16, x17, x18, x19, x20, x21, x22, x23, x24, x25, x26, x27) =>
    if x18 = true then
      some ((1 : Int))
    else
      Option.bind (α := Unit ⊕ Int) (
        l_5 ((x17, x16, ((List.length x16 : Nat) : Int), (0 : Int), x19, x20, x21, x22, x23, x24, x25, x26, x27))) fun o => match o with
        | (.inl _) =>
          some ((0 : Int))
        | (.inr x72) =>
          some x72
noncomputable def f_subframe_odd : G_subframe_odd := F_subframe_odd F_subframe_odd_5
def s_subframe_odd : Sig := ⟨[vL, .val y9, vI], [tL, y9, tI], [⟨vI, [], [tI]⟩]⟩
def D_subframe_odd (g_pcm_In : G_pcm_In) (l_5 : L_subframe_odd_5) : Desc := ⟨[(66, s_pcm_In.sp g_pcm_In)], [0, 1, 2, 3, 4, 5, 6, 7, 8, 9], false, [], [(300001, [⟨.normal, [], [(0, vL), (2, vI), (4, .ptr 16384 0 0), (7, vO)], [(16384, 0, .box [vI, vI, vI, vI, vI, vL, vO, vI, .val (.slice y0)])], [tL, tI, tO, tI, tI, tI, tI, tI, tL, tO, tI, .slice y0]⟩]), (300002, [⟨.normal, [], [(0, vL), (2, vI), (4, .ptr 16384 0 0), (47, vO)], [(16384, 0, .box [vI, vI, vI, vI, vI, vL, vO, vI, .val (.slice y0)])], [tL, tI, tO, tI, tI, tI, tI, tI, tL, tO, tI, .slice y0]⟩]), (51, [⟨.normal, [], [(2, vI), (4, .ptr 16384 0 0), (48, vL), (49, vI), (50, vI)], [(16384, 0, .box [vI, vI, vI, vI, vI, vL, vO, vI, .val (.slice y0)])], [tI, tL, tI, tI, tI, tI, tI, tI, tI, tL, tO, tI, .slice y0]⟩, ⟨.exit 0, [], [], [], []⟩]), (300007, [⟨.normal, [], [(2, vI), (4, .ptr 16384 0 0), (48, vL), (49, vI), (50, vI), (68, vO)], [(16384, 0, .box [vI, vI, vI, vI, vI, vL, vO, vI, .val (.slice y0)])], [tI, tL, tI, tI, tO, tI, tI, tI, tI, tI, tL, tO, tI, .slice y0]⟩])], [(5, S_subframe_odd_5 l_5)], [false]⟩
theorem q_subframe_odd (g_pcm_In : G_pcm_In) (l_5 : L_subframe_odd_5) : (∀ (k : L_subframe_odd_5) (a28 : Int) (a29 : List Int) (a30 : Int) (a31 : Int) (a32 : Int) (a33 : Int) (a34 : Int) (a35 : Int) (a36 : Int) (a37 : List Int) (a38 : Bool) (a39 : Int) (a40 : List e0), (D_subframe_odd g_pcm_In l_5).step Proofs.Try.prog Proofs.Try.f52 5 (S_subframe_odd_5 l_5) k (a28, a29, a30, a31, a32, a33, a34, a35, a36, a37, a38, a39, a40) = B_subframe_odd_5 g_pcm_In k (a28, a29, a30, a31, a32, a33, a34, a35, a36, a37, a38, a39, a40)) ∧ (∀ (p1 : List Int) (p2 : e9) (p3 : Int), (D_subframe_odd g_pcm_In l_5).body Proofs.Try.prog Proofs.Try.f52 s_subframe_odd (p1, p2, p3) = F_subframe_odd l_5 (p1, p2, p3)) := ⟨fun k a28 a29 a30 a31 a32 a33 a34 a35 a36 a37 a38 a39 a40 => by kernel_rfl, fun p1 p2 p3 => by kernel_rfl⟩
theorem k_subframe_odd : Known Proofs.Try.prog 52 (s_subframe_odd.sp f_subframe_odd) :=
  known_of (D := D_subframe_odd f_pcm_In F_subframe_odd_5) mixed Proofs.Try.func52 (by kernel_rfl) (by kernel_rfl) ⟨k_pcm_In, trivial⟩ ⟨fact_of fun k x => (q_subframe_odd f_pcm_In F_subframe_odd_5).1 k x.1 x.2.1 x.2.2.1 x.2.2.2.1 x.2.2.2.2.1 x.2.2.2.2.2.1 x.2.2.2.2.2.2.1 x.2.2.2.2.2.2.2.1 x.2.2.2.2.2.2.2.2.1 x.2.2.2.2.2.2.2.2.2.1 x.2.2.2.2.2.2.2.2.2.2.1 x.2.2.2.2.2.2.2.2.2.2.2.1 x.2.2.2.2.2.2.2.2.2.2.2.2, trivial⟩ fun x => (q_subframe_odd f_pcm_In F_subframe_odd_5).2 x.1 x.2.1 x.2.2

/-! slices.Clone[[]int,int] -/
abbrev G_slices_Clone_sint_int := List Int → Option ((List Int))
def F_slices_Clone_sint_int : G_slices_Clone_sint_int
  | p1 =>
    (notNil (List.length p1)).bind fun x2 =>
    if x2 = true then
      some (([] : List Int))
    else
      (room (List.length ((List.replicate 0 (0 : Int))) + List.length p1)).bind fun x3 =>
      some (((List.replicate 0 (0 : Int)) ++ p1))
def f_slices_Clone_sint_int : G_slices_Clone_sint_int := cloneF
def s_slices_Clone_sint_int : Sig := ⟨[vL], [tL], [⟨.own tI, [], [tL]⟩]⟩
def D_slices_Clone_sint_int : Desc := ⟨[], [0, 1, 2], false, [], [], [], [false]⟩
theorem q_slices_Clone_sint_int : ∀ (p1 : List Int), D_slices_Clone_sint_int.body Proofs.Try.prog Proofs.Try.f54 s_slices_Clone_sint_int p1 = F_slices_Clone_sint_int p1 := fun p1 => by kernel_rfl
theorem k0_slices_Clone_sint_int : Known Proofs.Try.prog 54 (s_slices_Clone_sint_int.sp F_slices_Clone_sint_int) :=
  known_of (D := D_slices_Clone_sint_int) mixed Proofs.Try.func54 (by kernel_rfl) (by kernel_rfl) trivial trivial fun x => q_slices_Clone_sint_int x
set_option maxHeartbeats 800000 in
theorem c1_slices_Clone_sint_int (c : Nat) (w : World) : Calls Proofs.Try.prog 54 #[.slice none 0 c] w fun e w' => (∃ b, e = .returned (.slice b 0 0)) ∧ RowKit.Below w.heap.size w w' := by
  go_enter Proofs.Try.func54, Proofs.Try.ntmps54
  have h := eq_nil Proofs.Try.underlying32 c
  go_wp2
  go_ret
  exact ⟨⟨_, rfl⟩, RowKit.Below.refl _ _⟩
set_option maxHeartbeats 800000 in
theorem c2_slices_Clone_sint_int (a : Addr) (c : Nat) (w : World) : Calls Proofs.Try.prog 54 #[.slice (some a) 0 c] w fun e w' => (∃ b, e = .returned (.slice b 0 0)) ∧ RowKit.Below w.heap.size w w' := by
  go_enter Proofs.Try.func54, Proofs.Try.ntmps54
  have h := eq_some Proofs.Try.underlying32 a c
  go_wp2
  go_ret
  exact ⟨⟨_, rfl⟩, (RowKit.Below.refl _ _).alloc (Nat.le_refl _) _⟩
theorem k_slices_Clone_sint_int : Known Proofs.Try.prog 54 (s_slices_Clone_sint_int.sp f_slices_Clone_sint_int) :=
  known_clone k0_slices_Clone_sint_int (fun l h1 h2 => by
    cases l with
    | nil => exact absurd rfl h1
    | cons a l => simp [F_slices_Clone_sint_int, notNil, room] at h2 ⊢; simp [h2]) c1_slices_Clone_sint_int c2_slices_Clone_sint_int

/-! serinette/subframe.down -/
abbrev G_subframe_down := (List Int) × Int → Option ((List Int))
abbrev L_subframe_down_3 := Int × Int × Int × (List Int) → Option ((List Int))
def B_subframe_down_3 (again : L_subframe_down_3) : L_subframe_down_3
  | (a4, a5, a6, a7) =>
    Option.bind (α := (Int × Int × Int × (List Int)) ⊕ (List Int)) (
      if (decide (a6 < a5)) = true then
        some ((.inl (a4, a5, a6, a7)))
      else
        some ((.inr a7))) fun o => match o with
      | (.inl (x8, x9, x10, x11)) =>
        (inb x10 (List.length x11)).bind fun x12 =>
        (idx x11 x10).bind fun x13 =>
        (shrI .i64 x13 ((maxI ((0 : Int)) ((minI x8 ((32 : Int))))))).bind fun x14 =>
        (inb x10 (List.length x11)).bind fun x15 =>
        (idx x11 x10).bind fun x16 =>
        again ((x8, x9, (addI .i64 x10 ((1 : Int))), (List.set x11 (Int.toNat x10) x14)))
      | (.inr x17) =>
        some x17
noncomputable def F_subframe_down_3 : L_subframe_down_3 := lfp B_subframe_down_3
abbrev S_subframe_down_3 (l : L_subframe_down_3) : LoopS := ⟨⟨.normal, [], [(1, vI), (5, .lref 20480 0), (10, vI), (11, vI)], [(20480, 0, .own tI)], [tI, tI, tI, tL]⟩, [⟨.exit 0, [], [(5, .lref 20480 0)], [(20480, 0, .own tI)], [tL]⟩], l⟩
def F_subframe_down (g_slices_Clone_sint_int : G_slices_Clone_sint_int) (l_3 : L_subframe_down_3) : G_subframe_down
  | (p1, p2) =>
    (g_slices_Clone_sint_int p1).bind fun x3 =>
    Option.bind (α := (List Int)) (
      l_3 ((p2, ((List.length x3 : Nat) : Int), (0 : Int), x3))) fun x18 =>
    some x18
noncomputable def f_subframe_down : G_subframe_down := F_subframe_down f_slices_Clone_sint_int F_subframe_down_3
def s_subframe_down : Sig := ⟨[vL, vI], [tL, tI], [⟨.own tI, [], [tL]⟩]⟩
def D_subframe_down (g_slices_Clone_sint_int : G_slices_Clone_sint_int) (l_3 : L_subframe_down_3) : Desc := ⟨[(54, s_slices_Clone_sint_int.sp g_slices_Clone_sint_int)], [0, 1, 2, 3, 4, 5, 6], false, [], [(12, [⟨.normal, [], [(1, vI), (5, .lref 20480 0), (10, vI), (11, vI)], [(20480, 0, .own tI)], [tI, tI, tI, tL]⟩, ⟨.exit 0, [], [(5, .lref 20480 0)], [(20480, 0, .own tI)], [tL]⟩])], [(3, S_subframe_down_3 l_3)], [false]⟩
theorem q_subframe_down (g_slices_Clone_sint_int : G_slices_Clone_sint_int) (l_3 : L_subframe_down_3) : (∀ (k : L_subframe_down_3) (a4 : Int) (a5 : Int) (a6 : Int) (a7 : List Int), (D_subframe_down g_slices_Clone_sint_int l_3).step Proofs.Try.prog Proofs.Try.f50 3 (S_subframe_down_3 l_3) k (a4, a5, a6, a7) = B_subframe_down_3 k (a4, a5, a6, a7)) ∧ (∀ (p1 : List Int) (p2 : Int), (D_subframe_down g_slices_Clone_sint_int l_3).body Proofs.Try.prog Proofs.Try.f50 s_subframe_down (p1, p2) = F_subframe_down g_slices_Clone_sint_int l_3 (p1, p2)) := ⟨fun k a4 a5 a6 a7 => by kernel_rfl, fun p1 p2 => by kernel_rfl⟩
theorem k_subframe_down : Known Proofs.Try.prog 50 (s_subframe_down.sp f_subframe_down) :=
  known_of (D := D_subframe_down f_slices_Clone_sint_int F_subframe_down_3) mixed Proofs.Try.func50 (by kernel_rfl) (by kernel_rfl) ⟨k_slices_Clone_sint_int, trivial⟩ ⟨fact_of fun k x => (q_subframe_down f_slices_Clone_sint_int F_subframe_down_3).1 k x.1 x.2.1 x.2.2.1 x.2.2.2, trivial⟩ fun x => (q_subframe_down f_slices_Clone_sint_int F_subframe_down_3).2 x.1 x.2

/-! serinette/fixed.Residual -/
abbrev G_fixed_Residual := (List Int) × Int → Option (((List Int) × Int))
abbrev L_fixed_Residual_9 := Int × Int × Int × Int × Int × (List Int) → Option ((Int × Int × Int × (List Int)))
def B_fixed_Residual_9 (again : L_fixed_Residual_9) : L_fixed_Residual_9
  | (a7, a8, a9, a10, a11, a12) =>
    Option.bind (α := (Int × Int × Int × Int × Int × (List Int)) ⊕ (Int × Int × Int × (List Int))) (
      if (decide (a11 < a10)) = true then
        some ((.inl (a7, (((Int.toNat a8) : Nat) : Int), (((Int.toNat a9) : Nat) : Int), a10, a11, a12)))
      else
        some ((.inr (a7, (((Int.toNat a8) : Nat) : Int), (((Int.toNat a9) : Nat) : Int), a12)))) fun o => match o with
      | (.inl (x13, x14, x15, x16, x17, x18)) =>
        (inb ((addI .i64 x17 ((1 : Int)))) ((Int.toNat x15))).bind fun x19 =>
        (idx x18 (((((Int.toNat x14) : Nat) : Int) + (addI .i64 x17 ((1 : Int)))))).bind fun x20 =>
        (inb x17 ((Int.toNat x15))).bind fun x21 =>
        (idx x18 (((((Int.toNat x14) : Nat) : Int) + x17))).bind fun x22 =>
        (inb x17 ((Int.toNat x15))).bind fun x23 =>
        (idx x18 (((((Int.toNat x14) : Nat) : Int) + x17))).bind fun x24 =>
        again ((x13, (((Int.toNat x14) : Nat) : Int), (((Int.toNat x15) : Nat) : Int), x16, (addI .i64 x17 ((1 : Int))), (List.set x18 (Int.toNat (((((Int.toNat x14) : Nat) : Int) + x17))) ((subI .i64 x20 x22)))))
      | (.inr (x25, x26, x27, x28)) =>
        some ((x25, (((Int.toNat x26) : Nat) : Int), (((Int.toNat x27) : Nat) : Int), x28))
noncomputable def F_fixed_Residual_9 : L_fixed_Residual_9 := lfp B_fixed_Residual_9
abbrev S_fixed_Residual_9 (l : L_fixed_Residual_9) : LoopS := ⟨⟨.normal, [(0, 1000006)], [(1, vI), (6, .part 24576 0), (27, vI), (28, vI)], [(24576, 0, .own tI)], [tI, tI, tI, tI, tI, tL]⟩, [⟨.exit 1, [], [(1, vI), (6, .part 24576 0)], [(24576, 0, .own tI)], [tI, tI, tI, tL]⟩], l⟩
abbrev L_fixed_Residual_g0 := Int × Int × Int × (List Int) → Option ((Int × Int × Int × (List Int)))
def B_fixed_Residual_g0 (l_9 : L_fixed_Residual_9) (again : L_fixed_Residual_g0) : L_fixed_Residual_g0
  | (a34, a35, a36, a37) =>
    if (a34 == ((0 : Int))) = true then
      some (((((Int.toNat a35) : Nat) : Int), (((Int.toNat a36) : Nat) : Int), (0 : Int), a37))
    else
      Option.bind (α := (Int × Int × Int × (List Int))) (
        l_9 ((a34, (((Int.toNat a35) : Nat) : Int), (((Int.toNat a36) : Nat) : Int), (subI .i64 ((((Int.toNat a36) : Nat) : Int)) ((1 : Int))), (0 : Int), a37))) fun (x38, x39, x40, x41) =>
      (rng ((Int.toNat x40)) 0 ((subI .i64 ((((Int.toNat x40) : Nat) : Int)) ((1 : Int))))).bind fun x42 =>
      again (((subI .i64 x38 ((1 : Int))), ((((Int.toNat x39) + x42.1) : Nat) : Int), ((x42.2 : Nat) : Int), x41))
noncomputable def F_fixed_Residual_g0 : L_fixed_Residual_g0 := lfp (B_fixed_Residual_g0 F_fixed_Residual_9)
abbrev S_fixed_Residual_g0 (l : L_fixed_Residual_g0) : LoopS := ⟨⟨.normal, [], [(1, vI), (6, .part 24576 0)], [(24576, 0, .own tI)], [tI, tI, tI, tL]⟩, [⟨.ret, [], [(4, .part 24576 0), (5, vI)], [(24576, 0, .own tI)], [tI, tI, tI, tL]⟩], l⟩
def F_fixed_Residual (g_slices_Clone_sint_int : G_slices_Clone_sint_int) (l_9 : L_fixed_Residual_9) (l_100000 : L_fixed_Residual_g0) : G_fixed_Residual
  | (p1, p2) =>
    Option.bind (α := ((List Int) × Int × Bool)) (
      if (decide (p2 < ((0 : Int)))) = true then
        some ((p1, p2, true))
      else
        some ((p1, p2, (decide (p2 > ((4 : Int))))))) fun (x3, x4, x5) =>
    if x5 = true then
      some ((([] : List Int), (1 : Int)))
    else
      if (decide ((((List.length x3 : Nat) : Int)) < x4)) = true then
        some ((([] : List Int), (2 : Int)))
      else
        (g_slices_Clone_sint_int x3).bind fun x6 =>
        if (x4 == ((0 : Int))) = true then
          some ((x6, (0 : Int)))
        else
          Option.bind (α := (Int × Int × Int × (List Int))) (
            l_9 ((x4, ((0 : Nat) : Int), ((List.length x6 : Nat) : Int), (subI .i64 (((List.length x6 : Nat) : Int)) ((1 : Int))), (0 : Int), x6))) fun (x29, x30, x31, x32) =>
          (rng ((Int.toNat x31)) 0 ((subI .i64 ((((Int.toNat x31) : Nat) : Int)) ((1 : Int))))).bind fun x33 =>
          Option.bind (α := (Int × Int × Int × (List Int))) (
            l_100000 (((subI .i64 x29 ((1 : Int))), ((((Int.toNat x30) + x33.1) : Nat) : Int), ((x33.2 : Nat) : Int), x32))) fun (x43, x44, x45, x46) =>
          some (((view x46 (some ((Int.toNat x43), (Int.toNat x44)))), x45))
noncomputable def f_fixed_Residual : G_fixed_Residual := F_fixed_Residual f_slices_Clone_sint_int F_fixed_Residual_9 F_fixed_Residual_g0
def s_fixed_Residual : Sig := ⟨[vL, vI], [tL, tI], [⟨.tup [vL, vI], [], [tL, tI]⟩]⟩
def D_fixed_Residual (g_slices_Clone_sint_int : G_slices_Clone_sint_int) (l_9 : L_fixed_Residual_9) (l_100000 : L_fixed_Residual_g0) : Desc := ⟨[(54, s_slices_Clone_sint_int.sp g_slices_Clone_sint_int)], [0, 1, 2, 3, 4, 5, 6, 7], false, [], [(300001, [⟨.normal, [], [(0, vL), (1, vI), (8, vO)], [], [tL, tI, tO]⟩]), (29, [⟨.normal, [(0, 1000006)], [(1, vI), (6, .part 24576 0), (27, vI), (28, vI)], [(24576, 0, .own tI)], [tI, tI, tI, tI, tI, tL]⟩, ⟨.exit 1, [(0, 1000006)], [(1, vI), (6, .part 24576 0)], [(24576, 0, .own tI)], [tI, tI, tI, tL]⟩])], [(9, S_fixed_Residual_9 l_9), (100000, S_fixed_Residual_g0 l_100000)], [true, false]⟩
theorem q_fixed_Residual (g_slices_Clone_sint_int : G_slices_Clone_sint_int) (l_9 : L_fixed_Residual_9) (l_100000 : L_fixed_Residual_g0) : (∀ (k : L_fixed_Residual_9) (a7 : Int) (a8 : Int) (a9 : Int) (a10 : Int) (a11 : Int) (a12 : List Int), (D_fixed_Residual g_slices_Clone_sint_int l_9 l_100000).step Proofs.Try.prog Proofs.Try.f74 9 (S_fixed_Residual_9 l_9) k (a7, a8, a9, a10, a11, a12) = B_fixed_Residual_9 k (a7, a8, a9, a10, a11, a12)) ∧ (∀ (k : L_fixed_Residual_g0) (a34 : Int) (a35 : Int) (a36 : Int) (a37 : List Int), (D_fixed_Residual g_slices_Clone_sint_int l_9 l_100000).step Proofs.Try.prog Proofs.Try.f74 100000 (S_fixed_Residual_g0 l_100000) k (a34, a35, a36, a37) = B_fixed_Residual_g0 l_9 k (a34, a35, a36, a37)) ∧ (∀ (p1 : List Int) (p2 : Int), (D_fixed_Residual g_slices_Clone_sint_int l_9 l_100000).body Proofs.Try.prog Proofs.Try.f74 s_fixed_Residual (p1, p2) = F_fixed_Residual g_slices_Clone_sint_int l_9 l_100000 (p1, p2)) := ⟨fun k a7 a8 a9 a10 a11 a12 => by kernel_rfl, fun k a34 a35 a36 a37 => by kernel_rfl, fun p1 p2 => by kernel_rfl⟩
theorem k_fixed_Residual : Known Proofs.Try.prog 74 (s_fixed_Residual.sp f_fixed_Residual) :=
  known_of (D := D_fixed_Residual f_slices_Clone_sint_int F_fixed_Residual_9 F_fixed_Residual_g0) mixed Proofs.Try.func74 (by kernel_rfl) (by kernel_rfl) ⟨k_slices_Clone_sint_int, trivial⟩ ⟨fact_of fun k x => (q_fixed_Residual f_slices_Clone_sint_int F_fixed_Residual_9 F_fixed_Residual_g0).1 k x.1 x.2.1 x.2.2.1 x.2.2.2.1 x.2.2.2.2.1 x.2.2.2.2.2, fact_of fun k x => (q_fixed_Residual f_slices_Clone_sint_int F_fixed_Residual_9 F_fixed_Residual_g0).2.1 k x.1 x.2.1 x.2.2.1 x.2.2.2, trivial⟩ fun x => (q_fixed_Residual f_slices_Clone_sint_int F_fixed_Residual_9 F_fixed_Residual_g0).2.2 x.1 x.2

/-! serinette/lpc.Check$1 -/
abbrev G_lpc_Check_1 := Int × e2 → Option (Bool)
def F_lpc_Check_1 (g_pcm_In : G_pcm_In) : G_lpc_Check_1
  | (p1, p2) =>
    (g_pcm_In ((p1, p2.2.1))).bind fun x3 =>
    some (!x3)
noncomputable def f_lpc_Check_1 : G_lpc_Check_1 := F_lpc_Check_1 f_pcm_In
def s_lpc_Check_1 : Sig := ⟨[vI, .eptr y2], [tI, y2], [⟨vO, [], [tO]⟩]⟩
def D_lpc_Check_1 (g_pcm_In : G_pcm_In) : Desc := ⟨[(66, s_pcm_In.sp g_pcm_In)], [0, 2, 3], false, [], [], [], [false]⟩
theorem q_lpc_Check_1 (g_pcm_In : G_pcm_In) : ∀ (p1 : Int) (p2 : e2), (D_lpc_Check_1 g_pcm_In).body Proofs.Try.prog Proofs.Try.f105 s_lpc_Check_1 (p1, p2) = F_lpc_Check_1 g_pcm_In (p1, p2) := fun p1 p2 => by kernel_rfl
theorem k_lpc_Check_1 : Known Proofs.Try.prog 105 (s_lpc_Check_1.sp f_lpc_Check_1) :=
  known_of (D := D_lpc_Check_1 f_pcm_In) mixed Proofs.Try.func105 (by kernel_rfl) (by kernel_rfl) ⟨k_pcm_In, trivial⟩ trivial fun x => (q_lpc_Check_1 f_pcm_In) x.1 x.2

/-! slices.IndexFunc[[]int,int] -/
abbrev G_slices_IndexFunc_sint_int_lpc_Check_1 := (List Int) × (Unit × e2) → Option (Int)
abbrev L_slices_IndexFunc_sint_int_lpc_Check_1_2 := (List Int) × (Unit × e2) × Int × Int → Option (Unit ⊕ Int)
def B_slices_IndexFunc_sint_int_lpc_Check_1_2 (g_lpc_Check_1 : G_lpc_Check_1) (again : L_slices_IndexFunc_sint_int_lpc_Check_1_2) : L_slices_IndexFunc_sint_int_lpc_Check_1_2
  | (a3, a4, a5, a6) =>
    Option.bind (α := ((List Int) × (Unit × e2) × Int × Int) ⊕ Unit) (
      if (decide (a6 < a5)) = true then
        some ((.inl (a3, a4, a5, a6)))
      else
        some ((.inr ()))) fun o => match o with
      | (.inl (x7, x8, x9, x10)) =>
        (idx x7 x10).bind fun x11 =>
        (g_lpc_Check_1 ((x11, x8.2))).bind fun x12 =>
        if x12 = true then
          some ((.inr x10))
        else
          again ((x7, x8, x9, (addI .i64 x10 ((1 : Int)))))
      | (.inr _) =>
        some ((.inl ()))
noncomputable def F_slices_IndexFunc_sint_int_lpc_Check_1_2 : L_slices_IndexFunc_sint_int_lpc_Check_1_2 := lfp (B_slices_IndexFunc_sint_int_lpc_Check_1_2 f_lpc_Check_1)
abbrev S_slices_IndexFunc_sint_int_lpc_Check_1_2 (l : L_slices_IndexFunc_sint_int_lpc_Check_1_2) : LoopS := ⟨⟨.normal, [], [(0, vL), (1, .val (.fn 105 .unit y2)), (7, vI), (8, vI)], [], [tL, .fn 105 .unit y2, tI, tI]⟩, [⟨.exit 0, [], [], [], []⟩, ⟨.ret, [], [(4, vI)], [], [tI]⟩], l⟩
def F_slices_IndexFunc_sint_int_lpc_Check_1 (l_2 : L_slices_IndexFunc_sint_int_lpc_Check_1_2) : G_slices_IndexFunc_sint_int_lpc_Check_1
  | (p1, p2) =>
    Option.bind (α := Unit ⊕ Int) (
      l_2 ((p1, p2, ((List.length p1 : Nat) : Int), (0 : Int)))) fun o => match o with
      | (.inl _) =>
        some ((-1 : Int))
      | (.inr x13) =>
        some x13
noncomputable def f_slices_IndexFunc_sint_int_lpc_Check_1 : G_slices_IndexFunc_sint_int_lpc_Check_1 := F_slices_IndexFunc_sint_int_lpc_Check_1 F_slices_IndexFunc_sint_int_lpc_Check_1_2
def s_slices_IndexFunc_sint_int_lpc_Check_1 : Sig := ⟨[vL, .val (.fn 105 .unit y2)], [tL, .fn 105 .unit y2], [⟨vI, [], [tI]⟩]⟩
def D_slices_IndexFunc_sint_int_lpc_Check_1 (g_lpc_Check_1 : G_lpc_Check_1) (l_2 : L_slices_IndexFunc_sint_int_lpc_Check_1_2) : Desc := ⟨[(105, s_lpc_Check_1.sp g_lpc_Check_1)], [0, 1, 2, 3, 4, 5], false, [], [(9, [⟨.normal, [], [(0, vL), (1, .val (.fn 105 .unit y2)), (7, vI), (8, vI)], [], [tL, .fn 105 .unit y2, tI, tI]⟩, ⟨.exit 0, [], [], [], []⟩])], [(2, S_slices_IndexFunc_sint_int_lpc_Check_1_2 l_2)], [false]⟩
theorem q_slices_IndexFunc_sint_int_lpc_Check_1 (g_lpc_Check_1 : G_lpc_Check_1) (l_2 : L_slices_IndexFunc_sint_int_lpc_Check_1_2) : (∀ (k : L_slices_IndexFunc_sint_int_lpc_Check_1_2) (a3 : List Int) (a4 : Unit × e2) (a5 : Int) (a6 : Int), (D_slices_IndexFunc_sint_int_lpc_Check_1 g_lpc_Check_1 l_2).step Proofs.Try.prog Proofs.Try.f96 2 (S_slices_IndexFunc_sint_int_lpc_Check_1_2 l_2) k (a3, a4, a5, a6) = B_slices_IndexFunc_sint_int_lpc_Check_1_2 g_lpc_Check_1 k (a3, a4, a5, a6)) ∧ (∀ (p1 : List Int) (p2 : Unit × e2), (D_slices_IndexFunc_sint_int_lpc_Check_1 g_lpc_Check_1 l_2).body Proofs.Try.prog Proofs.Try.f96 s_slices_IndexFunc_sint_int_lpc_Check_1 (p1, p2) = F_slices_IndexFunc_sint_int_lpc_Check_1 l_2 (p1, p2)) := ⟨fun k a3 a4 a5 a6 => by kernel_rfl, fun p1 p2 => by kernel_rfl⟩
theorem k_slices_IndexFunc_sint_int_lpc_Check_1 : Known Proofs.Try.prog 96 (s_slices_IndexFunc_sint_int_lpc_Check_1.sp f_slices_IndexFunc_sint_int_lpc_Check_1) :=
  known_of (D := D_slices_IndexFunc_sint_int_lpc_Check_1 f_lpc_Check_1 F_slices_IndexFunc_sint_int_lpc_Check_1_2) mixed Proofs.Try.func96 (by kernel_rfl) (by kernel_rfl) ⟨k_lpc_Check_1, trivial⟩ ⟨fact_of fun k x => (q_slices_IndexFunc_sint_int_lpc_Check_1 f_lpc_Check_1 F_slices_IndexFunc_sint_int_lpc_Check_1_2).1 k x.1 x.2.1 x.2.2.1 x.2.2.2, trivial⟩ fun x => (q_slices_IndexFunc_sint_int_lpc_Check_1 f_lpc_Check_1 F_slices_IndexFunc_sint_int_lpc_Check_1_2).2 x.1 x.2

/-! slices.ContainsFunc[[]int,int] -/
abbrev G_slices_ContainsFunc_sint_int_lpc_Check_1 := (List Int) × (Unit × e2) → Option (Bool)
def F_slices_ContainsFunc_sint_int_lpc_Check_1 (g_slices_IndexFunc_sint_int_lpc_Check_1 : G_slices_IndexFunc_sint_int_lpc_Check_1) : G_slices_ContainsFunc_sint_int_lpc_Check_1
  | (p1, p2) =>
    (g_slices_IndexFunc_sint_int_lpc_Check_1 ((p1, p2))).bind fun x3 =>
    some ((decide (x3 ≥ ((0 : Int)))))
noncomputable def f_slices_ContainsFunc_sint_int_lpc_Check_1 : G_slices_ContainsFunc_sint_int_lpc_Check_1 := F_slices_ContainsFunc_sint_int_lpc_Check_1 f_slices_IndexFunc_sint_int_lpc_Check_1
def s_slices_ContainsFunc_sint_int_lpc_Check_1 : Sig := ⟨[vL, .val (.fn 105 .unit y2)], [tL, .fn 105 .unit y2], [⟨vO, [], [tO]⟩]⟩
def D_slices_ContainsFunc_sint_int_lpc_Check_1 (g_slices_IndexFunc_sint_int_lpc_Check_1 : G_slices_IndexFunc_sint_int_lpc_Check_1) : Desc := ⟨[(96, s_slices_IndexFunc_sint_int_lpc_Check_1.sp g_slices_IndexFunc_sint_int_lpc_Check_1)], [0, 1, 2, 3, 4], false, [], [], [], [false]⟩
theorem q_slices_ContainsFunc_sint_int_lpc_Check_1 (g_slices_IndexFunc_sint_int_lpc_Check_1 : G_slices_IndexFunc_sint_int_lpc_Check_1) : ∀ (p1 : List Int) (p2 : Unit × e2), (D_slices_ContainsFunc_sint_int_lpc_Check_1 g_slices_IndexFunc_sint_int_lpc_Check_1).body Proofs.Try.prog Proofs.Try.f76 s_slices_ContainsFunc_sint_int_lpc_Check_1 (p1, p2) = F_slices_ContainsFunc_sint_int_lpc_Check_1 g_slices_IndexFunc_sint_int_lpc_Check_1 (p1, p2) := fun p1 p2 => by kernel_rfl
theorem k_slices_ContainsFunc_sint_int_lpc_Check_1 : Known Proofs.Try.prog 76 (s_slices_ContainsFunc_sint_int_lpc_Check_1.sp f_slices_ContainsFunc_sint_int_lpc_Check_1) :=
  known_of (D := D_slices_ContainsFunc_sint_int_lpc_Check_1 f_slices_IndexFunc_sint_int_lpc_Check_1) mixed Proofs.Try.func76 (by kernel_rfl) (by kernel_rfl) ⟨k_slices_IndexFunc_sint_int_lpc_Check_1, trivial⟩ trivial fun x => (q_slices_ContainsFunc_sint_int_lpc_Check_1 f_slices_IndexFunc_sint_int_lpc_Check_1) x.1 x.2

/-! serinette/lpc.Check -/
abbrev G_lpc_Check := e2 → Option (Int)
def F_lpc_Check (g_slices_ContainsFunc_sint_int_lpc_Check_1 : G_slices_ContainsFunc_sint_int_lpc_Check_1) : G_lpc_Check
  | p1 =>
    Option.bind (α := (Bool × Int × Int × (List Int))) (
      if (decide ((((List.length p1.2.2.1 : Nat) : Int)) < ((1 : Int)))) = true then
        some ((true, p1.1, p1.2.1, p1.2.2.1))
      else
        some (((decide ((((List.length p1.2.2.1 : Nat) : Int)) > ((32 : Int)))), p1.1, p1.2.1, p1.2.2.1))) fun (x2, x3, x4, x5) =>
    Option.bind (α := (Bool × Int × Int × (List Int))) (
      if x2 = true then
        some ((true, x3, x4, x5))
      else
        if (decide (x4 < ((1 : Int)))) = true then
          some ((true, x3, x4, x5))
        else
          if (decide (x4 > ((15 : Int)))) = true then
            some ((true, x3, x4, x5))
          else
            if (decide (x3 < ((0 : Int)))) = true then
              some ((true, x3, x4, x5))
            else
              some (((decide (x3 > ((15 : Int)))), x3, x4, x5))) fun (x6, x7, x8, x9) =>
    if x6 = true then
      some ((1 : Int))
    else
      (g_slices_ContainsFunc_sint_int_lpc_Check_1 ((x9, ((), (x7, (x8, (x9, ()))))))).bind fun x10 =>
      if x10 = true then
        some ((1 : Int))
      else
        some ((0 : Int))
noncomputable def f_lpc_Check : G_lpc_Check := F_lpc_Check f_slices_ContainsFunc_sint_int_lpc_Check_1
def s_lpc_Check : Sig := ⟨[.val y2], [y2], [⟨vI, [], [tI]⟩]⟩
def D_lpc_Check (g_slices_ContainsFunc_sint_int_lpc_Check_1 : G_slices_ContainsFunc_sint_int_lpc_Check_1) : Desc := ⟨[(76, s_slices_ContainsFunc_sint_int_lpc_Check_1.sp g_slices_ContainsFunc_sint_int_lpc_Check_1)], [0, 1, 2, 3], false, [], [(300001, [⟨.normal, [], [(1, .ptr 4096 0 0), (3, vO)], [(4096, 0, .box [vI, vI, vL])], [tO, tI, tI, tL]⟩]), (300002, [⟨.normal, [], [(1, .ptr 4096 0 0), (34, vO)], [(4096, 0, .box [vI, vI, vL])], [tO, tI, tI, tL]⟩])], [], [false]⟩
theorem q_lpc_Check (g_slices_ContainsFunc_sint_int_lpc_Check_1 : G_slices_ContainsFunc_sint_int_lpc_Check_1) : ∀ (p1 : e2), (D_lpc_Check g_slices_ContainsFunc_sint_int_lpc_Check_1).body Proofs.Try.prog Proofs.Try.f91 s_lpc_Check p1 = F_lpc_Check g_slices_ContainsFunc_sint_int_lpc_Check_1 p1 := fun p1 => by kernel_rfl
theorem k_lpc_Check : Known Proofs.Try.prog 91 (s_lpc_Check.sp f_lpc_Check) :=
  known_of (D := D_lpc_Check f_slices_ContainsFunc_sint_int_lpc_Check_1) mixed Proofs.Try.func91 (by kernel_rfl) (by kernel_rfl) ⟨k_slices_ContainsFunc_sint_int_lpc_Check_1, trivial⟩ trivial fun x => (q_lpc_Check f_slices_ContainsFunc_sint_int_lpc_Check_1) x

/-! (serinette/lpc.teller).tell -/
abbrev G_lpc_teller_tell := e2 × (List Int) → Option (Int)
abbrev L_lpc_teller_tell_3 := (List Int) × Int × (List Int) × Int × Int × Int × Int × (List Int) → Option ((Int × Int × Int × (List Int)))
def B_lpc_teller_tell_3 (again : L_lpc_teller_tell_3) : L_lpc_teller_tell_3
  | (a3, a4, a5, a6, a7, a8, a9, a10) =>
    Option.bind (α := ((List Int) × Int × (List Int) × Int × Int × Int × Int × (List Int)) ⊕ (Int × Int × Int × (List Int))) (
      if (decide (a7 < a6)) = true then
        some ((.inl (a3, a4, a5, a6, a7, a8, a9, a10)))
      else
        some ((.inr (a4, a8, a9, a10)))) fun o => match o with
      | (.inl (x11, x12, x13, x14, x15, x16, x17, x18)) =>
        (idx x13 x15).bind fun x19 =>
        (idx x11 ((subI .i64 ((subI .i64 (((List.length x11 : Nat) : Int)) ((1 : Int)))) x15))).bind fun x20 =>
        again ((x11, (addI .i64 x12 ((mulI .i64 x19 x20))), x13, x14, (addI .i64 x15 ((1 : Int))), x16, x17, x18))
      | (.inr (x21, x22, x23, x24)) =>
        some ((x21, x22, x23, x24))
noncomputable def F_lpc_teller_tell_3 : L_lpc_teller_tell_3 := lfp B_lpc_teller_tell_3
abbrev S_lpc_teller_tell_3 (l : L_lpc_teller_tell_3) : LoopS := ⟨⟨.normal, [], [(1, vL), (2, .ptr 8192 0 0), (5, vI), (9, vL), (10, vI), (11, vI)], [(8192, 0, .box [vI, vI, vL])], [tL, tI, tL, tI, tI, tI, tI, tL]⟩, [⟨.exit 0, [], [(2, .ptr 8192 0 0), (5, vI)], [(8192, 0, .box [vI, vI, vL])], [tI, tI, tI, tL]⟩], l⟩
def F_lpc_teller_tell (l_3 : L_lpc_teller_tell_3) : G_lpc_teller_tell
  | (p1, p2) =>
    Option.bind (α := (Int × Int × Int × (List Int))) (
      l_3 ((p2, (0 : Int), p1.2.2.1, ((List.length p1.2.2.1 : Nat) : Int), (0 : Int), p1.1, p1.2.1, p1.2.2.1))) fun (x25, x26, x27, x28) =>
    (shrI .i64 x25 x26).bind fun x29 =>
    some x29
noncomputable def f_lpc_teller_tell : G_lpc_teller_tell := F_lpc_teller_tell F_lpc_teller_tell_3
def s_lpc_teller_tell : Sig := ⟨[.val y2, vL], [y2, tL], [⟨vI, [], [tI]⟩]⟩
def D_lpc_teller_tell (l_3 : L_lpc_teller_tell_3) : Desc := ⟨[], [0, 1, 2, 3, 4, 5, 6, 7], false, [], [(12, [⟨.normal, [], [(1, vL), (2, .ptr 8192 0 0), (5, vI), (9, vL), (10, vI), (11, vI)], [(8192, 0, .box [vI, vI, vL])], [tL, tI, tL, tI, tI, tI, tI, tL]⟩, ⟨.exit 0, [], [(2, .ptr 8192 0 0), (5, vI)], [(8192, 0, .box [vI, vI, vL])], [tI, tI, tI, tL]⟩])], [(3, S_lpc_teller_tell_3 l_3)], [false]⟩
theorem q_lpc_teller_tell (l_3 : L_lpc_teller_tell_3) : (∀ (k : L_lpc_teller_tell_3) (a3 : List Int) (a4 : Int) (a5 : List Int) (a6 : Int) (a7 : Int) (a8 : Int) (a9 : Int) (a10 : List Int), (D_lpc_teller_tell l_3).step Proofs.Try.prog Proofs.Try.f92 3 (S_lpc_teller_tell_3 l_3) k (a3, a4, a5, a6, a7, a8, a9, a10) = B_lpc_teller_tell_3 k (a3, a4, a5, a6, a7, a8, a9, a10)) ∧ (∀ (p1 : e2) (p2 : List Int), (D_lpc_teller_tell l_3).body Proofs.Try.prog Proofs.Try.f92 s_lpc_teller_tell (p1, p2) = F_lpc_teller_tell l_3 (p1, p2)) := ⟨fun k a3 a4 a5 a6 a7 a8 a9 a10 => by kernel_rfl, fun p1 p2 => by kernel_rfl⟩
theorem k_lpc_teller_tell : Known Proofs.Try.prog 92 (s_lpc_teller_tell.sp f_lpc_teller_tell) :=
  known_of (D := D_lpc_teller_tell F_lpc_teller_tell_3) mixed Proofs.Try.func92 (by kernel_rfl) (by kernel_rfl) trivial ⟨fact_of fun k x => (q_lpc_teller_tell F_lpc_teller_tell_3).1 k x.1 x.2.1 x.2.2.1 x.2.2.2.1 x.2.2.2.2.1 x.2.2.2.2.2.1 x.2.2.2.2.2.2.1 x.2.2.2.2.2.2.2, trivial⟩ fun x => (q_lpc_teller_tell F_lpc_teller_tell_3).2 x.1 x.2

/-! serinette/lpc.Residual -/
abbrev G_lpc_Residual := (List Int) × e2 → Option (((List Int) × Int))
abbrev L_lpc_Residual_9 := (List Int) × (e2 × Unit) × Int × (List Int) → Option ((List Int) ⊕ (Int × (List Int)))
def B_lpc_Residual_9 (g_lpc_teller_tell : G_lpc_teller_tell) (again : L_lpc_Residual_9) : L_lpc_Residual_9
  | (a4, a5, a6, a7) =>
    Option.bind (α := ((List Int) × (e2 × Unit) × Int × (List Int)) ⊕ (List Int)) (
      if (decide (a6 < (((List.length a4 : Nat) : Int)))) = true then
        some ((.inl (a4, a5, a6, a7)))
      else
        some ((.inr a7))) fun o => match o with
      | (.inl (x8, x9, x10, x11)) =>
        (idx x8 x10).bind fun x12 =>
        (rng (List.length x8) 0 x10).bind fun x13 =>
        (g_lpc_teller_tell ((x9.1, (view x8 (some x13))))).bind fun x14 =>
        Option.bind (α := ((List Int) × (e2 × Unit) × Int × Int × Bool × (List Int))) (
          if (decide (((subI .i64 x12 x14)) ≤ ((-2147483648 : Int)))) = true then
            some ((x8, x9, x10, (subI .i64 x12 x14), true, x11))
          else
            some ((x8, x9, x10, (subI .i64 x12 x14), (decide (((subI .i64 x12 x14)) ≥ ((2147483648 : Int)))), x11))) fun (x15, x16, x17, x18, x19, x20) =>
        if x19 = true then
          some ((.inr ((14 : Int), ([] : List Int))))
        else
          (room (List.length x20 + List.length ((List.set (List.replicate 1 (0 : Int)) 0 x18)))).bind fun x21 =>
          again ((x15, x16, (addI .i64 x17 ((1 : Int))), (x20 ++ (List.set (List.replicate 1 (0 : Int)) 0 x18))))
      | (.inr x22) =>
        some ((.inl x22))
noncomputable def F_lpc_Residual_9 : L_lpc_Residual_9 := lfp (B_lpc_Residual_9 f_lpc_teller_tell)
abbrev S_lpc_Residual_9 (l : L_lpc_Residual_9) : LoopS := ⟨⟨.normal, [], [(0, vL), (8, .val (.fn 92 y2 .unit)), (9, .lref 36864 0), (10, vI)], [(36864, 0, .own tI)], [tL, .fn 92 y2 .unit, tI, tL]⟩, [⟨.exit 0, [], [(9, .lref 36864 0)], [(36864, 0, .own tI)], [tL]⟩, ⟨.ret, [], [(4, .lref 16384 0), (5, vI)], [(16384, 0, .own tI)], [tI, tL]⟩], l⟩
def F_lpc_Residual (g_lpc_Check : G_lpc_Check) (l_9 : L_lpc_Residual_9) : G_lpc_Residual
  | (p1, p2) =>
    (g_lpc_Check ((p2.1, (p2.2.1, (p2.2.2.1, ()))))).bind fun x3 =>
    if (x3 != ((0 : Int))) = true then
      some ((([] : List Int), x3))
    else
      if (decide ((((List.length p1 : Nat) : Int)) < (((List.length p2.2.2.1 : Nat) : Int)))) = true then
        some ((([] : List Int), (2 : Int)))
      else
        Option.bind (α := (List Int) ⊕ (Int × (List Int))) (
          l_9 ((p1, ((p2.1, (p2.2.1, (p2.2.2.1, ()))), ()), ((List.length p2.2.2.1 : Nat) : Int), ([] : List Int)))) fun o => match o with
          | (.inl x23) =>
            some ((x23, (0 : Int)))
          | (.inr (x24, x25)) =>
            some ((x25, x24))
noncomputable def f_lpc_Residual : G_lpc_Residual := F_lpc_Residual f_lpc_Check F_lpc_Residual_9
def s_lpc_Residual : Sig := ⟨[vL, .val y2], [tL, y2], [⟨.tup [.own tI, vI], [], [tL, tI]⟩]⟩
def D_lpc_Residual (g_lpc_Check : G_lpc_Check) (g_lpc_teller_tell : G_lpc_teller_tell) (l_9 : L_lpc_Residual_9) : Desc := ⟨[(91, s_lpc_Check.sp g_lpc_Check), (92, s_lpc_teller_tell.sp g_lpc_teller_tell)], [0, 1, 2, 3, 4, 5, 6, 7, 8, 9, 10, 11], false, [], [(30, [⟨.normal, [], [(0, vL), (8, .val (.fn 92 y2 .unit)), (9, .lref 36864 0), (10, vI)], [(36864, 0, .own tI)], [tL, .fn 92 y2 .unit, tI, tL]⟩, ⟨.exit 0, [], [(9, .lref 36864 0)], [(36864, 0, .own tI)], [tL]⟩]), (300012, [⟨.normal, [], [(0, vL), (8, .val (.fn 92 y2 .unit)), (9, .lref 36864 0), (10, vI), (11, vI), (48, vO)], [(36864, 0, .own tI)], [tL, .fn 92 y2 .unit, tI, tI, tO, tL]⟩])], [(9, S_lpc_Residual_9 l_9)], [false, false]⟩
theorem q_lpc_Residual (g_lpc_Check : G_lpc_Check) (g_lpc_teller_tell : G_lpc_teller_tell) (l_9 : L_lpc_Residual_9) : (∀ (k : L_lpc_Residual_9) (a4 : List Int) (a5 : e2 × Unit) (a6 : Int) (a7 : List Int), (D_lpc_Residual g_lpc_Check g_lpc_teller_tell l_9).step Proofs.Try.prog Proofs.Try.f75 9 (S_lpc_Residual_9 l_9) k (a4, a5, a6, a7) = B_lpc_Residual_9 g_lpc_teller_tell k (a4, a5, a6, a7)) ∧ (∀ (p1 : List Int) (p2 : e2), (D_lpc_Residual g_lpc_Check g_lpc_teller_tell l_9).body Proofs.Try.prog Proofs.Try.f75 s_lpc_Residual (p1, p2) = F_lpc_Residual g_lpc_Check l_9 (p1, p2)) := ⟨fun k a4 a5 a6 a7 => by kernel_rfl, fun p1 p2 => by kernel_rfl⟩
theorem k_lpc_Residual : Known Proofs.Try.prog 75 (s_lpc_Residual.sp f_lpc_Residual) :=
  known_of (D := D_lpc_Residual f_lpc_Check f_lpc_teller_tell F_lpc_Residual_9) mixed Proofs.Try.func75 (by kernel_rfl) (by kernel_rfl) ⟨k_lpc_Check, k_lpc_teller_tell, trivial⟩ ⟨fact_of fun k x => (q_lpc_Residual f_lpc_Check f_lpc_teller_tell F_lpc_Residual_9).1 k x.1 x.2.1 x.2.2.1 x.2.2.2, trivial⟩ fun x => (q_lpc_Residual f_lpc_Check f_lpc_teller_tell F_lpc_Residual_9).2 x.1 x.2

/-! serinette/subframe.wide -/
abbrev G_subframe_wide := Int → Option (Bool)
def F_subframe_wide : G_subframe_wide
  | p1 =>
    Option.bind (α := Bool) (
      if (decide (p1 ≤ ((-2147483648 : Int)))) = true then
        some true
      else
        some ((decide (p1 ≥ ((2147483648 : Int)))))) fun x2 =>
    some x2
noncomputable def f_subframe_wide : G_subframe_wide := F_subframe_wide
def s_subframe_wide : Sig := ⟨[vI], [tI], [⟨vO, [], [tO]⟩]⟩
def D_subframe_wide : Desc := ⟨[], [0, 1, 2], false, [], [(300001, [⟨.normal, [], [(2, vO)], [], [tO]⟩])], [], [false]⟩
theorem q_subframe_wide : ∀ (p1 : Int), D_subframe_wide.body Proofs.Try.prog Proofs.Try.f77 s_subframe_wide p1 = F_subframe_wide p1 := fun p1 => by kernel_rfl
theorem k_subframe_wide : Known Proofs.Try.prog 77 (s_subframe_wide.sp f_subframe_wide) :=
  known_of (D := D_subframe_wide) mixed Proofs.Try.func77 (by kernel_rfl) (by kernel_rfl) trivial trivial fun x => q_subframe_wide x

/-! slices.IndexFunc[[]int,int] -/
abbrev G_slices_IndexFunc_sint_int_subframe_wide := (List Int) × (Unit × Unit) → Option (Int)
abbrev L_slices_IndexFunc_sint_int_subframe_wide_2 := (List Int) × (Unit × Unit) × Int × Int → Option (Unit ⊕ Int)
def B_slices_IndexFunc_sint_int_subframe_wide_2 (g_subframe_wide : G_subframe_wide) (again : L_slices_IndexFunc_sint_int_subframe_wide_2) : L_slices_IndexFunc_sint_int_subframe_wide_2
  | (a3, a4, a5, a6) =>
    Option.bind (α := ((List Int) × (Unit × Unit) × Int × Int) ⊕ Unit) (
      if (decide (a6 < a5)) = true then
        some ((.inl (a3, a4, a5, a6)))
      else
        some ((.inr ()))) fun o => match o with
      | (.inl (x7, x8, x9, x10)) =>
        (idx x7 x10).bind fun x11 =>
        (g_subframe_wide x11).bind fun x12 =>
        if x12 = true then
          some ((.inr x10))
        else
          again ((x7, x8, x9, (addI .i64 x10 ((1 : Int)))))
      | (.inr _) =>
        some ((.inl ()))
noncomputable def F_slices_IndexFunc_sint_int_subframe_wide_2 : L_slices_IndexFunc_sint_int_subframe_wide_2 := lfp (B_slices_IndexFunc_sint_int_subframe_wide_2 f_subframe_wide)
abbrev S_slices_IndexFunc_sint_int_subframe_wide_2 (l : L_slices_IndexFunc_sint_int_subframe_wide_2) : LoopS := ⟨⟨.normal, [], [(0, vL), (1, .val (.fn 77 .unit .unit)), (7, vI), (8, vI)], [], [tL, .fn 77 .unit .unit, tI, tI]⟩, [⟨.exit 0, [], [], [], []⟩, ⟨.ret, [], [(4, vI)], [], [tI]⟩], l⟩
def F_slices_IndexFunc_sint_int_subframe_wide (l_2 : L_slices_IndexFunc_sint_int_subframe_wide_2) : G_slices_IndexFunc_sint_int_subframe_wide
  | (p1, p2) =>
    Option.bind (α := Unit ⊕ Int) (
      l_2 ((p1, p2, ((List.length p1 : Nat) : Int), (0 : Int)))) fun o => match o with
      | (.inl _) =>
        some ((-1 : Int))
      | (.inr x13) =>
        some x13
noncomputable def f_slices_IndexFunc_sint_int_subframe_wide : G_slices_IndexFunc_sint_int_subframe_wide := F_slices_IndexFunc_sint_int_subframe_wide F_slices_IndexFunc_sint_int_subframe_wide_2
def s_slices_IndexFunc_sint_int_subframe_wide : Sig := ⟨[vL, .val (.fn 77 .unit .unit)], [tL, .fn 77 .unit .unit], [⟨vI, [], [tI]⟩]⟩
def D_slices_IndexFunc_sint_int_subframe_wide (g_subframe_wide : G_subframe_wide) (l_2 : L_slices_IndexFunc_sint_int_subframe_wide_2) : Desc := ⟨[(77, s_subframe_wide.sp g_subframe_wide)], [0, 1, 2, 3, 4, 5], false, [], [(9, [⟨.normal, [], [(0, vL), (1, .val (.fn 77 .unit .unit)), (7, vI), (8, vI)], [], [tL, .fn 77 .unit .unit, tI, tI]⟩, ⟨.exit 0, [], [], [], []⟩])], [(2, S_slices_IndexFunc_sint_int_subframe_wide_2 l_2)], [false]⟩
theorem q_slices_IndexFunc_sint_int_subframe_wide (g_subframe_wide : G_subframe_wide) (l_2 : L_slices_IndexFunc_sint_int_subframe_wide_2) : (∀ (k : L_slices_IndexFunc_sint_int_subframe_wide_2) (a3 : List Int) (a4 : Unit × Unit) (a5 : Int) (a6 : Int), (D_slices_IndexFunc_sint_int_subframe_wide g_subframe_wide l_2).step Proofs.Try.prog Proofs.Try.f96 2 (S_slices_IndexFunc_sint_int_subframe_wide_2 l_2) k (a3, a4, a5, a6) = B_slices_IndexFunc_sint_int_subframe_wide_2 g_subframe_wide k (a3, a4, a5, a6)) ∧ (∀ (p1 : List Int) (p2 : Unit × Unit), (D_slices_IndexFunc_sint_int_subframe_wide g_subframe_wide l_2).body Proofs.Try.prog Proofs.Try.f96 s_slices_IndexFunc_sint_int_subframe_wide (p1, p2) = F_slices_IndexFunc_sint_int_subframe_wide l_2 (p1, p2)) := ⟨fun k a3 a4 a5 a6 => by kernel_rfl, fun p1 p2 => by kernel_rfl⟩
theorem k_slices_IndexFunc_sint_int_subframe_wide : Known Proofs.Try.prog 96 (s_slices_IndexFunc_sint_int_subframe_wide.sp f_slices_IndexFunc_sint_int_subframe_wide) :=
  known_of (D := D_slices_IndexFunc_sint_int_subframe_wide f_subframe_wide F_slices_IndexFunc_sint_int_subframe_wide_2) mixed Proofs.Try.func96 (by kernel_rfl) (by kernel_rfl) ⟨k_subframe_wide, trivial⟩ ⟨fact_of fun k x => (q_slices_IndexFunc_sint_int_subframe_wide f_subframe_wide F_slices_IndexFunc_sint_int_subframe_wide_2).1 k x.1 x.2.1 x.2.2.1 x.2.2.2, trivial⟩ fun x => (q_slices_IndexFunc_sint_int_subframe_wide f_subframe_wide F_slices_IndexFunc_sint_int_subframe_wide_2).2 x.1 x.2

/-! slices.ContainsFunc[[]int,int] -/
abbrev G_slices_ContainsFunc_sint_int_subframe_wide := (List Int) × (Unit × Unit) → Option (Bool)
def F_slices_ContainsFunc_sint_int_subframe_wide (g_slices_IndexFunc_sint_int_subframe_wide : G_slices_IndexFunc_sint_int_subframe_wide) : G_slices_ContainsFunc_sint_int_subframe_wide
  | (p1, p2) =>
    (g_slices_IndexFunc_sint_int_subframe_wide ((p1, p2))).bind fun x3 =>
    some ((decide (x3 ≥ ((0 : Int)))))
noncomputable def f_slices_ContainsFunc_sint_int_subframe_wide : G_slices_ContainsFunc_sint_int_subframe_wide := F_slices_ContainsFunc_sint_int_subframe_wide f_slices_IndexFunc_sint_int_subframe_wide
def s_slices_ContainsFunc_sint_int_subframe_wide : Sig := ⟨[vL, .val (.fn 77 .unit .unit)], [tL, .fn 77 .unit .unit], [⟨vO, [], [tO]⟩]⟩
def D_slices_ContainsFunc_sint_int_subframe_wide (g_slices_IndexFunc_sint_int_subframe_wide : G_slices_IndexFunc_sint_int_subframe_wide) : Desc := ⟨[(96, s_slices_IndexFunc_sint_int_subframe_wide.sp g_slices_IndexFunc_sint_int_subframe_wide)], [0, 1, 2, 3, 4], false, [], [], [], [false]⟩
theorem q_slices_ContainsFunc_sint_int_subframe_wide (g_slices_IndexFunc_sint_int_subframe_wide : G_slices_IndexFunc_sint_int_subframe_wide) : ∀ (p1 : List Int) (p2 : Unit × Unit), (D_slices_ContainsFunc_sint_int_subframe_wide g_slices_IndexFunc_sint_int_subframe_wide).body Proofs.Try.prog Proofs.Try.f76 s_slices_ContainsFunc_sint_int_subframe_wide (p1, p2) = F_slices_ContainsFunc_sint_int_subframe_wide g_slices_IndexFunc_sint_int_subframe_wide (p1, p2) := fun p1 p2 => by kernel_rfl
theorem k_slices_ContainsFunc_sint_int_subframe_wide : Known Proofs.Try.prog 76 (s_slices_ContainsFunc_sint_int_subframe_wide.sp f_slices_ContainsFunc_sint_int_subframe_wide) :=
  known_of (D := D_slices_ContainsFunc_sint_int_subframe_wide f_slices_IndexFunc_sint_int_subframe_wide) mixed Proofs.Try.func76 (by kernel_rfl) (by kernel_rfl) ⟨k_slices_IndexFunc_sint_int_subframe_wide, trivial⟩ trivial fun x => (q_slices_ContainsFunc_sint_int_subframe_wide f_slices_IndexFunc_sint_int_subframe_wide) x.1 x.2

/-! serinette/subframe.Rest -/
abbrev G_subframe_Rest := (List Int) × e9 → Option (((List Int) × Int))
def F_subframe_Rest (g_fixed_Residual : G_fixed_Residual) (g_lpc_Residual : G_lpc_Residual) (g_slices_ContainsFunc_sint_int_subframe_wide : G_slices_ContainsFunc_sint_int_subframe_wide) (g_subframe_down : G_subframe_down) : G_subframe_Rest
  | (p1, p2) =>
    (g_subframe_down ((p1, p2.2.1))).bind fun x3 =>
    Option.bind (α := (Int × Int × Bool × Int × Int × Int × Int × Int × (List Int) × Bool × Int × (List e0) × (List Int) × (List Int))) (
      if (p2.1 == ((0 : Int))) = true then
        some (((1 : Int), p2.1, (p2.1 == ((0 : Int))), p2.1, p2.2.1, p2.2.2.1, p2.2.2.2.1.1, p2.2.2.2.1.2.1, p2.2.2.2.1.2.2.1, p2.2.2.2.2.1.1, p2.2.2.2.2.1.2.1, p2.2.2.2.2.1.2.2.1, ([] : List Int), x3))
      else
        some (((1 : Int), p2.1, (p2.1 == ((1 : Int))), p2.1, p2.2.1, p2.2.2.1, p2.2.2.2.1.1, p2.2.2.2.1.2.1, p2.2.2.2.1.2.2.1, p2.2.2.2.2.1.1, p2.2.2.2.2.1.2.1, p2.2.2.2.2.1.2.2.1, ([] : List Int), x3))) fun (x4, x5, x6, x7, x8, x9, x10, x11, x12, x13, x14, x15, x16, x17) =>
    Option.bind (α := ((List Int) × Int)) (
      if x6 = true then
        some ((x16, (0 : Int)))
      else
        Option.bind (α := ((List Int) × Int)) (
          if (x5 == ((2 : Int))) = true then
            (g_fixed_Residual ((x17, x9))).bind fun (x18, x19) =>
            some ((x18, x19))
          else
            Option.bind (α := (Int × (List Int))) (
              if (x5 == ((3 : Int))) = true then
                (g_lpc_Residual ((x17, (x10, (x11, (x12, ())))))).bind fun (x20, x21) =>
                some ((x21, x20))
              else
                some ((x4, x16))) fun (x22, x23) =>
            some ((x23, x22))) fun (x24, x25) =>
        some ((x24, x25))) fun (x26, x27) =>
    Option.bind (α := ((List Int) × Int × Bool)) (
      if (x27 == ((0 : Int))) = true then
        (g_slices_ContainsFunc_sint_int_subframe_wide ((x26, ((), ())))).bind fun x28 =>
        some ((x26, x27, x28))
      else
        some ((x26, x27, false))) fun (x29, x30, x31) =>
    if x31 = true then
      some ((([] : List Int), (14 : Int)))
    else
      some ((x29, x30))
noncomputable def f_subframe_Rest : G_subframe_Rest := F_subframe_Rest f_fixed_Residual f_lpc_Residual f_slices_ContainsFunc_sint_int_subframe_wide f_subframe_down
def s_subframe_Rest : Sig := ⟨[vL, .val y9], [tL, y9], [⟨.tup [vL, vI], [], [tL, tI]⟩]⟩
def D_subframe_Rest (g_fixed_Residual : G_fixed_Residual) (g_lpc_Residual : G_lpc_Residual) (g_slices_ContainsFunc_sint_int_subframe_wide : G_slices_ContainsFunc_sint_int_subframe_wide) (g_subframe_down : G_subframe_down) : Desc := ⟨[(74, s_fixed_Residual.sp g_fixed_Residual), (75, s_lpc_Residual.sp g_lpc_Residual), (76, s_slices_ContainsFunc_sint_int_subframe_wide.sp g_slices_ContainsFunc_sint_int_subframe_wide), (50, s_subframe_down.sp g_subframe_down)], [0, 1, 2, 3, 4, 5, 6, 7, 8], false, [], [(6000000015, [⟨.normal, [], [(3, .ptr 12288 0 0), (6, .lref 24576 0), (7, vI), (8, .lref 32768 0), (14, vI), (15, vO)], [(12288, 0, .box [vI, vI, vI, vI, vI, vL, vO, vI, .val (.slice y0)]), (24576, 0, .own tI), (32768, 0, .own tI)], [tI, tI, tO, tI, tI, tI, tI, tI, tL, tO, tI, .slice y0, tL, tL]⟩]), (11000027, [⟨.normal, [], [(6, .lref 24576 0), (7, vI)], [(24576, 0, .own tI)], [tI, tL]⟩]), (10009000018, [⟨.normal, [(0, 2000006)], [(6, vL), (7, vI)], [], [tL, tI]⟩]), (8007000015, [⟨.normal, [(0, 2000006)], [(6, vL), (7, vI)], [], [tL, tI]⟩]), (300012, [⟨.normal, [], [(6, vL), (7, vI), (41, vO)], [], [tL, tI, tO]⟩])], [], [true, false]⟩
theorem q_subframe_Rest (g_fixed_Residual : G_fixed_Residual) (g_lpc_Residual : G_lpc_Residual) (g_slices_ContainsFunc_sint_int_subframe_wide : G_slices_ContainsFunc_sint_int_subframe_wide) (g_subframe_down : G_subframe_down) : ∀ (p1 : List Int) (p2 : e9), (D_subframe_Rest g_fixed_Residual g_lpc_Residual g_slices_ContainsFunc_sint_int_subframe_wide g_subframe_down).body Proofs.Try.prog Proofs.Try.f44 s_subframe_Rest (p1, p2) = F_subframe_Rest g_fixed_Residual g_lpc_Residual g_slices_ContainsFunc_sint_int_subframe_wide g_subframe_down (p1, p2) := fun p1 p2 => by kernel_rfl
theorem k_subframe_Rest : Known Proofs.Try.prog 44 (s_subframe_Rest.sp f_subframe_Rest) :=
  known_of (D := D_subframe_Rest f_fixed_Residual f_lpc_Residual f_slices_ContainsFunc_sint_int_subframe_wide f_subframe_down) mixed Proofs.Try.func44 (by kernel_rfl) (by kernel_rfl) ⟨k_fixed_Residual, k_lpc_Residual, k_slices_ContainsFunc_sint_int_subframe_wide, k_subframe_down, trivial⟩ trivial fun x => (q_subframe_Rest f_fixed_Residual f_lpc_Residual f_slices_ContainsFunc_sint_int_subframe_wide f_subframe_down) x.1 x.2

/-! slices.Compact[[]int,int] -/
abbrev G_slices_Compact_sint_int := List Int → Option ((List Int))
abbrev L_slices_Compact_sint_int_9 := Int × Int × Int × Int × (List Int) → Option ((Int × (List Int)))
def B_slices_Compact_sint_int_9 (again : L_slices_Compact_sint_int_9) : L_slices_Compact_sint_int_9
  | (a11, a12, a13, a14, a15) =>
    Option.bind (α := (Int × Int × Int × Int × (List Int)) ⊕ (Int × (List Int))) (
      if (decide (a14 < ((((Int.toNat a13) : Nat) : Int)))) = true then
        some ((.inl (a11, (((Int.toNat a12) : Nat) : Int), (((Int.toNat a13) : Nat) : Int), a14, a15)))
      else
        some ((.inr (a11, a15)))) fun o => match o with
      | (.inl (x16, x17, x18, x19, x20)) =>
        (inb x19 ((Int.toNat x18))).bind fun x21 =>
        (idx x20 (((((Int.toNat x17) : Nat) : Int) + x19))).bind fun x22 =>
        (inb ((subI .i64 x19 ((1 : Int)))) ((Int.toNat x18))).bind fun x23 =>
        (idx x20 (((((Int.toNat x17) : Nat) : Int) + (subI .i64 x19 ((1 : Int)))))).bind fun x24 =>
        Option.bind (α := (Int × Int × Int × Int × (List Int))) (
          if (x22 != x24) = true then
            (inb x19 ((Int.toNat x18))).bind fun x25 =>
            (idx x20 (((((Int.toNat x17) : Nat) : Int) + x19))).bind fun x26 =>
            (inb x16 (List.length x20)).bind fun x27 =>
            (idx x20 x16).bind fun x28 =>
            some (((addI .i64 x16 ((1 : Int))), (((Int.toNat x17) : Nat) : Int), (((Int.toNat x18) : Nat) : Int), x19, (List.set x20 (Int.toNat x16) x26)))
          else
            some ((x16, (((Int.toNat x17) : Nat) : Int), (((Int.toNat x18) : Nat) : Int), x19, x20))) fun (x29, x30, x31, x32, x33) =>
        again ((x29, (((Int.toNat x30) : Nat) : Int), (((Int.toNat x31) : Nat) : Int), (addI .i64 x32 ((1 : Int))), x33))
      | (.inr (x34, x35)) =>
        some ((x34, x35))
noncomputable def F_slices_Compact_sint_int_9 : L_slices_Compact_sint_int_9 := lfp B_slices_Compact_sint_int_9
abbrev S_slices_Compact_sint_int_9 (l : L_slices_Compact_sint_int_9) : LoopS := ⟨⟨.normal, [], [(0, .lref 0 0), (3, vI), (4, .part 0 0), (5, vI)], [(0, 0, .own tI)], [tI, tI, tI, tI, tL]⟩, [⟨.exit 2, [], [(0, .lref 0 0), (3, vI)], [(0, 0, .own tI)], [tI, tL]⟩], l⟩
abbrev L_slices_Compact_sint_int_4 := Int × (List Int) → Option ((List Int) ⊕ (Int × Int × (List Int)))
def B_slices_Compact_sint_int_4 (l_9 : L_slices_Compact_sint_int_9) (again : L_slices_Compact_sint_int_4) : L_slices_Compact_sint_int_4
  | (a2, a3) =>
    Option.bind (α := (Int × (List Int)) ⊕ (List Int)) (
      if (decide (a2 < (((List.length a3 : Nat) : Int)))) = true then
        some ((.inl (a2, a3)))
      else
        some ((.inr a3))) fun o => match o with
      | (.inl (x4, x5)) =>
        (inb x4 (List.length x5)).bind fun x6 =>
        (idx x5 x4).bind fun x7 =>
        (inb ((subI .i64 x4 ((1 : Int)))) (List.length x5)).bind fun x8 =>
        (idx x5 ((subI .i64 x4 ((1 : Int))))).bind fun x9 =>
        if (x7 == x9) = true then
          (rng (List.length x5) x4 (List.length x5 : Nat)).bind fun x10 =>
          Option.bind (α := (Int × (List Int))) (
            l_9 ((x4, (((0 + x10.1) : Nat) : Int), ((x10.2 : Nat) : Int), (1 : Int), x5))) fun (x36, x37) =>
          (rng (List.length x37) x36 (List.length x37 : Nat)).bind fun x38 =>
          (rng (List.length ((splice x37 ((0 + x38.1)) (List.replicate x38.2 (0 : Int))))) 0 x36).bind fun x39 =>
          some ((.inr ((((0 + x39.1) : Nat) : Int), ((x39.2 : Nat) : Int), (splice x37 ((0 + x38.1)) (List.replicate x38.2 (0 : Int))))))
        else
          again (((addI .i64 x4 ((1 : Int))), x5))
      | (.inr x40) =>
        some ((.inl x40))
noncomputable def F_slices_Compact_sint_int_4 : L_slices_Compact_sint_int_4 := lfp (B_slices_Compact_sint_int_4 F_slices_Compact_sint_int_9)
abbrev S_slices_Compact_sint_int_4 (l : L_slices_Compact_sint_int_4) : LoopS := ⟨⟨.normal, [], [(0, .lref 0 0), (3, vI)], [(0, 0, .own tI)], [tI, tL]⟩, [⟨.exit 0, [], [(0, .lref 0 0)], [(0, 0, .own tI)], [tL]⟩, ⟨.ret, [], [(2, .part 0 0)], [(0, 0, .own tI)], [tI, tI, tL]⟩], l⟩
def F_slices_Compact_sint_int (l_4 : L_slices_Compact_sint_int_4) : G_slices_Compact_sint_int
  | p1 =>
    if (decide ((((List.length p1 : Nat) : Int)) < ((2 : Int)))) = true then
      some p1
    else
      Option.bind (α := (List Int) ⊕ (Int × Int × (List Int))) (
        l_4 (((1 : Int), p1))) fun o => match o with
        | (.inl x41) =>
          some x41
        | (.inr (x42, x43, x44)) =>
          some ((view x44 (some ((Int.toNat x42), (Int.toNat x43)))))
noncomputable def f_slices_Compact_sint_int : G_slices_Compact_sint_int := F_slices_Compact_sint_int F_slices_Compact_sint_int_4
def s_slices_Compact_sint_int : Sig := ⟨[.own tI], [tL], [⟨vL, [], [tL]⟩]⟩
def D_slices_Compact_sint_int (l_9 : L_slices_Compact_sint_int_9) (l_4 : L_slices_Compact_sint_int_4) : Desc := ⟨[], [0, 1, 2, 3, 4, 5], false, [], [(13, [⟨.normal, [], [(0, .lref 0 0), (3, vI)], [(0, 0, .own tI)], [tI, tL]⟩, ⟨.exit 0, [], [(0, .lref 0 0)], [(0, 0, .own tI)], [tL]⟩]), (32, [⟨.normal, [], [(0, .lref 0 0), (3, vI), (4, .part 0 0), (5, vI)], [(0, 0, .own tI)], [tI, tI, tI, tI, tL]⟩, ⟨.exit 2, [], [(0, .lref 0 0), (3, vI)], [(0, 0, .own tI)], [tI, tL]⟩]), (12000044, [⟨.normal, [], [(0, .lref 0 0), (3, vI), (4, .part 0 0), (5, vI)], [(0, 0, .own tI)], [tI, tI, tI, tI, tL]⟩])], [(9, S_slices_Compact_sint_int_9 l_9), (4, S_slices_Compact_sint_int_4 l_4)], [true]⟩
theorem q_slices_Compact_sint_int (l_9 : L_slices_Compact_sint_int_9) (l_4 : L_slices_Compact_sint_int_4) : (∀ (k : L_slices_Compact_sint_int_9) (a11 : Int) (a12 : Int) (a13 : Int) (a14 : Int) (a15 : List Int), (D_slices_Compact_sint_int l_9 l_4).step Proofs.Try.prog Proofs.Try.f53 9 (S_slices_Compact_sint_int_9 l_9) k (a11, a12, a13, a14, a15) = B_slices_Compact_sint_int_9 k (a11, a12, a13, a14, a15)) ∧ (∀ (k : L_slices_Compact_sint_int_4) (a2 : Int) (a3 : List Int), (D_slices_Compact_sint_int l_9 l_4).step Proofs.Try.prog Proofs.Try.f53 4 (S_slices_Compact_sint_int_4 l_4) k (a2, a3) = B_slices_Compact_sint_int_4 l_9 k (a2, a3)) ∧ (∀ (p1 : List Int), (D_slices_Compact_sint_int l_9 l_4).body Proofs.Try.prog Proofs.Try.f53 s_slices_Compact_sint_int p1 = F_slices_Compact_sint_int l_4 p1) := ⟨fun k a11 a12 a13 a14 a15 => by kernel_rfl, fun k a2 a3 => by kernel_rfl, fun p1 => by kernel_rfl⟩
theorem k_slices_Compact_sint_int : Known Proofs.Try.prog 53 (s_slices_Compact_sint_int.sp f_slices_Compact_sint_int) :=
  known_of (D := D_slices_Compact_sint_int F_slices_Compact_sint_int_9 F_slices_Compact_sint_int_4) mixed Proofs.Try.func53 (by kernel_rfl) (by kernel_rfl) trivial ⟨fact_of fun k x => (q_slices_Compact_sint_int F_slices_Compact_sint_int_9 F_slices_Compact_sint_int_4).1 k x.1 x.2.1 x.2.2.1 x.2.2.2.1 x.2.2.2.2, fact_of fun k x => (q_slices_Compact_sint_int F_slices_Compact_sint_int_9 F_slices_Compact_sint_int_4).2.1 k x.1 x.2, trivial⟩ fun x => (q_slices_Compact_sint_int F_slices_Compact_sint_int_9 F_slices_Compact_sint_int_4).2.2 x

/-! serinette/subframe.order -/
abbrev G_subframe_order := e9 → Option (Int)
def F_subframe_order : G_subframe_order
  | p1 =>
    if (p1.1 == ((2 : Int))) = true then
      some p1.2.2.1
    else
      if (p1.1 == ((3 : Int))) = true then
        some (((List.length p1.2.2.2.1.2.2.1 : Nat) : Int))
      else
        some ((0 : Int))
noncomputable def f_subframe_order : G_subframe_order := F_subframe_order
def s_subframe_order : Sig := ⟨[.val y9], [y9], [⟨vI, [], [tI]⟩]⟩
def D_subframe_order : Desc := ⟨[], [0, 1, 2], false, [], [], [], [false]⟩
theorem q_subframe_order : ∀ (p1 : e9), D_subframe_order.body Proofs.Try.prog Proofs.Try.f45 s_subframe_order p1 = F_subframe_order p1 := fun p1 => by kernel_rfl
theorem k_subframe_order : Known Proofs.Try.prog 45 (s_subframe_order.sp f_subframe_order) :=
  known_of (D := D_subframe_order) mixed Proofs.Try.func45 (by kernel_rfl) (by kernel_rfl) trivial trivial fun x => q_subframe_order x

/-! serinette/parts.Cuts -/
abbrev G_parts_Cuts := Int × Int × Int → Option ((List Int))
abbrev L_parts_Cuts_9 := Int × Int × Int × Int × (List Int) → Option ((Int × (List Int)))
def B_parts_Cuts_9 (again : L_parts_Cuts_9) : L_parts_Cuts_9
  | (a16, a17, a18, a19, a20) =>
    Option.bind (α := (Int × Int × Int × Int × (List Int)) ⊕ (Int × (List Int))) (
      if (decide (a19 < a18)) = true then
        some ((.inl (a16, a17, a18, a19, a20)))
      else
        some ((.inr (a16, a20)))) fun o => match o with
      | (.inl (x21, x22, x23, x24, x25)) =>
        (inb x24 (List.length x25)).bind fun x26 =>
        (idx x25 x24).bind fun x27 =>
        again ((x21, x22, x23, (addI .i64 x24 ((1 : Int))), (List.set x25 (Int.toNat x24) x22)))
      | (.inr (x28, x29)) =>
        some ((x28, x29))
noncomputable def F_parts_Cuts_9 : L_parts_Cuts_9 := lfp B_parts_Cuts_9
abbrev S_parts_Cuts_9 (l : L_parts_Cuts_9) : LoopS := ⟨⟨.normal, [], [(1, vI), (8, vI), (9, .lref 36864 0), (45, vI), (46, vI)], [(36864, 0, .own tI)], [tI, tI, tI, tI, tL]⟩, [⟨.exit 0, [], [(1, vI), (9, .lref 36864 0)], [(36864, 0, .own tI)], [tI, tL]⟩], l⟩
def F_parts_Cuts (l_9 : L_parts_Cuts_9) : G_parts_Cuts
  | (p1, p2, p3) =>
    Option.bind (α := (Int × Int × Int × Bool)) (
      if (decide (p1 < ((0 : Int)))) = true then
        some ((p1, p2, p3, true))
      else
        if (decide (p2 < ((0 : Int)))) = true then
          some ((p1, p2, p3, true))
        else
          if (decide (p3 < ((0 : Int)))) = true then
            some ((p1, p2, p3, true))
          else
            some ((p1, p2, p3, (decide (p3 > ((15 : Int))))))) fun (x4, x5, x6, x7) =>
    if x7 = true then
      some (([] : List Int))
    else
      (shrI .i64 ((addI .i64 x4 x5)) x6).bind fun x8 =>
      Option.bind (α := (Int × Int × Int × Bool)) (
        (shlI .i64 x8 x6).bind fun x9 =>
        if (x9 != ((addI .i64 x4 x5))) = true then
          some ((x5, x6, x8, true))
        else
          some ((x5, x6, x8, (decide (x8 ≤ x5))))) fun (x10, x11, x12, x13) =>
      if x13 = true then
        some (([] : List Int))
      else
        (shlI .i64 ((1 : Int)) x11).bind fun x14 =>
        (mk x14 8 (0 : Int)).bind fun x15 =>
        Option.bind (α := (Int × (List Int))) (
          l_9 ((x10, x12, ((List.length x15 : Nat) : Int), (0 : Int), x15))) fun (x30, x31) =>
        (inb ((0 : Int)) (List.length x31)).bind fun x32 =>
        (idx x31 ((0 : Int))).bind fun x33 =>
        (inb ((0 : Int)) (List.length x31)).bind fun x34 =>
        (idx x31 ((0 : Int))).bind fun x35 =>
        some ((List.set x31 (Int.toNat ((0 : Int))) ((subI .i64 x33 x30))))
noncomputable def f_parts_Cuts : G_parts_Cuts := F_parts_Cuts F_parts_Cuts_9
def s_parts_Cuts : Sig := ⟨[vI, vI, vI], [tI, tI, tI], [⟨.own tI, [], [tL]⟩]⟩
def D_parts_Cuts (l_9 : L_parts_Cuts_9) : Desc := ⟨[], [0, 1, 2, 3, 4, 5, 6, 7, 8, 9, 10], false, [], [(300001, [⟨.normal, [], [(0, vI), (1, vI), (2, vI), (24, vO)], [], [tI, tI, tI, tO]⟩]), (300005, [⟨.normal, [], [(1, vI), (2, vI), (8, vI), (40, vO)], [], [tI, tI, tI, tO]⟩]), (47, [⟨.normal, [], [(1, vI), (8, vI), (9, .lref 36864 0), (45, vI), (46, vI)], [(36864, 0, .own tI)], [tI, tI, tI, tI, tL]⟩, ⟨.exit 0, [], [(1, vI), (9, .lref 36864 0)], [(36864, 0, .own tI)], [tI, tL]⟩])], [(9, S_parts_Cuts_9 l_9)], [false]⟩
theorem q_parts_Cuts (l_9 : L_parts_Cuts_9) : (∀ (k : L_parts_Cuts_9) (a16 : Int) (a17 : Int) (a18 : Int) (a19 : Int) (a20 : List Int), (D_parts_Cuts l_9).step Proofs.Try.prog Proofs.Try.f61 9 (S_parts_Cuts_9 l_9) k (a16, a17, a18, a19, a20) = B_parts_Cuts_9 k (a16, a17, a18, a19, a20)) ∧ (∀ (p1 : Int) (p2 : Int) (p3 : Int), (D_parts_Cuts l_9).body Proofs.Try.prog Proofs.Try.f61 s_parts_Cuts (p1, p2, p3) = F_parts_Cuts l_9 (p1, p2, p3)) := ⟨fun k a16 a17 a18 a19 a20 => by kernel_rfl, fun p1 p2 p3 => by kernel_rfl⟩
theorem k_parts_Cuts : Known Proofs.Try.prog 61 (s_parts_Cuts.sp f_parts_Cuts) :=
  known_of (D := D_parts_Cuts F_parts_Cuts_9) mixed Proofs.Try.func61 (by kernel_rfl) (by kernel_rfl) trivial ⟨fact_of fun k x => (q_parts_Cuts F_parts_Cuts_9).1 k x.1 x.2.1 x.2.2.1 x.2.2.2.1 x.2.2.2.2, trivial⟩ fun x => (q_parts_Cuts F_parts_Cuts_9).2 x.1 x.2.1 x.2.2

/-! serinette/parts.top -/
abbrev G_parts_top := Bool → Option ((Int × Int))
def F_parts_top : G_parts_top
  | p1 =>
    if p1 = true then
      some (((30 : Int), (5 : Int)))
    else
      some (((14 : Int), (4 : Int)))
noncomputable def f_parts_top : G_parts_top := F_parts_top
def s_parts_top : Sig := ⟨[vO], [tO], [⟨.tup [vI, vI], [], [tI, tI]⟩]⟩
def D_parts_top : Desc := ⟨[], [0, 1, 2, 3], false, [], [], [], [false, false]⟩
theorem q_parts_top : ∀ (p1 : Bool), D_parts_top.body Proofs.Try.prog Proofs.Try.f83 s_parts_top p1 = F_parts_top p1 := fun p1 => by kernel_rfl
theorem k_parts_top : Known Proofs.Try.prog 83 (s_parts_top.sp f_parts_top) :=
  known_of (D := D_parts_top) mixed Proofs.Try.func83 (by kernel_rfl) (by kernel_rfl) trivial trivial fun x => q_parts_top x

/-! serinette/rice.Near -/
abbrev G_rice_Near := Int → Option (Bool)
def F_rice_Near : G_rice_Near
  | p1 =>
    Option.bind (α := Bool) (
      if (decide (p1 ≥ ((-8589934592 : Int)))) = true then
        some ((decide (p1 < ((8589934592 : Int)))))
      else
        some false) fun x2 =>
    some x2
noncomputable def f_rice_Near : G_rice_Near := F_rice_Near
def s_rice_Near : Sig := ⟨[vI], [tI], [⟨vO, [], [tO]⟩]⟩
def D_rice_Near : Desc := ⟨[], [0, 1, 2], false, [], [(300001, [⟨.normal, [], [(2, vO)], [], [tO]⟩])], [], [false]⟩
theorem q_rice_Near : ∀ (p1 : Int), D_rice_Near.body Proofs.Try.prog Proofs.Try.f100 s_rice_Near p1 = F_rice_Near p1 := fun p1 => by kernel_rfl
theorem k_rice_Near : Known Proofs.Try.prog 100 (s_rice_Near.sp f_rice_Near) :=
  known_of (D := D_rice_Near) mixed Proofs.Try.func100 (by kernel_rfl) (by kernel_rfl) trivial trivial fun x => q_rice_Near x

/-! serinette/cost.far -/
abbrev G_cost_far := Int → Option (Bool)
def F_cost_far (g_rice_Near : G_rice_Near) : G_cost_far
  | p1 =>
    (g_rice_Near p1).bind fun x2 =>
    some (!x2)
noncomputable def f_cost_far : G_cost_far := F_cost_far f_rice_Near
def s_cost_far : Sig := ⟨[vI], [tI], [⟨vO, [], [tO]⟩]⟩
def D_cost_far (g_rice_Near : G_rice_Near) : Desc := ⟨[(100, s_rice_Near.sp g_rice_Near)], [0, 1, 2], false, [], [], [], [false]⟩
theorem q_cost_far (g_rice_Near : G_rice_Near) : ∀ (p1 : Int), (D_cost_far g_rice_Near).body Proofs.Try.prog Proofs.Try.f106 s_cost_far p1 = F_cost_far g_rice_Near p1 := fun p1 => by kernel_rfl
theorem k_cost_far : Known Proofs.Try.prog 106 (s_cost_far.sp f_cost_far) :=
  known_of (D := D_cost_far f_rice_Near) mixed Proofs.Try.func106 (by kernel_rfl) (by kernel_rfl) ⟨k_rice_Near, trivial⟩ trivial fun x => (q_cost_far f_rice_Near) x

/-! slices.IndexFunc[[]int,int] -/
abbrev G_slices_IndexFunc_sint_int_cost_far := (List Int) × (Unit × Unit) → Option (Int)
abbrev L_slices_IndexFunc_sint_int_cost_far_2 := (List Int) × (Unit × Unit) × Int × Int → Option (Unit ⊕ Int)
def B_slices_IndexFunc_sint_int_cost_far_2 (g_cost_far : G_cost_far) (again : L_slices_IndexFunc_sint_int_cost_far_2) : L_slices_IndexFunc_sint_int_cost_far_2
  | (a3, a4, a5, a6) =>
    Option.bind (α := ((List Int) × (Unit × Unit) × Int × Int) ⊕ Unit) (
      if (decide (a6 < a5)) = true then
        some ((.inl (a3, a4, a5, a6)))
      else
        some ((.inr ()))) fun o => match o with
      | (.inl (x7, x8, x9, x10)) =>
        (idx x7 x10).bind fun x11 =>
        (g_cost_far x11).bind fun x12 =>
        if x12 = true then
          some ((.inr x10))
        else
          again ((x7, x8, x9, (addI .i64 x10 ((1 : Int)))))
      | (.inr _) =>
        some ((.inl ()))
noncomputable def F_slices_IndexFunc_sint_int_cost_far_2 : L_slices_IndexFunc_sint_int_cost_far_2 := lfp (B_slices_IndexFunc_sint_int_cost_far_2 f_cost_far)
abbrev S_slices_IndexFunc_sint_int_cost_far_2 (l : L_slices_IndexFunc_sint_int_cost_far_2) : LoopS := ⟨⟨.normal, [], [(0, vL), (1, .val (.fn 106 .unit .unit)), (7, vI), (8, vI)], [], [tL, .fn 106 .unit .unit, tI, tI]⟩, [⟨.exit 0, [], [], [], []⟩, ⟨.ret, [], [(4, vI)], [], [tI]⟩], l⟩
def F_slices_IndexFunc_sint_int_cost_far (l_2 : L_slices_IndexFunc_sint_int_cost_far_2) : G_slices_IndexFunc_sint_int_cost_far
  | (p1, p2) =>
    Option.bind (α := Unit ⊕ Int) (
      l_2 ((p1, p2, ((List.length p1 : Nat) : Int), (0 : Int)))) fun o => match o with
      | (.inl _) =>
        some ((-1 : Int))
      | (.inr x13) =>
        some x13
noncomputable def f_slices_IndexFunc_sint_int_cost_far : G_slices_IndexFunc_sint_int_cost_far := F_slices_IndexFunc_sint_int_cost_far F_slices_IndexFunc_sint_int_cost_far_2
def s_slices_IndexFunc_sint_int_cost_far : Sig := ⟨[vL, .val (.fn 106 .unit .unit)], [tL, .fn 106 .unit .unit], [⟨vI, [], [tI]⟩]⟩
def D_slices_IndexFunc_sint_int_cost_far (g_cost_far : G_cost_far) (l_2 : L_slices_IndexFunc_sint_int_cost_far_2) : Desc := ⟨[(106, s_cost_far.sp g_cost_far)], [0, 1, 2, 3, 4, 5], false, [], [(9, [⟨.normal, [], [(0, vL), (1, .val (.fn 106 .unit .unit)), (7, vI), (8, vI)], [], [tL, .fn 106 .unit .unit, tI, tI]⟩, ⟨.exit 0, [], [], [], []⟩])], [(2, S_slices_IndexFunc_sint_int_cost_far_2 l_2)], [false]⟩
theorem q_slices_IndexFunc_sint_int_cost_far (g_cost_far : G_cost_far) (l_2 : L_slices_IndexFunc_sint_int_cost_far_2) : (∀ (k : L_slices_IndexFunc_sint_int_cost_far_2) (a3 : List Int) (a4 : Unit × Unit) (a5 : Int) (a6 : Int), (D_slices_IndexFunc_sint_int_cost_far g_cost_far l_2).step Proofs.Try.prog Proofs.Try.f96 2 (S_slices_IndexFunc_sint_int_cost_far_2 l_2) k (a3, a4, a5, a6) = B_slices_IndexFunc_sint_int_cost_far_2 g_cost_far k (a3, a4, a5, a6)) ∧ (∀ (p1 : List Int) (p2 : Unit × Unit), (D_slices_IndexFunc_sint_int_cost_far g_cost_far l_2).body Proofs.Try.prog Proofs.Try.f96 s_slices_IndexFunc_sint_int_cost_far (p1, p2) = F_slices_IndexFunc_sint_int_cost_far l_2 (p1, p2)) := ⟨fun k a3 a4 a5 a6 => by kernel_rfl, fun p1 p2 => by kernel_rfl⟩
theorem k_slices_IndexFunc_sint_int_cost_far : Known Proofs.Try.prog 96 (s_slices_IndexFunc_sint_int_cost_far.sp f_slices_IndexFunc_sint_int_cost_far) :=
  known_of (D := D_slices_IndexFunc_sint_int_cost_far f_cost_far F_slices_IndexFunc_sint_int_cost_far_2) mixed Proofs.Try.func96 (by kernel_rfl) (by kernel_rfl) ⟨k_cost_far, trivial⟩ ⟨fact_of fun k x => (q_slices_IndexFunc_sint_int_cost_far f_cost_far F_slices_IndexFunc_sint_int_cost_far_2).1 k x.1 x.2.1 x.2.2.1 x.2.2.2, trivial⟩ fun x => (q_slices_IndexFunc_sint_int_cost_far f_cost_far F_slices_IndexFunc_sint_int_cost_far_2).2 x.1 x.2

/-! slices.ContainsFunc[[]int,int] -/
abbrev G_slices_ContainsFunc_sint_int_cost_far := (List Int) × (Unit × Unit) → Option (Bool)
def F_slices_ContainsFunc_sint_int_cost_far (g_slices_IndexFunc_sint_int_cost_far : G_slices_IndexFunc_sint_int_cost_far) : G_slices_ContainsFunc_sint_int_cost_far
  | (p1, p2) =>
    (g_slices_IndexFunc_sint_int_cost_far ((p1, p2))).bind fun x3 =>
    some ((decide (x3 ≥ ((0 : Int)))))
noncomputable def f_slices_ContainsFunc_sint_int_cost_far : G_slices_ContainsFunc_sint_int_cost_far := F_slices_ContainsFunc_sint_int_cost_far f_slices_IndexFunc_sint_int_cost_far
def s_slices_ContainsFunc_sint_int_cost_far : Sig := ⟨[vL, .val (.fn 106 .unit .unit)], [tL, .fn 106 .unit .unit], [⟨vO, [], [tO]⟩]⟩
def D_slices_ContainsFunc_sint_int_cost_far (g_slices_IndexFunc_sint_int_cost_far : G_slices_IndexFunc_sint_int_cost_far) : Desc := ⟨[(96, s_slices_IndexFunc_sint_int_cost_far.sp g_slices_IndexFunc_sint_int_cost_far)], [0, 1, 2, 3, 4], false, [], [], [], [false]⟩
theorem q_slices_ContainsFunc_sint_int_cost_far (g_slices_IndexFunc_sint_int_cost_far : G_slices_IndexFunc_sint_int_cost_far) : ∀ (p1 : List Int) (p2 : Unit × Unit), (D_slices_ContainsFunc_sint_int_cost_far g_slices_IndexFunc_sint_int_cost_far).body Proofs.Try.prog Proofs.Try.f76 s_slices_ContainsFunc_sint_int_cost_far (p1, p2) = F_slices_ContainsFunc_sint_int_cost_far g_slices_IndexFunc_sint_int_cost_far (p1, p2) := fun p1 p2 => by kernel_rfl
theorem k_slices_ContainsFunc_sint_int_cost_far : Known Proofs.Try.prog 76 (s_slices_ContainsFunc_sint_int_cost_far.sp f_slices_ContainsFunc_sint_int_cost_far) :=
  known_of (D := D_slices_ContainsFunc_sint_int_cost_far f_slices_IndexFunc_sint_int_cost_far) mixed Proofs.Try.func76 (by kernel_rfl) (by kernel_rfl) ⟨k_slices_IndexFunc_sint_int_cost_far, trivial⟩ trivial fun x => (q_slices_ContainsFunc_sint_int_cost_far f_slices_IndexFunc_sint_int_cost_far) x.1 x.2

/-! serinette/cost.Width -/
abbrev G_cost_Width := List Int → Option (Int)
abbrev L_cost_Width_7 := Int × Int × (List Int) × Int × Int → Option ((Int × (List Int) × Int × Int))
def B_cost_Width_7 (g_pcm_In : G_pcm_In) (again : L_cost_Width_7) : L_cost_Width_7
  | (a12, a13, a14, a15, a16) =>
    Option.bind (α := (Int × Int × (List Int) × Int × Int × Bool)) (
      if (a13 != ((0 : Int))) = true then
        (g_pcm_In ((a13, a12))).bind fun x17 =>
        some ((a12, a13, a14, a15, a16, (!x17)))
      else
        some ((a12, a13, a14, a15, a16, false))) fun (x18, x19, x20, x21, x22, x23) =>
    Option.bind (α := (Int × Int × (List Int) × Int × Int) ⊕ (Int × (List Int) × Int × Int)) (
      if x23 = true then
        some ((.inl (x18, x19, x20, x21, x22)))
      else
        some ((.inr (x18, x20, x21, x22)))) fun o => match o with
      | (.inl (x24, x25, x26, x27, x28)) =>
        again (((addI .i64 x24 ((1 : Int))), x25, x26, x27, x28))
      | (.inr (x29, x30, x31, x32)) =>
        some ((x29, x30, x31, x32))
noncomputable def F_cost_Width_7 : L_cost_Width_7 := lfp (B_cost_Width_7 f_pcm_In)
abbrev S_cost_Width_7 (l : L_cost_Width_7) : LoopS := ⟨⟨.normal, [], [(3, vI), (5, vI), (8, vL), (9, vI), (10, vI)], [], [tI, tI, tL, tI, tI]⟩, [⟨.exit 2, [], [(3, vI), (8, vL), (9, vI), (10, vI)], [], [tI, tL, tI, tI]⟩], l⟩
abbrev L_cost_Width_5 := Int × (List Int) × Int × Int → Option (Int)
def B_cost_Width_5 (l_7 : L_cost_Width_7) (again : L_cost_Width_5) : L_cost_Width_5
  | (a3, a4, a5, a6) =>
    Option.bind (α := (Int × (List Int) × Int × Int) ⊕ Int) (
      if (decide (a6 < a5)) = true then
        some ((.inl (a3, a4, a5, a6)))
      else
        some ((.inr a3))) fun o => match o with
      | (.inl (x7, x8, x9, x10)) =>
        (idx x8 x10).bind fun x11 =>
        Option.bind (α := (Int × (List Int) × Int × Int)) (
          l_7 ((x7, x11, x8, x9, x10))) fun (x33, x34, x35, x36) =>
        again ((x33, x34, x35, (addI .i64 x36 ((1 : Int)))))
      | (.inr x37) =>
        some x37
noncomputable def F_cost_Width_5 : L_cost_Width_5 := lfp (B_cost_Width_5 F_cost_Width_7)
abbrev S_cost_Width_5 (l : L_cost_Width_5) : LoopS := ⟨⟨.normal, [], [(3, vI), (8, vL), (9, vI), (10, vI)], [], [tI, tL, tI, tI]⟩, [⟨.exit 0, [], [(3, vI)], [], [tI]⟩], l⟩
def F_cost_Width (g_slices_ContainsFunc_sint_int_cost_far : G_slices_ContainsFunc_sint_int_cost_far) (l_5 : L_cost_Width_5) : G_cost_Width
  | p1 =>
    (g_slices_ContainsFunc_sint_int_cost_far ((p1, ((), ())))).bind fun x2 =>
    if x2 = true then
      some ((-1 : Int))
    else
      Option.bind (α := Int) (
        l_5 (((0 : Int), p1, ((List.length p1 : Nat) : Int), (0 : Int)))) fun x38 =>
      some x38
noncomputable def f_cost_Width : G_cost_Width := F_cost_Width f_slices_ContainsFunc_sint_int_cost_far F_cost_Width_5
def s_cost_Width : Sig := ⟨[vL], [tL], [⟨vI, [], [tI]⟩]⟩
def D_cost_Width (g_pcm_In : G_pcm_In) (g_slices_ContainsFunc_sint_int_cost_far : G_slices_ContainsFunc_sint_int_cost_far) (l_7 : L_cost_Width_7) (l_5 : L_cost_Width_5) : Desc := ⟨[(66, s_pcm_In.sp g_pcm_In), (76, s_slices_ContainsFunc_sint_int_cost_far.sp g_slices_ContainsFunc_sint_int_cost_far)], [0, 1, 2, 3, 4, 5], false, [], [(11, [⟨.normal, [], [(3, vI), (8, vL), (9, vI), (10, vI)], [], [tI, tL, tI, tI]⟩, ⟨.exit 0, [], [(3, vI)], [], [tI]⟩]), (300007, [⟨.normal, [], [(3, vI), (5, vI), (8, vL), (9, vI), (10, vI), (21, vO)], [], [tI, tI, tL, tI, tI, tO]⟩]), (21, [⟨.normal, [], [(3, vI), (5, vI), (8, vL), (9, vI), (10, vI)], [], [tI, tI, tL, tI, tI]⟩, ⟨.exit 2, [], [(3, vI), (8, vL), (9, vI), (10, vI)], [], [tI, tL, tI, tI]⟩])], [(7, S_cost_Width_7 l_7), (5, S_cost_Width_5 l_5)], [false]⟩
theorem q_cost_Width (g_pcm_In : G_pcm_In) (g_slices_ContainsFunc_sint_int_cost_far : G_slices_ContainsFunc_sint_int_cost_far) (l_7 : L_cost_Width_7) (l_5 : L_cost_Width_5) : (∀ (k : L_cost_Width_7) (a12 : Int) (a13 : Int) (a14 : List Int) (a15 : Int) (a16 : Int), (D_cost_Width g_pcm_In g_slices_ContainsFunc_sint_int_cost_far l_7 l_5).step Proofs.Try.prog Proofs.Try.f101 7 (S_cost_Width_7 l_7) k (a12, a13, a14, a15, a16) = B_cost_Width_7 g_pcm_In k (a12, a13, a14, a15, a16)) ∧ (∀ (k : L_cost_Width_5) (a3 : Int) (a4 : List Int) (a5 : Int) (a6 : Int), (D_cost_Width g_pcm_In g_slices_ContainsFunc_sint_int_cost_far l_7 l_5).step Proofs.Try.prog Proofs.Try.f101 5 (S_cost_Width_5 l_5) k (a3, a4, a5, a6) = B_cost_Width_5 l_7 k (a3, a4, a5, a6)) ∧ (∀ (p1 : List Int), (D_cost_Width g_pcm_In g_slices_ContainsFunc_sint_int_cost_far l_7 l_5).body Proofs.Try.prog Proofs.Try.f101 s_cost_Width p1 = F_cost_Width g_slices_ContainsFunc_sint_int_cost_far l_5 p1) := ⟨fun k a12 a13 a14 a15 a16 => by kernel_rfl, fun k a3 a4 a5 a6 => by kernel_rfl, fun p1 => by kernel_rfl⟩
theorem k_cost_Width : Known Proofs.Try.prog 101 (s_cost_Width.sp f_cost_Width) :=
  known_of (D := D_cost_Width f_pcm_In f_slices_ContainsFunc_sint_int_cost_far F_cost_Width_7 F_cost_Width_5) mixed Proofs.Try.func101 (by kernel_rfl) (by kernel_rfl) ⟨k_pcm_In, k_slices_ContainsFunc_sint_int_cost_far, trivial⟩ ⟨fact_of fun k x => (q_cost_Width f_pcm_In f_slices_ContainsFunc_sint_int_cost_far F_cost_Width_7 F_cost_Width_5).1 k x.1 x.2.1 x.2.2.1 x.2.2.2.1 x.2.2.2.2, fact_of fun k x => (q_cost_Width f_pcm_In f_slices_ContainsFunc_sint_int_cost_far F_cost_Width_7 F_cost_Width_5).2.1 k x.1 x.2.1 x.2.2.1 x.2.2.2, trivial⟩ fun x => (q_cost_Width f_pcm_In f_slices_ContainsFunc_sint_int_cost_far F_cost_Width_7 F_cost_Width_5).2.2 x

/-! serinette/rice.held -/
abbrev G_rice_held := Int → Option (Int)
def F_rice_held : G_rice_held
  | p1 =>
    some ((maxI ((0 : Int)) ((minI p1 ((30 : Int))))))
noncomputable def f_rice_held : G_rice_held := F_rice_held
def s_rice_held : Sig := ⟨[vI], [tI], [⟨vI, [], [tI]⟩]⟩
def D_rice_held : Desc := ⟨[], [0, 1, 2], false, [], [], [], [false]⟩
theorem q_rice_held : ∀ (p1 : Int), D_rice_held.body Proofs.Try.prog Proofs.Try.f99 s_rice_held p1 = F_rice_held p1 := fun p1 => by kernel_rfl
theorem k_rice_held : Known Proofs.Try.prog 99 (s_rice_held.sp f_rice_held) :=
  known_of (D := D_rice_held) mixed Proofs.Try.func99 (by kernel_rfl) (by kernel_rfl) trivial trivial fun x => q_rice_held x

/-! serinette/rice.Fold -/
abbrev G_rice_Fold := Int → Option (Int)
def F_rice_Fold : G_rice_Fold
  | p1 =>
    (shlI .u64 ((IntKind.wrap .u64 p1)) ((1 : Int))).bind fun x2 =>
    (shrI .i64 p1 ((63 : Int))).bind fun x3 =>
    some ((xorI .u64 x2 ((IntKind.wrap .u64 x3))))
noncomputable def f_rice_Fold : G_rice_Fold := F_rice_Fold
def s_rice_Fold : Sig := ⟨[vI], [tI], [⟨.val tU64, [], [tU64]⟩]⟩
def D_rice_Fold : Desc := ⟨[], [0, 1, 2], false, [], [], [], [false]⟩
theorem q_rice_Fold : ∀ (p1 : Int), D_rice_Fold.body Proofs.Try.prog Proofs.Try.f98 s_rice_Fold p1 = F_rice_Fold p1 := fun p1 => by kernel_rfl
theorem k_rice_Fold : Known Proofs.Try.prog 98 (s_rice_Fold.sp f_rice_Fold) :=
  known_of (D := D_rice_Fold) mixed Proofs.Try.func98 (by kernel_rfl) (by kernel_rfl) trivial trivial fun x => q_rice_Fold x

/-! serinette/rice.Size -/
abbrev G_rice_Size := Int × Int → Option (Int)
def F_rice_Size (g_rice_Fold : G_rice_Fold) (g_rice_Near : G_rice_Near) (g_rice_held : G_rice_held) : G_rice_Size
  | (p1, p2) =>
    (g_rice_Near p1).bind fun x3 =>
    if (!x3) = true then
      some ((-1 : Int))
    else
      (g_rice_held p2).bind fun x4 =>
      (g_rice_Fold p1).bind fun x5 =>
      (shrI .u64 x5 x4).bind fun x6 =>
      some ((addI .i64 ((addI .i64 ((IntKind.wrap .i64 x6)) ((1 : Int)))) x4))
noncomputable def f_rice_Size : G_rice_Size := F_rice_Size f_rice_Fold f_rice_Near f_rice_held
def s_rice_Size : Sig := ⟨[vI, vI], [tI, tI], [⟨vI, [], [tI]⟩]⟩
def D_rice_Size (g_rice_Fold : G_rice_Fold) (g_rice_Near : G_rice_Near) (g_rice_held : G_rice_held) : Desc := ⟨[(98, s_rice_Fold.sp g_rice_Fold), (100, s_rice_Near.sp g_rice_Near), (99, s_rice_held.sp g_rice_held)], [0, 1, 2, 3, 4], false, [], [], [], [false]⟩
theorem q_rice_Size (g_rice_Fold : G_rice_Fold) (g_rice_Near : G_rice_Near) (g_rice_held : G_rice_held) : ∀ (p1 : Int) (p2 : Int), (D_rice_Size g_rice_Fold g_rice_Near g_rice_held).body Proofs.Try.prog Proofs.Try.f107 s_rice_Size (p1, p2) = F_rice_Size g_rice_Fold g_rice_Near g_rice_held (p1, p2) := fun p1 p2 => by kernel_rfl
theorem k_rice_Size : Known Proofs.Try.prog 107 (s_rice_Size.sp f_rice_Size) :=
  known_of (D := D_rice_Size f_rice_Fold f_rice_Near f_rice_held) mixed Proofs.Try.func107 (by kernel_rfl) (by kernel_rfl) ⟨k_rice_Fold, k_rice_Near, k_rice_held, trivial⟩ trivial fun x => (q_rice_Size f_rice_Fold f_rice_Near f_rice_held) x.1 x.2

/-! serinette/cost.Bits -/
abbrev G_cost_Bits := (List Int) × Int → Option (Int)
abbrev L_cost_Bits_5 := Int × Int × (List Int) × Int × Int → Option (Int)
def B_cost_Bits_5 (g_rice_Size : G_rice_Size) (again : L_cost_Bits_5) : L_cost_Bits_5
  | (a4, a5, a6, a7, a8) =>
    Option.bind (α := (Int × Int × (List Int) × Int × Int) ⊕ Int) (
      if (decide (a8 < a7)) = true then
        some ((.inl (a4, a5, a6, a7, a8)))
      else
        some ((.inr a5))) fun o => match o with
      | (.inl (x9, x10, x11, x12, x13)) =>
        (idx x11 x13).bind fun x14 =>
        (g_rice_Size ((x14, x9))).bind fun x15 =>
        again ((x9, (addI .i64 x10 x15), x11, x12, (addI .i64 x13 ((1 : Int)))))
      | (.inr x16) =>
        some x16
noncomputable def F_cost_Bits_5 : L_cost_Bits_5 := lfp (B_cost_Bits_5 f_rice_Size)
abbrev S_cost_Bits_5 (l : L_cost_Bits_5) : LoopS := ⟨⟨.normal, [], [(1, vI), (5, vI), (10, vL), (11, vI), (12, vI)], [], [tI, tI, tL, tI, tI]⟩, [⟨.exit 0, [], [(5, vI)], [], [tI]⟩], l⟩
def F_cost_Bits (g_slices_ContainsFunc_sint_int_cost_far : G_slices_ContainsFunc_sint_int_cost_far) (l_5 : L_cost_Bits_5) : G_cost_Bits
  | (p1, p2) =>
    (g_slices_ContainsFunc_sint_int_cost_far ((p1, ((), ())))).bind fun x3 =>
    if x3 = true then
      some ((-1 : Int))
    else
      Option.bind (α := Int) (
        l_5 ((p2, (0 : Int), p1, ((List.length p1 : Nat) : Int), (0 : Int)))) fun x17 =>
      some x17
noncomputable def f_cost_Bits : G_cost_Bits := F_cost_Bits f_slices_ContainsFunc_sint_int_cost_far F_cost_Bits_5
def s_cost_Bits : Sig := ⟨[vL, vI], [tL, tI], [⟨vI, [], [tI]⟩]⟩
def D_cost_Bits (g_rice_Size : G_rice_Size) (g_slices_ContainsFunc_sint_int_cost_far : G_slices_ContainsFunc_sint_int_cost_far) (l_5 : L_cost_Bits_5) : Desc := ⟨[(107, s_rice_Size.sp g_rice_Size), (76, s_slices_ContainsFunc_sint_int_cost_far.sp g_slices_ContainsFunc_sint_int_cost_far)], [0, 1, 2, 3, 4, 5, 6, 7], false, [], [(13, [⟨.normal, [], [(1, vI), (5, vI), (10, vL), (11, vI), (12, vI)], [], [tI, tI, tL, tI, tI]⟩, ⟨.exit 0, [], [(5, vI)], [], [tI]⟩])], [(5, S_cost_Bits_5 l_5)], [false]⟩
theorem q_cost_Bits (g_rice_Size : G_rice_Size) (g_slices_ContainsFunc_sint_int_cost_far : G_slices_ContainsFunc_sint_int_cost_far) (l_5 : L_cost_Bits_5) : (∀ (k : L_cost_Bits_5) (a4 : Int) (a5 : Int) (a6 : List Int) (a7 : Int) (a8 : Int), (D_cost_Bits g_rice_Size g_slices_ContainsFunc_sint_int_cost_far l_5).step Proofs.Try.prog Proofs.Try.f102 5 (S_cost_Bits_5 l_5) k (a4, a5, a6, a7, a8) = B_cost_Bits_5 g_rice_Size k (a4, a5, a6, a7, a8)) ∧ (∀ (p1 : List Int) (p2 : Int), (D_cost_Bits g_rice_Size g_slices_ContainsFunc_sint_int_cost_far l_5).body Proofs.Try.prog Proofs.Try.f102 s_cost_Bits (p1, p2) = F_cost_Bits g_slices_ContainsFunc_sint_int_cost_far l_5 (p1, p2)) := ⟨fun k a4 a5 a6 a7 a8 => by kernel_rfl, fun p1 p2 => by kernel_rfl⟩
theorem k_cost_Bits : Known Proofs.Try.prog 102 (s_cost_Bits.sp f_cost_Bits) :=
  known_of (D := D_cost_Bits f_rice_Size f_slices_ContainsFunc_sint_int_cost_far F_cost_Bits_5) mixed Proofs.Try.func102 (by kernel_rfl) (by kernel_rfl) ⟨k_rice_Size, k_slices_ContainsFunc_sint_int_cost_far, trivial⟩ ⟨fact_of fun k x => (q_cost_Bits f_rice_Size f_slices_ContainsFunc_sint_int_cost_far F_cost_Bits_5).1 k x.1 x.2.1 x.2.2.1 x.2.2.2.1 x.2.2.2.2, trivial⟩ fun x => (q_cost_Bits f_rice_Size f_slices_ContainsFunc_sint_int_cost_far F_cost_Bits_5).2 x.1 x.2

/-! serinette/cost.raw -/
abbrev G_cost_raw := (List Int) × Int → Option (Int)
def F_cost_raw : G_cost_raw
  | (p1, p2) =>
    some ((addI .i64 ((5 : Int)) ((mulI .i64 p2 (((List.length p1 : Nat) : Int))))))
noncomputable def f_cost_raw : G_cost_raw := F_cost_raw
def s_cost_raw : Sig := ⟨[vL, vI], [tL, tI], [⟨vI, [], [tI]⟩]⟩
def D_cost_raw : Desc := ⟨[], [0, 1, 2, 3, 4], false, [], [], [], [false]⟩
theorem q_cost_raw : ∀ (p1 : List Int) (p2 : Int), D_cost_raw.body Proofs.Try.prog Proofs.Try.f103 s_cost_raw (p1, p2) = F_cost_raw (p1, p2) := fun p1 p2 => by kernel_rfl
theorem k_cost_raw : Known Proofs.Try.prog 103 (s_cost_raw.sp f_cost_raw) :=
  known_of (D := D_cost_raw) mixed Proofs.Try.func103 (by kernel_rfl) (by kernel_rfl) trivial trivial fun x => q_cost_raw x.1 x.2

/-! serinette/cost.Each -/
abbrev G_cost_Each := (List Int) × e0 → Option (Int)
def F_cost_Each (g_cost_Bits : G_cost_Bits) (g_cost_Width : G_cost_Width) (g_cost_raw : G_cost_raw) : G_cost_Each
  | (p1, p2) =>
    (g_cost_Width p1).bind fun x3 =>
    if (!p2.2.1) = true then
      (g_cost_Bits ((p1, p2.1))).bind fun x4 =>
      some x4
    else
      Option.bind (α := ((List Int) × Bool × Int × Bool)) (
        if (decide (x3 < ((0 : Int)))) = true then
          some ((p1, true, p2.1, p2.2.1))
        else
          if (decide (p2.1 < x3)) = true then
            some ((p1, true, p2.1, p2.2.1))
          else
            some ((p1, (decide (p2.1 > ((31 : Int)))), p2.1, p2.2.1))) fun (x5, x6, x7, x8) =>
      if x6 = true then
        some ((-1 : Int))
      else
        (g_cost_raw ((x5, x7))).bind fun x9 =>
        some x9
noncomputable def f_cost_Each : G_cost_Each := F_cost_Each f_cost_Bits f_cost_Width f_cost_raw
def s_cost_Each : Sig := ⟨[vL, .val y0], [tL, y0], [⟨vI, [], [tI]⟩]⟩
def D_cost_Each (g_cost_Bits : G_cost_Bits) (g_cost_Width : G_cost_Width) (g_cost_raw : G_cost_raw) : Desc := ⟨[(102, s_cost_Bits.sp g_cost_Bits), (101, s_cost_Width.sp g_cost_Width), (103, s_cost_raw.sp g_cost_raw)], [0, 1, 2, 3, 4, 5], false, [], [(300004, [⟨.normal, [], [(0, vL), (3, .ptr 12288 0 0), (16, vO)], [(12288, 0, .box [vI, vO])], [tL, tO, tI, tO]⟩])], [], [false]⟩
theorem q_cost_Each (g_cost_Bits : G_cost_Bits) (g_cost_Width : G_cost_Width) (g_cost_raw : G_cost_raw) : ∀ (p1 : List Int) (p2 : e0), (D_cost_Each g_cost_Bits g_cost_Width g_cost_raw).body Proofs.Try.prog Proofs.Try.f84 s_cost_Each (p1, p2) = F_cost_Each g_cost_Bits g_cost_Width g_cost_raw (p1, p2) := fun p1 p2 => by kernel_rfl
theorem k_cost_Each : Known Proofs.Try.prog 84 (s_cost_Each.sp f_cost_Each) :=
  known_of (D := D_cost_Each f_cost_Bits f_cost_Width f_cost_raw) mixed Proofs.Try.func84 (by kernel_rfl) (by kernel_rfl) ⟨k_cost_Bits, k_cost_Width, k_cost_raw, trivial⟩ trivial fun x => (q_cost_Each f_cost_Bits f_cost_Width f_cost_raw) x.1 x.2

/-! serinette/parts.Bits -/
abbrev G_parts_Bits := (List Int) × Int × e4 → Option (Int)
abbrev L_parts_Bits_7 := (List Int) × Int × Int × Int × Int × Int × Bool × Int × (List e0) × (List Int) → Option (Int ⊕ Int)
def B_parts_Bits_7 (g_cost_Each : G_cost_Each) (again : L_parts_Bits_7) : L_parts_Bits_7
  | (a13, a14, a15, a16, a17, a18, a19, a20, a21, a22) =>
    Option.bind (α := ((List Int) × Int × Int × Int × Int × Int × Bool × Int × (List e0) × (List Int)) ⊕ Int) (
      if (decide (a18 < a17)) = true then
        some ((.inl (a13, a14, a15, a16, a17, a18, a19, a20, a21, a22)))
      else
        some ((.inr a16))) fun o => match o with
      | (.inl (x23, x24, x25, x26, x27, x28, x29, x30, x31, x32)) =>
        (inb x28 (List.length x32)).bind fun x33 =>
        (idx x32 x28).bind fun x34 =>
        (idx x31 x28).bind fun x35 =>
        (rng (List.length x23) 0 x34).bind fun x36 =>
        (g_cost_Each (((view x23 (some x36)), (x35.1, (x35.2.1, ()))))).bind fun x37 =>
        Option.bind (α := ((List Int) × Int × Int × Int × Int × Int × Int × Int × Bool × Bool × Int × (List e0) × (List Int))) (
          if (decide (x37 < ((0 : Int)))) = true then
            some ((x23, x24, x25, x26, x34, x37, x27, x28, true, x29, x30, x31, x32))
          else
            if (!x35.2.1) = true then
              if (decide (x35.1 < ((0 : Int)))) = true then
                some ((x23, x24, x25, x26, x34, x37, x27, x28, true, x29, x30, x31, x32))
              else
                some ((x23, x24, x25, x26, x34, x37, x27, x28, (decide (x35.1 > x24)), x29, x30, x31, x32))
            else
              some ((x23, x24, x25, x26, x34, x37, x27, x28, false, x29, x30, x31, x32))) fun (x38, x39, x40, x41, x42, x43, x44, x45, x46, x47, x48, x49, x50) =>
        if x46 = true then
          some ((.inr (-1 : Int)))
        else
          (rng (List.length x38) x42 (List.length x38 : Nat)).bind fun x51 =>
          again (((view x38 (some x51)), x39, x40, (addI .i64 x41 ((addI .i64 x40 x43))), x44, (addI .i64 x45 ((1 : Int))), x47, x48, x49, x50))
      | (.inr x52) =>
        some ((.inl x52))
noncomputable def F_parts_Bits_7 : L_parts_Bits_7 := lfp (B_parts_Bits_7 f_cost_Each)
abbrev S_parts_Bits_7 (l : L_parts_Bits_7) : LoopS := ⟨⟨.normal, [], [(0, vL), (5, .ptr 20480 0 0), (8, vI), (9, vI), (10, vI), (38, .lref 28672 0), (39, vI), (40, vI)], [(20480, 0, .box [vO, vI, .val (.slice y0)]), (28672, 0, .own tI)], [tL, tI, tI, tI, tI, tI, tO, tI, .slice y0, tL]⟩, [⟨.exit 0, [], [(10, vI)], [], [tI]⟩, ⟨.ret, [], [(6, vI)], [], [tI]⟩], l⟩
def F_parts_Bits (g_parts_Cuts : G_parts_Cuts) (g_parts_top : G_parts_top) (l_7 : L_parts_Bits_7) : G_parts_Bits
  | (p1, p2, p3) =>
    (g_parts_Cuts ((((List.length p1 : Nat) : Int), p2, p3.2.1))).bind fun x4 =>
    Option.bind (α := ((List Int) × Bool × Bool × Int × (List e0) × (List Int))) (
      if ((((List.length x4 : Nat) : Int)) == ((0 : Int))) = true then
        some ((p1, true, p3.1, p3.2.1, p3.2.2.1, x4))
      else
        some ((p1, ((((List.length x4 : Nat) : Int)) != (((List.length p3.2.2.1 : Nat) : Int))), p3.1, p3.2.1, p3.2.2.1, x4))) fun (x5, x6, x7, x8, x9, x10) =>
    if x6 = true then
      some ((-1 : Int))
    else
      (g_parts_top x7).bind fun (x11, x12) =>
      Option.bind (α := Int ⊕ Int) (
        l_7 ((x5, x11, x12, (6 : Int), ((List.length x10 : Nat) : Int), (0 : Int), x7, x8, x9, x10))) fun o => match o with
        | (.inl x53) =>
          some x53
        | (.inr x54) =>
          some x54
noncomputable def f_parts_Bits : G_parts_Bits := F_parts_Bits f_parts_Cuts f_parts_top F_parts_Bits_7
def s_parts_Bits : Sig := ⟨[vL, vI, .val y4], [tL, tI, y4], [⟨vI, [], [tI]⟩]⟩
def D_parts_Bits (g_cost_Each : G_cost_Each) (g_parts_Cuts : G_parts_Cuts) (g_parts_top : G_parts_top) (l_7 : L_parts_Bits_7) : Desc := ⟨[(84, s_cost_Each.sp g_cost_Each), (61, s_parts_Cuts.sp g_parts_Cuts), (83, s_parts_top.sp g_parts_top)], [0, 1, 2, 3, 4, 5, 6, 7, 8, 9, 10, 11, 12, 13, 14], false, [], [(300002, [⟨.normal, [], [(0, vL), (5, .ptr 20480 0 0), (7, .lref 28672 0), (31, vO)], [(20480, 0, .box [vO, vI, .val (.slice y0)]), (28672, 0, .own tI)], [tL, tO, tO, tI, .slice y0, tL]⟩]), (41, [⟨.normal, [], [(0, vL), (5, .ptr 20480 0 0), (8, vI), (9, vI), (10, vI), (38, .lref 28672 0), (39, vI), (40, vI)], [(20480, 0, .box [vO, vI, .val (.slice y0)]), (28672, 0, .own tI)], [tL, tI, tI, tI, tI, tI, tO, tI, .slice y0, tL]⟩, ⟨.exit 0, [], [(10, vI)], [], [tI]⟩]), (300011, [⟨.normal, [], [(0, vL), (5, .ptr 20480 0 0), (8, vI), (9, vI), (10, vI), (12, vI), (14, vI), (38, .lref 28672 0), (39, vI), (40, vI), (72, vO)], [(20480, 0, .box [vO, vI, .val (.slice y0)]), (28672, 0, .own tI)], [tL, tI, tI, tI, tI, tI, tI, tI, tO, tO, tI, .slice y0, tL]⟩])], [(7, S_parts_Bits_7 l_7)], [false]⟩
theorem q_parts_Bits (g_cost_Each : G_cost_Each) (g_parts_Cuts : G_parts_Cuts) (g_parts_top : G_parts_top) (l_7 : L_parts_Bits_7) : (∀ (k : L_parts_Bits_7) (a13 : List Int) (a14 : Int) (a15 : Int) (a16 : Int) (a17 : Int) (a18 : Int) (a19 : Bool) (a20 : Int) (a21 : List e0) (a22 : List Int), (D_parts_Bits g_cost_Each g_parts_Cuts g_parts_top l_7).step Proofs.Try.prog Proofs.Try.f55 7 (S_parts_Bits_7 l_7) k (a13, a14, a15, a16, a17, a18, a19, a20, a21, a22) = B_parts_Bits_7 g_cost_Each k (a13, a14, a15, a16, a17, a18, a19, a20, a21, a22)) ∧ (∀ (p1 : List Int) (p2 : Int) (p3 : e4), (D_parts_Bits g_cost_Each g_parts_Cuts g_parts_top l_7).body Proofs.Try.prog Proofs.Try.f55 s_parts_Bits (p1, p2, p3) = F_parts_Bits g_parts_Cuts g_parts_top l_7 (p1, p2, p3)) := ⟨fun k a13 a14 a15 a16 a17 a18 a19 a20 a21 a22 => by kernel_rfl, fun p1 p2 p3 => by kernel_rfl⟩
theorem k_parts_Bits : Known Proofs.Try.prog 55 (s_parts_Bits.sp f_parts_Bits) :=
  known_of (D := D_parts_Bits f_cost_Each f_parts_Cuts f_parts_top F_parts_Bits_7) mixed Proofs.Try.func55 (by kernel_rfl) (by kernel_rfl) ⟨k_cost_Each, k_parts_Cuts, k_parts_top, trivial⟩ ⟨fact_of fun k x => (q_parts_Bits f_cost_Each f_parts_Cuts f_parts_top F_parts_Bits_7).1 k x.1 x.2.1 x.2.2.1 x.2.2.2.1 x.2.2.2.2.1 x.2.2.2.2.2.1 x.2.2.2.2.2.2.1 x.2.2.2.2.2.2.2.1 x.2.2.2.2.2.2.2.2.1 x.2.2.2.2.2.2.2.2.2, trivial⟩ fun x => (q_parts_Bits f_cost_Each f_parts_Cuts f_parts_top F_parts_Bits_7).2 x.1 x.2.1 x.2.2

/-! serinette/subframe.Bits -/
abbrev G_subframe_Bits := (List Int) × e9 × Int → Option ((Int × Int))
def F_subframe_Bits (g_parts_Bits : G_parts_Bits) (g_slices_Clone_sint_int : G_slices_Clone_sint_int) (g_slices_Compact_sint_int : G_slices_Compact_sint_int) (g_subframe_Rest : G_subframe_Rest) (g_subframe_odd : G_subframe_odd) (g_subframe_order : G_subframe_order) : G_subframe_Bits
  | (p1, p2, p3) =>
    (g_subframe_odd ((p1, (p2.1, (p2.2.1, (p2.2.2.1, ((p2.2.2.2.1.1, (p2.2.2.2.1.2.1, (p2.2.2.2.1.2.2.1, ()))), ((p2.2.2.2.2.1.1, (p2.2.2.2.2.1.2.1, (p2.2.2.2.2.1.2.2.1, ()))), ()))))), p3))).bind fun x4 =>
    if (x4 != ((0 : Int))) = true then
      some (((0 : Int), x4))
    else
      (g_subframe_Rest ((p1, (p2.1, (p2.2.1, (p2.2.2.1, ((p2.2.2.2.1.1, (p2.2.2.2.1.2.1, (p2.2.2.2.1.2.2.1, ()))), ((p2.2.2.2.2.1.1, (p2.2.2.2.2.1.2.1, (p2.2.2.2.2.1.2.2.1, ()))), ())))))))).bind fun (x5, x6) =>
      Option.bind (α := ((List Int) × Int × Int × Int × Int × Int × Int × (List Int) × Bool × Int × (List e0)) ⊕ (Int × Int)) (
        Option.bind (α := ((List Int) × Int × Int × Int × Int × Int × Int × Int × Int × (List Int) × Bool × Int × (List e0)) ⊕ ((List Int) × Int × Int × Int × Int × Int × Int × (List Int) × Bool × Int × (List e0)) ⊕ (Int × Int)) (
          Option.bind (α := ((List Int) × Int × Int × Int × Int × Int × Int × Int × Int × (List Int) × Bool × Int × (List e0)) ⊕ ((List Int) × Int × Int × Int × Int × Int × Int × (List Int) × Bool × Int × (List e0)) ⊕ ((List Int) × Int × Int × Int × Int × Int × Int × Int × Int × (List Int) × Bool × Int × (List e0)) ⊕ (Int × Int)) (
            Option.bind (α := ((List Int) × Int × Int) ⊕ ((List Int) × Int × Int × Int × Int × Int × Int × (List Int) × Bool × Int × (List e0)) ⊕ ((List Int) × Int × Int × Int × Int × Int × Int × Int × Int × (List Int) × Bool × Int × (List e0)) ⊕ ((List Int) × Int × Int × Int × Int × Int × Int × Int × Int × (List Int) × Bool × Int × (List e0)) ⊕ (Int × Int)) (
              Option.bind (α := ((List Int) × Int × Int) ⊕ ((List Int) × Int × Int × Int × Int × Int × Int × (List Int) × Bool × Int × (List e0)) ⊕ ((List Int) × Int × Int × Int × Int × Int × Int × Int × Int × (List Int) × Bool × Int × (List e0)) ⊕ ((List Int) × Int × Int × Int × Int × Int × Int × Int × Int × (List Int) × Bool × Int × (List e0)) ⊕ ((List Int) × Int × Int)) (
                Option.bind (α := ((List Int) × (List Int) × Int × Int × Int × Int × Int × Int × Int × Int × Int × (List Int) × Bool × Int × (List e0)) ⊕ ((List Int) × Int × Int)) (
                  if (p2.1 == ((0 : Int))) = true then
                    some ((.inr (p1, (addI .i64 ((8 : Int)) p2.2.1), (subI .i64 p3 p2.2.1))))
                  else
                    some ((.inl (p1, x5, x6, (addI .i64 ((8 : Int)) p2.2.1), (subI .i64 p3 p2.2.1), p2.1, p2.1, p2.2.1, p2.2.2.1, p2.2.2.2.1.1, p2.2.2.2.1.2.1, p2.2.2.2.1.2.2.1, p2.2.2.2.2.1.1, p2.2.2.2.2.1.2.1, p2.2.2.2.2.1.2.2.1)))) fun o => match o with
                  | (.inl (x7, x8, x9, x10, x11, x12, x13, x14, x15, x16, x17, x18, x19, x20, x21)) =>
                    Option.bind (α := ((List Int) × Int × Int × Int × Int × Int × Int × Int × Int × Int × (List Int) × Bool × Int × (List e0)) ⊕ ((List Int) × Int × Int)) (
                      if (x12 == ((1 : Int))) = true then
                        some ((.inr (x7, x10, x11)))
                      else
                        some ((.inl (x8, x9, x10, x11, x12, x13, x14, x15, x16, x17, x18, x19, x20, x21)))) fun o => match o with
                      | (.inl (x22, x23, x24, x25, x26, x27, x28, x29, x30, x31, x32, x33, x34, x35)) =>
                        Option.bind (α := ((List Int) × Int × Int × Int × Int × Int × Int × Int × Int × Int × (List Int) × Bool × Int × (List e0)) ⊕ ((List Int) × Int × Int × Int × Int × Int × Int × Int × Int × (List Int) × Bool × Int × (List e0))) (
                          if (x26 == ((3 : Int))) = true then
                            some ((.inr (x22, x23, x24, x25, x27, x28, x29, x30, x31, x32, x33, x34, x35)))
                          else
                            some ((.inl (x22, x23, x24, x25, x26, x27, x28, x29, x30, x31, x32, x33, x34, x35)))) fun o => match o with
                          | (.inl (x36, x37, x38, x39, x40, x41, x42, x43, x44, x45, x46, x47, x48, x49)) =>
                            Option.bind (α := ((List Int) × Int × Int × Int × Int × Int × Int × (List Int) × Bool × Int × (List e0)) ⊕ ((List Int) × Int × Int × Int × Int × Int × Int × Int × Int × (List Int) × Bool × Int × (List e0))) (
                              if (x40 == ((2 : Int))) = true then
                                some ((.inr (x36, x37, x38, x39, x41, x42, x43, x44, x45, x46, x47, x48, x49)))
                              else
                                some ((.inl (x36, x38, x41, x42, x43, x44, x45, x46, x47, x48, x49)))) fun o => match o with
                              | (.inl (x50, x51, x52, x53, x54, x55, x56, x57, x58, x59, x60)) =>
                                some ((.inr (.inl (x50, x51, x52, x53, x54, x55, x56, x57, x58, x59, x60))))
                              | (.inr (x61, x62, x63, x64, x65, x66, x67, x68, x69, x70, x71, x72, x73)) =>
                                some ((.inr (.inr (.inl (x61, x62, x63, x64, x65, x66, x67, x68, x69, x70, x71, x72, x73)))))
                          | (.inr (x74, x75, x76, x77, x78, x79, x80, x81, x82, x83, x84, x85, x86)) =>
                            some ((.inr (.inr (.inr (.inl (x74, x75, x76, x77, x78, x79, x80, x81, x82, x83, x84, x85, x86))))))
                      | (.inr (x87, x88, x89)) =>
                        some ((.inr (.inr (.inr (.inr (x87, x88, x89))))))
                  | (.inr (x90, x91, x92)) =>
                    some ((.inl (x90, x91, x92)))) fun o => match o with
                | (.inl (x93, x94, x95)) =>
                  (g_slices_Clone_sint_int x93).bind fun x96 =>
                  (g_slices_Compact_sint_int x96).bind fun x97 =>
                  if (decide ((((List.length x97 : Nat) : Int)) > ((1 : Int)))) = true then
                    some ((.inr (.inr (.inr (.inr ((0 : Int), (5 : Int)))))))
                  else
                    some ((.inr (.inr (.inr (.inr ((addI .i64 x94 x95), (0 : Int)))))))
                | (.inr (.inl (x98, x99, x100, x101, x102, x103, x104, x105, x106, x107, x108))) =>
                  some ((.inr (.inl (x98, x99, x100, x101, x102, x103, x104, x105, x106, x107, x108))))
                | (.inr (.inr (.inl (x109, x110, x111, x112, x113, x114, x115, x116, x117, x118, x119, x120, x121)))) =>
                  some ((.inr (.inr (.inl (x109, x110, x111, x112, x113, x114, x115, x116, x117, x118, x119, x120, x121)))))
                | (.inr (.inr (.inr (.inl (x122, x123, x124, x125, x126, x127, x128, x129, x130, x131, x132, x133, x134))))) =>
                  some ((.inr (.inr (.inr (.inl (x122, x123, x124, x125, x126, x127, x128, x129, x130, x131, x132, x133, x134))))))
                | (.inr (.inr (.inr (.inr (x135, x136, x137))))) =>
                  some ((.inl (x135, x136, x137)))) fun o => match o with
              | (.inl (x138, x139, x140)) =>
                some ((.inr (.inr (.inr ((addI .i64 x139 ((mulI .i64 x140 (((List.length x138 : Nat) : Int))))), (0 : Int))))))
              | (.inr (.inl (x141, x142, x143, x144, x145, x146, x147, x148, x149, x150, x151))) =>
                some ((.inr (.inl (x141, x142, x143, x144, x145, x146, x147, x148, x149, x150, x151))))
              | (.inr (.inr (.inl (x152, x153, x154, x155, x156, x157, x158, x159, x160, x161, x162, x163, x164)))) =>
                some ((.inr (.inr (.inl (x152, x153, x154, x155, x156, x157, x158, x159, x160, x161, x162, x163, x164)))))
              | (.inr (.inr (.inr (.inl (x165, x166, x167, x168, x169, x170, x171, x172, x173, x174, x175, x176, x177))))) =>
                some ((.inl (x165, x166, x167, x168, x169, x170, x171, x172, x173, x174, x175, x176, x177)))
              | (.inr (.inr (.inr (.inr (x178, x179))))) =>
                some ((.inr (.inr (.inr (x178, x179)))))) fun o => match o with
            | (.inl (x180, x181, x182, x183, x184, x185, x186, x187, x188, x189, x190, x191, x192)) =>
              some ((.inl (x180, x181, (addI .i64 x182 ((addI .i64 ((9 : Int)) ((mulI .i64 x188 (((List.length x189 : Nat) : Int))))))), x183, x184, x185, x186, x187, x188, x189, x190, x191, x192)))
            | (.inr (.inl (x193, x194, x195, x196, x197, x198, x199, x200, x201, x202, x203))) =>
              some ((.inr (.inl (x193, x194, x195, x196, x197, x198, x199, x200, x201, x202, x203))))
            | (.inr (.inr (.inl (x204, x205, x206, x207, x208, x209, x210, x211, x212, x213, x214, x215, x216)))) =>
              some ((.inl (x204, x205, x206, x207, x208, x209, x210, x211, x212, x213, x214, x215, x216)))
            | (.inr (.inr (.inr (x217, x218)))) =>
              some ((.inr (.inr (x217, x218))))) fun o => match o with
          | (.inl (x219, x220, x221, x222, x223, x224, x225, x226, x227, x228, x229, x230, x231)) =>
            if (x220 != ((0 : Int))) = true then
              some ((.inr ((0 : Int), x220)))
            else
              (g_subframe_order ((x223, (x224, (x225, ((x226, (x227, (x228, ()))), ((x229, (x230, (x231, ()))), ()))))))).bind fun x232 =>
              some ((.inl (x219, (addI .i64 x221 ((mulI .i64 x222 x232))), x223, x224, x225, x226, x227, x228, x229, x230, x231)))
          | (.inr (.inl (x233, x234, x235, x236, x237, x238, x239, x240, x241, x242, x243))) =>
            some ((.inl (x233, x234, x235, x236, x237, x238, x239, x240, x241, x242, x243)))
          | (.inr (.inr (x244, x245))) =>
            some ((.inr (x244, x245)))) fun o => match o with
        | (.inl (x246, x247, x248, x249, x250, x251, x252, x253, x254, x255, x256)) =>
          (g_subframe_order ((x248, (x249, (x250, ((x251, (x252, (x253, ()))), ((x254, (x255, (x256, ()))), ()))))))).bind fun x257 =>
          (g_parts_Bits ((x246, x257, (x254, (x255, (x256, ())))))).bind fun x258 =>
          if (decide (x258 < ((0 : Int)))) = true then
            some (((0 : Int), (1 : Int)))
          else
            some (((addI .i64 x247 x258), (0 : Int)))
        | (.inr (x259, x260)) =>
          some ((x259, x260))
noncomputable def f_subframe_Bits : G_subframe_Bits := F_subframe_Bits f_parts_Bits f_slices_Clone_sint_int f_slices_Compact_sint_int f_subframe_Rest f_subframe_odd f_subframe_order
def s_subframe_Bits : Sig := ⟨[vL, .val y9, vI], [tL, y9, tI], [⟨.tup [vI, vI], [], [tI, tI]⟩]⟩
def D_subframe_Bits (g_parts_Bits : G_parts_Bits) (g_slices_Clone_sint_int : G_slices_Clone_sint_int) (g_slices_Compact_sint_int : G_slices_Compact_sint_int) (g_subframe_Rest : G_subframe_Rest) (g_subframe_odd : G_subframe_odd) (g_subframe_order : G_subframe_order) : Desc := ⟨[(55, s_parts_Bits.sp g_parts_Bits), (54, s_slices_Clone_sint_int.sp g_slices_Clone_sint_int), (53, s_slices_Compact_sint_int.sp g_slices_Compact_sint_int), (44, s_subframe_Rest.sp g_subframe_Rest), (52, s_subframe_odd.sp g_subframe_odd), (45, s_subframe_order.sp g_subframe_order)], [0, 1, 2, 3, 4, 5, 6, 7, 8, 9, 10, 11, 12, 13], false, [53], [(36, [⟨.normal, [], [(0, vL), (4, .ptr 16384 0 0), (9, vL), (10, vI), (11, vI), (12, vI), (35, vI)], [(16384, 0, .box [vI, vI, vI, vI, vI, vL, vO, vI, .val (.slice y0)])], [tL, tL, tI, tI, tI, tI, tI, tI, tI, tI, tI, tL, tO, tI, .slice y0]⟩, ⟨.exit 1, [], [(0, vL), (11, vI), (12, vI)], [], [tL, tI, tI]⟩]), (38, [⟨.normal, [], [(4, .ptr 16384 0 0), (9, vL), (10, vI), (11, vI), (12, vI), (35, vI)], [(16384, 0, .box [vI, vI, vI, vI, vI, vL, vO, vI, .val (.slice y0)])], [tL, tI, tI, tI, tI, tI, tI, tI, tI, tI, tL, tO, tI, .slice y0]⟩, ⟨.exit 2, [], [(0, vL), (11, vI), (12, vI)], [], [tL, tI, tI]⟩]), (40, [⟨.normal, [], [(4, .ptr 16384 0 0), (9, vL), (10, vI), (11, vI), (12, vI), (35, vI)], [(16384, 0, .box [vI, vI, vI, vI, vI, vL, vO, vI, .val (.slice y0)])], [tL, tI, tI, tI, tI, tI, tI, tI, tI, tI, tL, tO, tI, .slice y0]⟩, ⟨.exit 3, [], [(4, .ptr 16384 0 0), (9, vL), (10, vI), (11, vI), (12, vI)], [(16384, 0, .box [vI, vI, vI, vI, vI, vL, vO, vI, .val (.slice y0)])], [tL, tI, tI, tI, tI, tI, tI, tI, tI, tL, tO, tI, .slice y0]⟩]), (42, [⟨.normal, [], [(4, .ptr 16384 0 0), (9, vL), (11, vI)], [(16384, 0, .box [vI, vI, vI, vI, vI, vL, vO, vI, .val (.slice y0)])], [tL, tI, tI, tI, tI, tI, tI, tL, tO, tI, .slice y0]⟩, ⟨.exit 4, [], [(4, .ptr 16384 0 0), (9, vL), (10, vI), (11, vI), (12, vI)], [(16384, 0, .box [vI, vI, vI, vI, vI, vL, vO, vI, .val (.slice y0)])], [tL, tI, tI, tI, tI, tI, tI, tI, tI, tL, tO, tI, .slice y0]⟩]), (200001, [⟨.normal, [], [(0, vL), (11, vI), (12, vI)], [], [tL, tI, tI]⟩, ⟨.exit 0, [], [(4, .ptr 16384 0 0), (9, vL), (11, vI)], [(16384, 0, .box [vI, vI, vI, vI, vI, vL, vO, vI, .val (.slice y0)])], [tL, tI, tI, tI, tI, tI, tI, tL, tO, tI, .slice y0]⟩, ⟨.exit 4, [], [(4, .ptr 16384 0 0), (9, vL), (10, vI), (11, vI), (12, vI)], [(16384, 0, .box [vI, vI, vI, vI, vI, vL, vO, vI, .val (.slice y0)])], [tL, tI, tI, tI, tI, tI, tI, tI, tI, tL, tO, tI, .slice y0]⟩, ⟨.exit 3, [], [(4, .ptr 16384 0 0), (9, vL), (10, vI), (11, vI), (12, vI)], [(16384, 0, .box [vI, vI, vI, vI, vI, vL, vO, vI, .val (.slice y0)])], [tL, tI, tI, tI, tI, tI, tI, tI, tI, tL, tO, tI, .slice y0]⟩, ⟨.exit 2, [], [(0, vL), (11, vI), (12, vI)], [], [tL, tI, tI]⟩]), (200002, [⟨.normal, [], [(0, vL), (11, vI), (12, vI)], [], [tL, tI, tI]⟩, ⟨.exit 0, [], [(4, .ptr 16384 0 0), (9, vL), (11, vI)], [(16384, 0, .box [vI, vI, vI, vI, vI, vL, vO, vI, .val (.slice y0)])], [tL, tI, tI, tI, tI, tI, tI, tL, tO, tI, .slice y0]⟩, ⟨.exit 4, [], [(4, .ptr 16384 0 0), (9, vL), (10, vI), (11, vI), (12, vI)], [(16384, 0, .box [vI, vI, vI, vI, vI, vL, vO, vI, .val (.slice y0)])], [tL, tI, tI, tI, tI, tI, tI, tI, tI, tL, tO, tI, .slice y0]⟩, ⟨.exit 3, [], [(4, .ptr 16384 0 0), (9, vL), (10, vI), (11, vI), (12, vI)], [(16384, 0, .box [vI, vI, vI, vI, vI, vL, vO, vI, .val (.slice y0)])], [tL, tI, tI, tI, tI, tI, tI, tI, tI, tL, tO, tI, .slice y0]⟩, ⟨.ret, [], [(6, vI), (7, vI)], [], [tI, tI]⟩]), (200003, [⟨.normal, [], [(4, .ptr 16384 0 0), (9, vL), (10, vI), (11, vI), (12, vI)], [(16384, 0, .box [vI, vI, vI, vI, vI, vL, vO, vI, .val (.slice y0)])], [tL, tI, tI, tI, tI, tI, tI, tI, tI, tL, tO, tI, .slice y0]⟩, ⟨.exit 0, [], [(4, .ptr 16384 0 0), (9, vL), (11, vI)], [(16384, 0, .box [vI, vI, vI, vI, vI, vL, vO, vI, .val (.slice y0)])], [tL, tI, tI, tI, tI, tI, tI, tL, tO, tI, .slice y0]⟩, ⟨.exit 4, [], [(4, .ptr 16384 0 0), (9, vL), (10, vI), (11, vI), (12, vI)], [(16384, 0, .box [vI, vI, vI, vI, vI, vL, vO, vI, .val (.slice y0)])], [tL, tI, tI, tI, tI, tI, tI, tI, tI, tL, tO, tI, .slice y0]⟩, ⟨.ret, [], [(6, vI), (7, vI)], [], [tI, tI]⟩]), (200004, [⟨.normal, [], [(4, .ptr 16384 0 0), (9, vL), (10, vI), (11, vI), (12, vI)], [(16384, 0, .box [vI, vI, vI, vI, vI, vL, vO, vI, .val (.slice y0)])], [tL, tI, tI, tI, tI, tI, tI, tI, tI, tL, tO, tI, .slice y0]⟩, ⟨.exit 0, [], [(4, .ptr 16384 0 0), (9, vL), (11, vI)], [(16384, 0, .box [vI, vI, vI, vI, vI, vL, vO, vI, .val (.slice y0)])], [tL, tI, tI, tI, tI, tI, tI, tL, tO, tI, .slice y0]⟩, ⟨.ret, [], [(6, vI), (7, vI)], [], [tI, tI]⟩]), (200000, [⟨.normal, [], [(4, .ptr 16384 0 0), (9, vL), (11, vI)], [(16384, 0, .box [vI, vI, vI, vI, vI, vL, vO, vI, .val (.slice y0)])], [tL, tI, tI, tI, tI, tI, tI, tL, tO, tI, .slice y0]⟩, ⟨.ret, [], [(6, vI), (7, vI)], [], [tI, tI]⟩])], [], [false, false]⟩
theorem q_subframe_Bits (g_parts_Bits : G_parts_Bits) (g_slices_Clone_sint_int : G_slices_Clone_sint_int) (g_slices_Compact_sint_int : G_slices_Compact_sint_int) (g_subframe_Rest : G_subframe_Rest) (g_subframe_odd : G_subframe_odd) (g_subframe_order : G_subframe_order) : ∀ (p1 : List Int) (p2 : e9) (p3 : Int), (D_subframe_Bits g_parts_Bits g_slices_Clone_sint_int g_slices_Compact_sint_int g_subframe_Rest g_subframe_odd g_subframe_order).body Proofs.Try.prog Proofs.Try.f17 s_subframe_Bits (p1, p2, p3) = F_subframe_Bits g_parts_Bits g_slices_Clone_sint_int g_slices_Compact_sint_int g_subframe_Rest g_subframe_odd g_subframe_order (p1, p2, p3) := fun p1 p2 p3 => by kernel_rfl
theorem k_subframe_Bits : Known Proofs.Try.prog 17 (s_subframe_Bits.sp f_subframe_Bits) :=
  known_of (D := D_subframe_Bits f_parts_Bits f_slices_Clone_sint_int f_slices_Compact_sint_int f_subframe_Rest f_subframe_odd f_subframe_order) mixed Proofs.Try.func17 (by kernel_rfl) (by kernel_rfl) ⟨k_parts_Bits, k_slices_Clone_sint_int, k_slices_Compact_sint_int, k_subframe_Rest, k_subframe_odd, k_subframe_order, trivial⟩ trivial fun x => (q_subframe_Bits f_parts_Bits f_slices_Clone_sint_int f_slices_Compact_sint_int f_subframe_Rest f_subframe_odd f_subframe_order) x.1 x.2.1 x.2.2

/-! serinette/section.Put: nothing is told -/
abbrev G_section_Put := (List Int) × Int × (List Int) × Int × e4 → Option ((Int × (List Int) × Int))
def f_section_Put : G_section_Put := fun _ => none
def s_section_Put : Sig := ⟨[.box [.own tU8, vI], vL, vI, .val y4], [tB, tI, tL, tI, y4], [⟨vI, [.box [.own tU8, vI]], [tI, tB, tI]⟩]⟩
theorem k_section_Put : Known Proofs.Try.prog 46 (s_section_Put.sp f_section_Put) := known_none Proofs.Try.func46 (by kernel_rfl) (by kernel_rfl)

/-! serinette/subframe.typed -/
abbrev G_subframe_typed := e9 → Option (Int)
def F_subframe_typed : G_subframe_typed
  | p1 =>
    if (p1.1 == ((2 : Int))) = true then
      some ((addI .i64 ((8 : Int)) p1.2.2.1))
    else
      if (p1.1 == ((3 : Int))) = true then
        some ((addI .i64 ((31 : Int)) (((List.length p1.2.2.2.1.2.2.1 : Nat) : Int))))
      else
        some p1.1
noncomputable def f_subframe_typed : G_subframe_typed := F_subframe_typed
def s_subframe_typed : Sig := ⟨[.val y9], [y9], [⟨vI, [], [tI]⟩]⟩
def D_subframe_typed : Desc := ⟨[], [0, 1, 2], false, [], [], [], [false]⟩
theorem q_subframe_typed : ∀ (p1 : e9), D_subframe_typed.body Proofs.Try.prog Proofs.Try.f48 s_subframe_typed p1 = F_subframe_typed p1 := fun p1 => by kernel_rfl
theorem k_subframe_typed : Known Proofs.Try.prog 48 (s_subframe_typed.sp f_subframe_typed) :=
  known_of (D := D_subframe_typed) mixed Proofs.Try.func48 (by kernel_rfl) (by kernel_rfl) trivial trivial fun x => q_subframe_typed x

/-! serinette/bits.held -/
abbrev G_bits_held := Int → Option (Int)
def F_bits_held : G_bits_held
  | p1 =>
    some ((maxI ((0 : Int)) ((minI p1 ((64 : Int))))))
noncomputable def f_bits_held : G_bits_held := F_bits_held
def s_bits_held : Sig := ⟨[vI], [tI], [⟨vI, [], [tI]⟩]⟩
def D_bits_held : Desc := ⟨[], [0, 1, 2], false, [], [], [], [false]⟩
theorem q_bits_held : ∀ (p1 : Int), D_bits_held.body Proofs.Try.prog Proofs.Try.f82 s_bits_held p1 = F_bits_held p1 := fun p1 => by kernel_rfl
theorem k_bits_held : Known Proofs.Try.prog 82 (s_bits_held.sp f_bits_held) :=
  known_of (D := D_bits_held) mixed Proofs.Try.func82 (by kernel_rfl) (by kernel_rfl) trivial trivial fun x => q_bits_held x

/-! (*serinette/bits.Writer).Put -/
abbrev G_bits_Writer_Put := (List Int) × Int × Int × Int → Option (((List Int) × Int))
abbrev L_bits_Writer_Put_g0 := Int × Int × Int × (List Int) → Option ((Int × (List Int)))
def B_bits_Writer_Put_g0 (again : L_bits_Writer_Put_g0) : L_bits_Writer_Put_g0
  | (a20, a21, a22, a23) =>
    if (a21 == ((0 : Int))) = true then
      some ((a22, a23))
    else
      (remI a22 ((8 : Int))).bind fun x24 =>
      Option.bind (α := (Int × Int × Int × (List Int))) (
        if (x24 == ((0 : Int))) = true then
          (room (List.length a23 + List.length ((List.set (List.replicate 1 (0 : Int)) 0 ((0 : Int)))))).bind fun x25 =>
          some ((a20, a21, a22, (a23 ++ (List.set (List.replicate 1 (0 : Int)) 0 ((0 : Int))))))
        else
          some ((a20, a21, a22, a23))) fun (x26, x27, x28, x29) =>
      (remI x28 ((8 : Int))).bind fun x30 =>
      (shrI .u64 x26 ((subI .i64 x27 ((minI ((subI .i64 ((8 : Int)) x30)) x27))))).bind fun x31 =>
      (shlI .u8 ((1 : Int)) ((minI ((subI .i64 ((8 : Int)) x30)) x27))).bind fun x32 =>
      (inb ((subI .i64 (((List.length x29 : Nat) : Int)) ((1 : Int)))) (List.length x29)).bind fun x33 =>
      (idx x29 ((subI .i64 (((List.length x29 : Nat) : Int)) ((1 : Int))))).bind fun x34 =>
      (shlI .u8 ((andI .u8 ((IntKind.wrap .u8 x31)) ((subI .u8 x32 ((1 : Int)))))) ((subI .i64 ((subI .i64 ((8 : Int)) x30)) ((minI ((subI .i64 ((8 : Int)) x30)) x27))))).bind fun x35 =>
      (inb ((subI .i64 (((List.length x29 : Nat) : Int)) ((1 : Int)))) (List.length x29)).bind fun x36 =>
      (idx x29 ((subI .i64 (((List.length x29 : Nat) : Int)) ((1 : Int))))).bind fun x37 =>
      again ((x26, (subI .i64 x27 ((minI ((subI .i64 ((8 : Int)) x30)) x27))), (addI .i64 x28 ((minI ((subI .i64 ((8 : Int)) x30)) x27))), (List.set x29 (Int.toNat ((subI .i64 (((List.length x29 : Nat) : Int)) ((1 : Int))))) ((orI .u8 x34 x35)))))
noncomputable def F_bits_Writer_Put_g0 : L_bits_Writer_Put_g0 := lfp B_bits_Writer_Put_g0
abbrev S_bits_Writer_Put_g0 (l : L_bits_Writer_Put_g0) : LoopS := ⟨⟨.normal, [], [(0, .ptr 0 1 0), (1, .val tU64), (6, vI)], [(0, 1, .box [.lref 1 0, vI]), (1, 0, .own tU8)], [tU64, tI, tI, tB]⟩, [⟨.ret, [], [], [(0, 1, .box [.lref 1 0, vI]), (1, 0, .own tU8)], [tI, tB]⟩], l⟩
def F_bits_Writer_Put (g_bits_held : G_bits_held) (l_100000 : L_bits_Writer_Put_g0) : G_bits_Writer_Put
  | (p1, p2, p3, p4) =>
    (g_bits_held p4).bind fun x5 =>
    if (x5 == ((0 : Int))) = true then
      some ((p1, p2))
    else
      (remI p2 ((8 : Int))).bind fun x6 =>
      Option.bind (α := (Int × Int × Int × (List Int))) (
        if (x6 == ((0 : Int))) = true then
          (room (List.length p1 + List.length ((List.set (List.replicate 1 (0 : Int)) 0 ((0 : Int)))))).bind fun x7 =>
          some ((p3, x5, p2, (p1 ++ (List.set (List.replicate 1 (0 : Int)) 0 ((0 : Int))))))
        else
          some ((p3, x5, p2, p1))) fun (x8, x9, x10, x11) =>
      (remI x10 ((8 : Int))).bind fun x12 =>
      (shrI .u64 x8 ((subI .i64 x9 ((minI ((subI .i64 ((8 : Int)) x12)) x9))))).bind fun x13 =>
      (shlI .u8 ((1 : Int)) ((minI ((subI .i64 ((8 : Int)) x12)) x9))).bind fun x14 =>
      (inb ((subI .i64 (((List.length x11 : Nat) : Int)) ((1 : Int)))) (List.length x11)).bind fun x15 =>
      (idx x11 ((subI .i64 (((List.length x11 : Nat) : Int)) ((1 : Int))))).bind fun x16 =>
      (shlI .u8 ((andI .u8 ((IntKind.wrap .u8 x13)) ((subI .u8 x14 ((1 : Int)))))) ((subI .i64 ((subI .i64 ((8 : Int)) x12)) ((minI ((subI .i64 ((8 : Int)) x12)) x9))))).bind fun x17 =>
      (inb ((subI .i64 (((List.length x11 : Nat) : Int)) ((1 : Int)))) (List.length x11)).bind fun x18 =>
      (idx x11 ((subI .i64 (((List.length x11 : Nat) : Int)) ((1 : Int))))).bind fun x19 =>
      Option.bind (α := (Int × (List Int))) (
        l_100000 ((x8, (subI .i64 x9 ((minI ((subI .i64 ((8 : Int)) x12)) x9))), (addI .i64 x10 ((minI ((subI .i64 ((8 : Int)) x12)) x9))), (List.set x11 (Int.toNat ((subI .i64 (((List.length x11 : Nat) : Int)) ((1 : Int))))) ((orI .u8 x16 x17)))))) fun (x38, x39) =>
      some ((x39, x38))
noncomputable def f_bits_Writer_Put : G_bits_Writer_Put := F_bits_Writer_Put f_bits_held F_bits_Writer_Put_g0
def s_bits_Writer_Put : Sig := ⟨[.box [.own tU8, vI], .val tU64, vI], [tB, tI, tU64, tI], [⟨.tup [], [.box [.own tU8, vI]], [tB, tI]⟩]⟩
def D_bits_Writer_Put (g_bits_held : G_bits_held) (l_100000 : L_bits_Writer_Put_g0) : Desc := ⟨[(82, s_bits_held.sp g_bits_held)], [0, 1, 2, 3, 4, 5, 6, 7, 8, 9], true, [], [(3000019, [⟨.normal, [], [(0, .ptr 0 1 0), (1, .val tU64), (6, vI)], [(0, 1, .box [.lref 1 0, vI]), (1, 0, .own tU8)], [tU64, tI, tI, tB]⟩])], [(100000, S_bits_Writer_Put_g0 l_100000)], []⟩
theorem q_bits_Writer_Put (g_bits_held : G_bits_held) (l_100000 : L_bits_Writer_Put_g0) : (∀ (k : L_bits_Writer_Put_g0) (a20 : Int) (a21 : Int) (a22 : Int) (a23 : List Int), (D_bits_Writer_Put g_bits_held l_100000).step Proofs.Try.prog Proofs.Try.f47 100000 (S_bits_Writer_Put_g0 l_100000) k (a20, a21, a22, a23) = B_bits_Writer_Put_g0 k (a20, a21, a22, a23)) ∧ (∀ (p1 : List Int) (p2 : Int) (p3 : Int) (p4 : Int), (D_bits_Writer_Put g_bits_held l_100000).body Proofs.Try.prog Proofs.Try.f47 s_bits_Writer_Put (p1, p2, p3, p4) = F_bits_Writer_Put g_bits_held l_100000 (p1, p2, p3, p4)) := ⟨fun k a20 a21 a22 a23 => by kernel_rfl, fun p1 p2 p3 p4 => by kernel_rfl⟩
theorem k_bits_Writer_Put : Known Proofs.Try.prog 47 (s_bits_Writer_Put.sp f_bits_Writer_Put) :=
  known_of (D := D_bits_Writer_Put f_bits_held F_bits_Writer_Put_g0) mixed Proofs.Try.func47 (by kernel_rfl) (by kernel_rfl) ⟨k_bits_held, trivial⟩ ⟨fact_of fun k x => (q_bits_Writer_Put f_bits_held F_bits_Writer_Put_g0).1 k x.1 x.2.1 x.2.2.1 x.2.2.2, trivial⟩ fun x => (q_bits_Writer_Put f_bits_held F_bits_Writer_Put_g0).2 x.1 x.2.1 x.2.2.1 x.2.2.2

/-! serinette/subframe.waste -/
abbrev G_subframe_waste := (List Int) × Int × Int → Option (((List Int) × Int))
def F_subframe_waste (g_bits_Writer_Put : G_bits_Writer_Put) : G_subframe_waste
  | (p1, p2, p3) =>
    if (p3 == ((0 : Int))) = true then
      (g_bits_Writer_Put ((p1, p2, (0 : Int), (1 : Int)))).bind fun (x4, x5) =>
      some ((x4, x5))
    else
      (g_bits_Writer_Put ((p1, p2, (1 : Int), (1 : Int)))).bind fun (x6, x7) =>
      (g_bits_Writer_Put ((x6, x7, (0 : Int), (subI .i64 p3 ((1 : Int)))))).bind fun (x8, x9) =>
      (g_bits_Writer_Put ((x8, x9, (1 : Int), (1 : Int)))).bind fun (x10, x11) =>
      some ((x10, x11))
noncomputable def f_subframe_waste : G_subframe_waste := F_subframe_waste f_bits_Writer_Put
def s_subframe_waste : Sig := ⟨[.box [.own tU8, vI], vI], [tB, tI, tI], [⟨.tup [], [.box [.own tU8, vI]], [tB, tI]⟩]⟩
def D_subframe_waste (g_bits_Writer_Put : G_bits_Writer_Put) : Desc := ⟨[(47, s_bits_Writer_Put.sp g_bits_Writer_Put)], [0, 1, 2, 3], false, [], [], [], []⟩
theorem q_subframe_waste (g_bits_Writer_Put : G_bits_Writer_Put) : ∀ (p1 : List Int) (p2 : Int) (p3 : Int), (D_subframe_waste g_bits_Writer_Put).body Proofs.Try.prog Proofs.Try.f49 s_subframe_waste (p1, p2, p3) = F_subframe_waste g_bits_Writer_Put (p1, p2, p3) := fun p1 p2 p3 => by kernel_rfl
theorem k_subframe_waste : Known Proofs.Try.prog 49 (s_subframe_waste.sp f_subframe_waste) :=
  known_of (D := D_subframe_waste f_bits_Writer_Put) mixed Proofs.Try.func49 (by kernel_rfl) (by kernel_rfl) ⟨k_bits_Writer_Put, trivial⟩ trivial fun x => (q_subframe_waste f_bits_Writer_Put) x.1 x.2.1 x.2.2

/-! serinette/subframe.all -/
abbrev G_subframe_all := (List Int) × Int × (List Int) × Int → Option (((List Int) × Int))
abbrev L_subframe_all_1 := Int × (List Int) × Int × Int × Int × (List Int) → Option ((Int × (List Int)))
def B_subframe_all_1 (g_bits_Writer_Put : G_bits_Writer_Put) (again : L_subframe_all_1) : L_subframe_all_1
  | (a5, a6, a7, a8, a9, a10) =>
    Option.bind (α := (Int × (List Int) × Int × Int × Int × (List Int)) ⊕ (Int × (List Int))) (
      if (decide (a8 < a7)) = true then
        some ((.inl (a5, a6, a7, a8, a9, a10)))
      else
        some ((.inr (a9, a10)))) fun o => match o with
      | (.inl (x11, x12, x13, x14, x15, x16)) =>
        (idx x12 x14).bind fun x17 =>
        (g_bits_Writer_Put ((x16, x15, (IntKind.wrap .u64 x17), x11))).bind fun (x18, x19) =>
        again ((x11, x12, x13, (addI .i64 x14 ((1 : Int))), x19, x18))
      | (.inr (x20, x21)) =>
        some ((x20, x21))
noncomputable def F_subframe_all_1 : L_subframe_all_1 := lfp (B_subframe_all_1 f_bits_Writer_Put)
abbrev S_subframe_all_1 (l : L_subframe_all_1) : LoopS := ⟨⟨.normal, [], [(0, .ptr 0 1 0), (2, vI), (8, vL), (9, vI), (10, vI)], [(0, 1, .box [.lref 1 0, vI]), (1, 0, .own tU8)], [tI, tL, tI, tI, tI, tB]⟩, [⟨.exit 0, [], [], [(0, 1, .box [.lref 1 0, vI]), (1, 0, .own tU8)], [tI, tB]⟩], l⟩
def F_subframe_all (l_1 : L_subframe_all_1) : G_subframe_all
  | (p1, p2, p3, p4) =>
    Option.bind (α := (Int × (List Int))) (
      l_1 ((p4, p3, ((List.length p3 : Nat) : Int), (0 : Int), p2, p1))) fun (x22, x23) =>
    some ((x23, x22))
noncomputable def f_subframe_all : G_subframe_all := F_subframe_all F_subframe_all_1
def s_subframe_all : Sig := ⟨[.box [.own tU8, vI], vL, vI], [tB, tI, tL, tI], [⟨.tup [], [.box [.own tU8, vI]], [tB, tI]⟩]⟩
def D_subframe_all (g_bits_Writer_Put : G_bits_Writer_Put) (l_1 : L_subframe_all_1) : Desc := ⟨[(47, s_bits_Writer_Put.sp g_bits_Writer_Put)], [0, 1, 2, 3, 4, 5, 6, 7], false, [], [(11, [⟨.normal, [], [(0, .ptr 0 1 0), (2, vI), (8, vL), (9, vI), (10, vI)], [(0, 1, .box [.lref 1 0, vI]), (1, 0, .own tU8)], [tI, tL, tI, tI, tI, tB]⟩, ⟨.exit 0, [], [], [(0, 1, .box [.lref 1 0, vI]), (1, 0, .own tU8)], [tI, tB]⟩])], [(1, S_subframe_all_1 l_1)], []⟩
theorem q_subframe_all (g_bits_Writer_Put : G_bits_Writer_Put) (l_1 : L_subframe_all_1) : (∀ (k : L_subframe_all_1) (a5 : Int) (a6 : List Int) (a7 : Int) (a8 : Int) (a9 : Int) (a10 : List Int), (D_subframe_all g_bits_Writer_Put l_1).step Proofs.Try.prog Proofs.Try.f51 1 (S_subframe_all_1 l_1) k (a5, a6, a7, a8, a9, a10) = B_subframe_all_1 g_bits_Writer_Put k (a5, a6, a7, a8, a9, a10)) ∧ (∀ (p1 : List Int) (p2 : Int) (p3 : List Int) (p4 : Int), (D_subframe_all g_bits_Writer_Put l_1).body Proofs.Try.prog Proofs.Try.f51 s_subframe_all (p1, p2, p3, p4) = F_subframe_all l_1 (p1, p2, p3, p4)) := ⟨fun k a5 a6 a7 a8 a9 a10 => by kernel_rfl, fun p1 p2 p3 p4 => by kernel_rfl⟩
theorem k_subframe_all : Known Proofs.Try.prog 51 (s_subframe_all.sp f_subframe_all) :=
  known_of (D := D_subframe_all f_bits_Writer_Put F_subframe_all_1) mixed Proofs.Try.func51 (by kernel_rfl) (by kernel_rfl) ⟨k_bits_Writer_Put, trivial⟩ ⟨fact_of fun k x => (q_subframe_all f_bits_Writer_Put F_subframe_all_1).1 k x.1 x.2.1 x.2.2.1 x.2.2.2.1 x.2.2.2.2.1 x.2.2.2.2.2, trivial⟩ fun x => (q_subframe_all f_bits_Writer_Put F_subframe_all_1).2 x.1 x.2.1 x.2.2.1 x.2.2.2

/-! serinette/subframe.Put -/
abbrev G_subframe_Put := (List Int) × Int × (List Int) × e9 × Int → Option ((Int × (List Int) × Int))
def F_subframe_Put (g_bits_New : G_bits_New) (g_bits_Writer_Put : G_bits_Writer_Put) (g_section_Put : G_section_Put) (g_subframe_Bits : G_subframe_Bits) (g_subframe_Rest : G_subframe_Rest) (g_subframe_all : G_subframe_all) (g_subframe_down : G_subframe_down) (g_subframe_order : G_subframe_order) (g_subframe_typed : G_subframe_typed) (g_subframe_waste : G_subframe_waste) : G_subframe_Put
  | (p1, p2, p3, p4, p5) =>
    (g_subframe_Bits ((p3, (p4.1, (p4.2.1, (p4.2.2.1, ((p4.2.2.2.1.1, (p4.2.2.2.1.2.1, (p4.2.2.2.1.2.2.1, ()))), ((p4.2.2.2.2.1.1, (p4.2.2.2.2.1.2.1, (p4.2.2.2.2.1.2.2.1, ()))), ()))))), p5))).bind fun (x6, x7) =>
    if (x7 != ((0 : Int))) = true then
      some ((x7, p1, p2))
    else
      (g_subframe_Rest ((p3, (p4.1, (p4.2.1, (p4.2.2.1, ((p4.2.2.2.1.1, (p4.2.2.2.1.2.1, (p4.2.2.2.1.2.2.1, ()))), ((p4.2.2.2.2.1.1, (p4.2.2.2.2.1.2.1, (p4.2.2.2.2.1.2.2.1, ()))), ())))))))).bind fun (x8, x9) =>
      (g_bits_New ()).bind fun (x10, x11) =>
      (g_subframe_order ((p4.1, (p4.2.1, (p4.2.2.1, ((p4.2.2.2.1.1, (p4.2.2.2.1.2.1, (p4.2.2.2.1.2.2.1, ()))), ((p4.2.2.2.2.1.1, (p4.2.2.2.2.1.2.1, (p4.2.2.2.2.1.2.2.1, ()))), ()))))))).bind fun x12 =>
      Option.bind (α := ((List Int) × Int × (List Int) × Int × Int × (List Int) × Int × Int × Int × Int × Int × (List Int) × Bool × Int × (List e0)) ⊕ (Int × Int × (List Int))) (
        if (decide ((((List.length x8 : Nat) : Int)) > ((0 : Int)))) = true then
          (g_section_Put ((x10, x11, x8, x12, (p4.2.2.2.2.1.1, (p4.2.2.2.2.1.2.1, (p4.2.2.2.2.1.2.2.1, ())))))).bind fun (x13, x14, x15) =>
          if (x13 != ((0 : Int))) = true then
            some ((.inr (x13, p2, p1)))
          else
            some ((.inl (p3, p5, x8, x12, p2, p1, p4.1, p4.2.1, p4.2.2.1, p4.2.2.2.1.1, p4.2.2.2.1.2.1, p4.2.2.2.1.2.2.1, p4.2.2.2.2.1.1, p4.2.2.2.2.1.2.1, p4.2.2.2.2.1.2.2.1)))
        else
          some ((.inl (p3, p5, x8, x12, p2, p1, p4.1, p4.2.1, p4.2.2.1, p4.2.2.2.1.1, p4.2.2.2.1.2.1, p4.2.2.2.1.2.2.1, p4.2.2.2.2.1.1, p4.2.2.2.2.1.2.1, p4.2.2.2.2.1.2.2.1)))) fun o => match o with
        | (.inl (x16, x17, x18, x19, x20, x21, x22, x23, x24, x25, x26, x27, x28, x29, x30)) =>
          (g_subframe_typed ((x22, (x23, (x24, ((x25, (x26, (x27, ()))), ((x28, (x29, (x30, ()))), ()))))))).bind fun x31 =>
          (g_bits_Writer_Put ((x21, x20, (IntKind.wrap .u64 x31), (7 : Int)))).bind fun (x32, x33) =>
          (g_subframe_waste ((x32, x33, x23))).bind fun (x34, x35) =>
          (g_subframe_down ((x16, x23))).bind fun x36 =>
          if (x22 == ((0 : Int))) = true then
            (rng (List.length x36) 0 ((1 : Int))).bind fun x37 =>
            (g_subframe_all ((x34, x35, (view x36 (some ((0 + x37.1), x37.2))), (subI .i64 x17 x23)))).bind fun (x38, x39) =>
            some (((0 : Int), x38, x39))
          else
            if (x22 == ((1 : Int))) = true then
              (g_subframe_all ((x34, x35, x36, (subI .i64 x17 x23)))).bind fun (x40, x41) =>
              some (((0 : Int), x40, x41))
            else
              (rng (List.length x36) 0 x19).bind fun x42 =>
              (g_subframe_all ((x34, x35, (view x36 (some ((0 + x42.1), x42.2))), (subI .i64 x17 x23)))).bind fun (x43, x44) =>
              Option.bind (α := ((List Int) × Int × Int × (List Int) × Int × Int × Int × Int × Int × (List Int) × Bool × Int × (List e0))) (
                if (x22 == ((3 : Int))) = true then
                  (g_bits_Writer_Put ((x43, x44, (IntKind.wrap .u64 ((subI .i64 x26 ((1 : Int))))), (4 : Int)))).bind fun (x45, x46) =>
                  (g_bits_Writer_Put ((x45, x46, (IntKind.wrap .u64 x25), (5 : Int)))).bind fun (x47, x48) =>
                  (g_subframe_all ((x47, x48, x27, x26))).bind fun (x49, x50) =>
                  some ((x18, x19, x50, x49, x22, x23, x24, x25, x26, x27, x28, x29, x30))
                else
                  some ((x18, x19, x44, x43, x22, x23, x24, x25, x26, x27, x28, x29, x30))) fun (x51, x52, x53, x54, x55, x56, x57, x58, x59, x60, x61, x62, x63) =>
              (g_section_Put ((x54, x53, x51, x52, (x61, (x62, (x63, ())))))).bind fun (x64, x65, x66) =>
              some ((x64, x65, x66))
        | (.inr (x67, x68, x69)) =>
          some ((x67, x69, x68))
noncomputable def f_subframe_Put : G_subframe_Put := F_subframe_Put f_bits_New f_bits_Writer_Put f_section_Put f_subframe_Bits f_subframe_Rest f_subframe_all f_subframe_down f_subframe_order f_subframe_typed f_subframe_waste
def s_subframe_Put : Sig := ⟨[.box [.own tU8, vI], vL, .val y9, vI], [tB, tI, tL, y9, tI], [⟨vI, [.box [.own tU8, vI]], [tI, tB, tI]⟩]⟩
def D_subframe_Put (g_bits_New : G_bits_New) (g_bits_Writer_Put : G_bits_Writer_Put) (g_section_Put : G_section_Put) (g_subframe_Bits : G_subframe_Bits) (g_subframe_Rest : G_subframe_Rest) (g_subframe_all : G_subframe_all) (g_subframe_down : G_subframe_down) (g_subframe_order : G_subframe_order) (g_subframe_typed : G_subframe_typed) (g_subframe_waste : G_subframe_waste) : Desc := ⟨[(15, s_bits_New.sp g_bits_New), (47, s_bits_Writer_Put.sp g_bits_Writer_Put), (46, s_section_Put.sp g_section_Put), (17, s_subframe_Bits.sp g_subframe_Bits), (44, s_subframe_Rest.sp g_subframe_Rest), (51, s_subframe_all.sp g_subframe_all), (50, s_subframe_down.sp g_subframe_down), (45, s_subframe_order.sp g_subframe_order), (48, s_subframe_typed.sp g_subframe_typed), (49, s_subframe_waste.sp g_subframe_waste)], [0, 1, 2, 3, 4, 5, 6, 7, 8, 9, 10, 11, 12, 13, 14, 15, 16, 17], false, [], [(7000039, [⟨.normal, [], [(0, .ptr 0 1 0), (1, vL), (3, vI), (6, .ptr 24576 0 0), (11, vL), (14, vI)], [(0, 1, .box [.lref 1 0, vI]), (1, 0, .own tU8), (24576, 0, .box [vI, vI, vI, vI, vI, vL, vO, vI, .val (.slice y0)])], [tL, tI, tL, tI, tI, tB, tI, tI, tI, tI, tI, tL, tO, tI, .slice y0]⟩, ⟨.ret, [], [(8, vI)], [(0, 1, .box [.lref 1 0, vI]), (1, 0, .own tU8)], [tI, tI, tB]⟩]), (22000089, [⟨.normal, [], [(0, .ptr 0 1 0), (6, .ptr 24576 0 0), (11, vL), (14, vI)], [(0, 1, .box [.lref 1 0, vI]), (1, 0, .own tU8), (24576, 0, .box [vI, vI, vI, vI, vI, vL, vO, vI, .val (.slice y0)])], [tL, tI, tI, tB, tI, tI, tI, tI, tI, tL, tO, tI, .slice y0]⟩])], [], [false]⟩
theorem q_subframe_Put (g_bits_New : G_bits_New) (g_bits_Writer_Put : G_bits_Writer_Put) (g_section_Put : G_section_Put) (g_subframe_Bits : G_subframe_Bits) (g_subframe_Rest : G_subframe_Rest) (g_subframe_all : G_subframe_all) (g_subframe_down : G_subframe_down) (g_subframe_order : G_subframe_order) (g_subframe_typed : G_subframe_typed) (g_subframe_waste : G_subframe_waste) : ∀ (p1 : List Int) (p2 : Int) (p3 : List Int) (p4 : e9) (p5 : Int), (D_subframe_Put g_bits_New g_bits_Writer_Put g_section_Put g_subframe_Bits g_subframe_Rest g_subframe_all g_subframe_down g_subframe_order g_subframe_typed g_subframe_waste).body Proofs.Try.prog Proofs.Try.f16 s_subframe_Put (p1, p2, p3, p4, p5) = F_subframe_Put g_bits_New g_bits_Writer_Put g_section_Put g_subframe_Bits g_subframe_Rest g_subframe_all g_subframe_down g_subframe_order g_subframe_typed g_subframe_waste (p1, p2, p3, p4, p5) := fun p1 p2 p3 p4 p5 => by kernel_rfl
theorem k_subframe_Put : Known Proofs.Try.prog 16 (s_subframe_Put.sp f_subframe_Put) :=
  known_of (D := D_subframe_Put f_bits_New f_bits_Writer_Put f_section_Put f_subframe_Bits f_subframe_Rest f_subframe_all f_subframe_down f_subframe_order f_subframe_typed f_subframe_waste) mixed Proofs.Try.func16 (by kernel_rfl) (by kernel_rfl) ⟨k_bits_New, k_bits_Writer_Put, k_section_Put, k_subframe_Bits, k_subframe_Rest, k_subframe_all, k_subframe_down, k_subframe_order, k_subframe_typed, k_subframe_waste, trivial⟩ trivial fun x => (q_subframe_Put f_bits_New f_bits_Writer_Put f_section_Put f_subframe_Bits f_subframe_Rest f_subframe_all f_subframe_down f_subframe_order f_subframe_typed f_subframe_waste) x.1 x.2.1 x.2.2.1 x.2.2.2.1 x.2.2.2.2

/-! bytes.Clone -/
abbrev G_bytes_Clone := List Int → Option ((List Int))
def F_bytes_Clone : G_bytes_Clone
  | p1 =>
    (notNil (List.length p1)).bind fun x2 =>
    if x2 = true then
      some (([] : List Int))
    else
      (room (List.length ((List.replicate 0 (0 : Int))) + List.length p1)).bind fun x3 =>
      some (((List.replicate 0 (0 : Int)) ++ p1))
def f_bytes_Clone : G_bytes_Clone := cloneF
def s_bytes_Clone : Sig := ⟨[vB], [tB], [⟨.own tU8, [], [tB]⟩]⟩
def D_bytes_Clone : Desc := ⟨[], [0, 1, 2], false, [], [], [], [false]⟩
theorem q_bytes_Clone : ∀ (p1 : List Int), D_bytes_Clone.body Proofs.Try.prog Proofs.Try.f22 s_bytes_Clone p1 = F_bytes_Clone p1 := fun p1 => by kernel_rfl
theorem k0_bytes_Clone : Known Proofs.Try.prog 22 (s_bytes_Clone.sp F_bytes_Clone) :=
  known_of (D := D_bytes_Clone) mixed Proofs.Try.func22 (by kernel_rfl) (by kernel_rfl) trivial trivial fun x => q_bytes_Clone x
set_option maxHeartbeats 800000 in
theorem c1_bytes_Clone (c : Nat) (w : World) : Calls Proofs.Try.prog 22 #[.slice none 0 c] w fun e w' => (∃ b, e = .returned (.slice b 0 0)) ∧ RowKit.Below w.heap.size w w' := by
  go_enter Proofs.Try.func22, Proofs.Try.ntmps22
  have h := eq_nil Proofs.Try.underlying22 c
  go_wp2
  go_ret
  exact ⟨⟨_, rfl⟩, RowKit.Below.refl _ _⟩
set_option maxHeartbeats 800000 in
theorem c2_bytes_Clone (a : Addr) (c : Nat) (w : World) : Calls Proofs.Try.prog 22 #[.slice (some a) 0 c] w fun e w' => (∃ b, e = .returned (.slice b 0 0)) ∧ RowKit.Below w.heap.size w w' := by
  go_enter Proofs.Try.func22, Proofs.Try.ntmps22
  have h := eq_some Proofs.Try.underlying22 a c
  go_wp2
  go_ret
  exact ⟨⟨_, rfl⟩, (RowKit.Below.refl _ _).alloc (Nat.le_refl _) _⟩
theorem k_bytes_Clone : Known Proofs.Try.prog 22 (s_bytes_Clone.sp f_bytes_Clone) :=
  known_clone k0_bytes_Clone (fun l h1 h2 => by
    cases l with
    | nil => exact absurd rfl h1
    | cons a l => simp [F_bytes_Clone, notNil, room] at h2 ⊢; simp [h2]) c1_bytes_Clone c2_bytes_Clone

/-! (*serinette/bits.Writer).Bytes -/
abbrev G_bits_Writer_Bytes := (List Int) × Int → Option (((List Int) × (List Int) × Int))
def F_bits_Writer_Bytes (g_bytes_Clone : G_bytes_Clone) : G_bits_Writer_Bytes
  | (p1, p2) =>
    (g_bytes_Clone p1).bind fun x3 =>
    some ((x3, p1, p2))
noncomputable def f_bits_Writer_Bytes : G_bits_Writer_Bytes := F_bits_Writer_Bytes f_bytes_Clone
def s_bits_Writer_Bytes : Sig := ⟨[.box [.own tU8, vI]], [tB, tI], [⟨.own tU8, [.box [.own tU8, vI]], [tB, tB, tI]⟩]⟩
def D_bits_Writer_Bytes (g_bytes_Clone : G_bytes_Clone) : Desc := ⟨[(22, s_bytes_Clone.sp g_bytes_Clone)], [0, 1, 2], true, [], [], [], [false]⟩
theorem q_bits_Writer_Bytes (g_bytes_Clone : G_bytes_Clone) : ∀ (p1 : List Int) (p2 : Int), (D_bits_Writer_Bytes g_bytes_Clone).body Proofs.Try.prog Proofs.Try.f19 s_bits_Writer_Bytes (p1, p2) = F_bits_Writer_Bytes g_bytes_Clone (p1, p2) := fun p1 p2 => by kernel_rfl
theorem k_bits_Writer_Bytes : Known Proofs.Try.prog 19 (s_bits_Writer_Bytes.sp f_bits_Writer_Bytes) :=
  known_of (D := D_bits_Writer_Bytes f_bytes_Clone) mixed Proofs.Try.func19 (by kernel_rfl) (by kernel_rfl) ⟨k_bytes_Clone, trivial⟩ trivial fun x => (q_bits_Writer_Bytes f_bytes_Clone) x.1 x.2

/-! serinette/serinetteref01.Same -/
abbrev G_ref01_Same := (List Int) × (List Int) → Option (Bool)
abbrev L_ref01_Same_4 := (List Int) × (List Int) × Int → Option (Unit ⊕ Bool)
def B_ref01_Same_4 (again : L_ref01_Same_4) : L_ref01_Same_4
  | (a3, a4, a5) =>
    Option.bind (α := ((List Int) × (List Int) × Int) ⊕ Unit) (
      if (decide (a5 < (((List.length a3 : Nat) : Int)))) = true then
        some ((.inl (a3, a4, a5)))
      else
        some ((.inr ()))) fun o => match o with
      | (.inl (x6, x7, x8)) =>
        (idx x6 x8).bind fun x9 =>
        (idx x7 x8).bind fun x10 =>
        if (x9 != x10) = true then
          some ((.inr false))
        else
          again ((x6, x7, (addI .i64 x8 ((1 : Int)))))
      | (.inr _) =>
        some ((.inl ()))
noncomputable def F_ref01_Same_4 : L_ref01_Same_4 := lfp B_ref01_Same_4
abbrev S_ref01_Same_4 (l : L_ref01_Same_4) : LoopS := ⟨⟨.normal, [], [(0, vB), (1, vB), (5, vI)], [], [tB, tB, tI]⟩, [⟨.exit 0, [], [], [], []⟩, ⟨.ret, [], [(4, vO)], [], [tO]⟩], l⟩
def F_ref01_Same (l_4 : L_ref01_Same_4) : G_ref01_Same
  | (p1, p2) =>
    if ((((List.length p1 : Nat) : Int)) != (((List.length p2 : Nat) : Int))) = true then
      some false
    else
      Option.bind (α := Unit ⊕ Bool) (
        l_4 ((p1, p2, (0 : Int)))) fun o => match o with
        | (.inl _) =>
          some true
        | (.inr x11) =>
          some x11
noncomputable def f_ref01_Same : G_ref01_Same := F_ref01_Same F_ref01_Same_4
def s_ref01_Same : Sig := ⟨[vB, vB], [tB, tB], [⟨vO, [], [tO]⟩]⟩
def D_ref01_Same (l_4 : L_ref01_Same_4) : Desc := ⟨[], [0, 1, 2, 3, 4, 5], false, [], [(14, [⟨.normal, [], [(0, vB), (1, vB), (5, vI)], [], [tB, tB, tI]⟩, ⟨.exit 0, [], [], [], []⟩])], [(4, S_ref01_Same_4 l_4)], [false]⟩
theorem q_ref01_Same (l_4 : L_ref01_Same_4) : (∀ (k : L_ref01_Same_4) (a3 : List Int) (a4 : List Int) (a5 : Int), (D_ref01_Same l_4).step Proofs.Try.prog Proofs.Try.f21 4 (S_ref01_Same_4 l_4) k (a3, a4, a5) = B_ref01_Same_4 k (a3, a4, a5)) ∧ (∀ (p1 : List Int) (p2 : List Int), (D_ref01_Same l_4).body Proofs.Try.prog Proofs.Try.f21 s_ref01_Same (p1, p2) = F_ref01_Same l_4 (p1, p2)) := ⟨fun k a3 a4 a5 => by kernel_rfl, fun p1 p2 => by kernel_rfl⟩
theorem k_ref01_Same : Known Proofs.Try.prog 21 (s_ref01_Same.sp f_ref01_Same) :=
  known_of (D := D_ref01_Same F_ref01_Same_4) mixed Proofs.Try.func21 (by kernel_rfl) (by kernel_rfl) trivial ⟨fact_of fun k x => (q_ref01_Same F_ref01_Same_4).1 k x.1 x.2.1 x.2.2, trivial⟩ fun x => (q_ref01_Same F_ref01_Same_4).2 x.1 x.2

/-! serinette/serinettelaw16.awake -/
abbrev G_law16_awake := Unit → Option (Bool)
def F_law16_awake (g_bits_New : G_bits_New) (g_bits_Writer_Bytes : G_bits_Writer_Bytes) (g_ref01_Same : G_ref01_Same) (g_subframe_Bits : G_subframe_Bits) (g_subframe_Put : G_subframe_Put) : G_law16_awake
  | _ =>
    (g_bits_New ()).bind fun (x1, x2) =>
    (g_subframe_Put ((x1, x2, (List.set (List.set (List.replicate 2 (0 : Int)) 0 ((-1 : Int))) 1 ((-1 : Int))), ((0 : Int), ((0 : Int), ((0 : Int), (((0 : Int), ((0 : Int), (([] : List Int), ()))), ((false, ((0 : Int), (([] : List e0), ()))), ()))))), (8 : Int)))).bind fun (x3, x4, x5) =>
    (g_subframe_Bits (((List.set (List.set (List.replicate 2 (0 : Int)) 0 ((-1 : Int))) 1 ((-1 : Int))), ((0 : Int), ((0 : Int), ((0 : Int), (((0 : Int), ((0 : Int), (([] : List Int), ()))), ((false, ((0 : Int), (([] : List e0), ()))), ()))))), (8 : Int)))).bind fun (x6, x7) =>
    Option.bind (α := Bool) (
      if (x3 == ((0 : Int))) = true then
        if (x7 == ((0 : Int))) = true then
          if (x6 == ((16 : Int))) = true then
            (g_bits_Writer_Bytes ((x4, x5))).bind fun (x8, x9, x10) =>
            (g_ref01_Same ((x8, (List.set (List.set (List.replicate 2 (0 : Int)) 0 ((0 : Int))) 1 ((255 : Int)))))).bind fun x11 =>
            some x11
          else
            some false
        else
          some false
      else
        some false) fun x12 =>
    some x12
noncomputable def f_law16_awake : G_law16_awake := F_law16_awake f_bits_New f_bits_Writer_Bytes f_ref01_Same f_subframe_Bits f_subframe_Put
def s_law16_awake : Sig := ⟨[], [], [⟨vO, [], [tO]⟩]⟩
def D_law16_awake (g_bits_New : G_bits_New) (g_bits_Writer_Bytes : G_bits_Writer_Bytes) (g_ref01_Same : G_ref01_Same) (g_subframe_Bits : G_subframe_Bits) (g_subframe_Put : G_subframe_Put) : Desc := ⟨[(15, s_bits_New.sp g_bits_New), (19, s_bits_Writer_Bytes.sp g_bits_Writer_Bytes), (21, s_ref01_Same.sp g_ref01_Same), (17, s_subframe_Bits.sp g_subframe_Bits), (16, s_subframe_Put.sp g_subframe_Put)], [0, 1, 2, 3, 4], false, [], [(300006, [⟨.normal, [], [(0, vO)], [], [tO]⟩])], [], [false]⟩
theorem q_law16_awake (g_bits_New : G_bits_New) (g_bits_Writer_Bytes : G_bits_Writer_Bytes) (g_ref01_Same : G_ref01_Same) (g_subframe_Bits : G_subframe_Bits) (g_subframe_Put : G_subframe_Put) : (D_law16_awake g_bits_New g_bits_Writer_Bytes g_ref01_Same g_subframe_Bits g_subframe_Put).body Proofs.Try.prog Proofs.Try.f6 s_law16_awake () = F_law16_awake g_bits_New g_bits_Writer_Bytes g_ref01_Same g_subframe_Bits g_subframe_Put () := by kernel_rfl
theorem k_law16_awake : Known Proofs.Try.prog 6 (s_law16_awake.sp f_law16_awake) :=
  known_of (D := D_law16_awake f_bits_New f_bits_Writer_Bytes f_ref01_Same f_subframe_Bits f_subframe_Put) mixed Proofs.Try.func6 (by kernel_rfl) (by kernel_rfl) ⟨k_bits_New, k_bits_Writer_Bytes, k_ref01_Same, k_subframe_Bits, k_subframe_Put, trivial⟩ trivial fun x => (q_law16_awake f_bits_New f_bits_Writer_Bytes f_ref01_Same f_subframe_Bits f_subframe_Put)

/-! serinette/bits.Open -/
abbrev G_bits_Open := List Int → Option (((List Int) × Int × Int))
def F_bits_Open (g_bytes_Clone : G_bytes_Clone) : G_bits_Open
  | p1 =>
    (g_bytes_Clone p1).bind fun x2 =>
    some ((x2, (0 : Int), (0 : Int)))
noncomputable def f_bits_Open : G_bits_Open := F_bits_Open f_bytes_Clone
def s_bits_Open : Sig := ⟨[vB], [tB], [⟨.box [vB, vI, vI], [], [tB, tI, tI]⟩]⟩
def D_bits_Open (g_bytes_Clone : G_bytes_Clone) : Desc := ⟨[(22, s_bytes_Clone.sp g_bytes_Clone)], [0, 1, 2], false, [], [], [], [false]⟩
theorem q_bits_Open (g_bytes_Clone : G_bytes_Clone) : ∀ (p1 : List Int), (D_bits_Open g_bytes_Clone).body Proofs.Try.prog Proofs.Try.f7 s_bits_Open p1 = F_bits_Open g_bytes_Clone p1 := fun p1 => by kernel_rfl
theorem k_bits_Open : Known Proofs.Try.prog 7 (s_bits_Open.sp f_bits_Open) :=
  known_of (D := D_bits_Open f_bytes_Clone) mixed Proofs.Try.func7 (by kernel_rfl) (by kernel_rfl) ⟨k_bytes_Clone, trivial⟩ trivial fun x => (q_bits_Open f_bytes_Clone) x

/-! serinette/serinetteref01.Width -/
abbrev G_ref01_Width := Int → Option (Int)
def F_ref01_Width : G_ref01_Width
  | p1 =>
    some ((maxI ((0 : Int)) ((minI p1 ((64 : Int))))))
noncomputable def f_ref01_Width : G_ref01_Width := F_ref01_Width
def s_ref01_Width : Sig := ⟨[vI], [tI], [⟨vI, [], [tI]⟩]⟩
def D_ref01_Width : Desc := ⟨[], [0, 1, 2], false, [], [], [], [false]⟩
theorem q_ref01_Width : ∀ (p1 : Int), D_ref01_Width.body Proofs.Try.prog Proofs.Try.f56 s_ref01_Width p1 = F_ref01_Width p1 := fun p1 => by kernel_rfl
theorem k_ref01_Width : Known Proofs.Try.prog 56 (s_ref01_Width.sp f_ref01_Width) :=
  known_of (D := D_ref01_Width) mixed Proofs.Try.func56 (by kernel_rfl) (by kernel_rfl) trivial trivial fun x => q_ref01_Width x

/-! serinette/serinetteref01.Digits -/
abbrev G_ref01_Digits := Int × Int → Option ((List Bool))
abbrev L_ref01_Digits_4 := Int × Int × (List Bool) → Option ((List Bool))
def B_ref01_Digits_4 (again : L_ref01_Digits_4) : L_ref01_Digits_4
  | (a5, a6, a7) =>
    Option.bind (α := (Int × Int × (List Bool)) ⊕ (List Bool)) (
      if (decide (a6 ≥ ((0 : Int)))) = true then
        some ((.inl (a5, a6, a7)))
      else
        some ((.inr a7))) fun o => match o with
      | (.inl (x8, x9, x10)) =>
        (remI x8 ((2 : Int))).bind fun x11 =>
        (inb x9 (List.length x10)).bind fun x12 =>
        (idx x10 x9).bind fun x13 =>
        (quoI .u64 x8 ((2 : Int))).bind fun x14 =>
        again ((x14, (subI .i64 x9 ((1 : Int))), (List.set x10 (Int.toNat x9) ((x11 == ((1 : Int)))))))
      | (.inr x15) =>
        some x15
noncomputable def F_ref01_Digits_4 : L_ref01_Digits_4 := lfp B_ref01_Digits_4
abbrev S_ref01_Digits_4 (l : L_ref01_Digits_4) : LoopS := ⟨⟨.normal, [], [(0, .val tU64), (6, .lref 24576 0), (7, vI)], [(24576, 0, .own tO)], [tU64, tI, .slice tO]⟩, [⟨.exit 0, [], [(6, .lref 24576 0)], [(24576, 0, .own tO)], [.slice tO]⟩], l⟩
def F_ref01_Digits (g_ref01_Width : G_ref01_Width) (l_4 : L_ref01_Digits_4) : G_ref01_Digits
  | (p1, p2) =>
    (g_ref01_Width p2).bind fun x3 =>
    (mk x3 1 false).bind fun x4 =>
    Option.bind (α := (List Bool)) (
      l_4 ((p1, (subI .i64 x3 ((1 : Int))), x4))) fun x16 =>
    some x16
noncomputable def f_ref01_Digits : G_ref01_Digits := F_ref01_Digits f_ref01_Width F_ref01_Digits_4
def s_ref01_Digits : Sig := ⟨[.val tU64, vI], [tU64, tI], [⟨.own tO, [], [.slice tO]⟩]⟩
def D_ref01_Digits (g_ref01_Width : G_ref01_Width) (l_4 : L_ref01_Digits_4) : Desc := ⟨[(56, s_ref01_Width.sp g_ref01_Width)], [0, 1, 2, 3, 4, 5, 6, 7], false, [], [(15, [⟨.normal, [], [(0, .val tU64), (6, .lref 24576 0), (7, vI)], [(24576, 0, .own tO)], [tU64, tI, .slice tO]⟩, ⟨.exit 0, [], [(6, .lref 24576 0)], [(24576, 0, .own tO)], [.slice tO]⟩])], [(4, S_ref01_Digits_4 l_4)], [false]⟩
theorem q_ref01_Digits (g_ref01_Width : G_ref01_Width) (l_4 : L_ref01_Digits_4) : (∀ (k : L_ref01_Digits_4) (a5 : Int) (a6 : Int) (a7 : List Bool), (D_ref01_Digits g_ref01_Width l_4).step Proofs.Try.prog Proofs.Try.f23 4 (S_ref01_Digits_4 l_4) k (a5, a6, a7) = B_ref01_Digits_4 k (a5, a6, a7)) ∧ (∀ (p1 : Int) (p2 : Int), (D_ref01_Digits g_ref01_Width l_4).body Proofs.Try.prog Proofs.Try.f23 s_ref01_Digits (p1, p2) = F_ref01_Digits g_ref01_Width l_4 (p1, p2)) := ⟨fun k a5 a6 a7 => by kernel_rfl, fun p1 p2 => by kernel_rfl⟩
theorem k_ref01_Digits : Known Proofs.Try.prog 23 (s_ref01_Digits.sp f_ref01_Digits) :=
  known_of (D := D_ref01_Digits f_ref01_Width F_ref01_Digits_4) mixed Proofs.Try.func23 (by kernel_rfl) (by kernel_rfl) ⟨k_ref01_Width, trivial⟩ ⟨fact_of fun k x => (q_ref01_Digits f_ref01_Width F_ref01_Digits_4).1 k x.1 x.2.1 x.2.2, trivial⟩ fun x => (q_ref01_Digits f_ref01_Width F_ref01_Digits_4).2 x.1 x.2

/-! serinette/serinetteref01.Bits -/
abbrev G_ref01_Bits := List Int → Option ((List Bool))
abbrev L_ref01_Bits_3 := (List Int) × Int × (List Bool) → Option ((List Bool))
def B_ref01_Bits_3 (g_ref01_Digits : G_ref01_Digits) (again : L_ref01_Bits_3) : L_ref01_Bits_3
  | (a2, a3, a4) =>
    Option.bind (α := ((List Int) × Int × (List Bool)) ⊕ (List Bool)) (
      if (decide (a3 < (((List.length a2 : Nat) : Int)))) = true then
        some ((.inl (a2, a3, a4)))
      else
        some ((.inr a4))) fun o => match o with
      | (.inl (x5, x6, x7)) =>
        (idx x5 x6).bind fun x8 =>
        (g_ref01_Digits (((IntKind.wrap .u64 x8), (8 : Int)))).bind fun x9 =>
        (room (List.length x7 + List.length x9)).bind fun x10 =>
        again ((x5, (addI .i64 x6 ((1 : Int))), (x7 ++ x9)))
      | (.inr x11) =>
        some x11
noncomputable def F_ref01_Bits_3 : L_ref01_Bits_3 := lfp (B_ref01_Bits_3 f_ref01_Digits)
abbrev S_ref01_Bits_3 (l : L_ref01_Bits_3) : LoopS := ⟨⟨.normal, [], [(0, vB), (3, .lref 12288 0), (4, vI)], [(12288, 0, .own tO)], [tB, tI, .slice tO]⟩, [⟨.exit 0, [], [(3, .lref 12288 0)], [(12288, 0, .own tO)], [.slice tO]⟩], l⟩
def F_ref01_Bits (l_3 : L_ref01_Bits_3) : G_ref01_Bits
  | p1 =>
    Option.bind (α := (List Bool)) (
      l_3 ((p1, (0 : Int), ([] : List Bool)))) fun x12 =>
    some x12
noncomputable def f_ref01_Bits : G_ref01_Bits := F_ref01_Bits F_ref01_Bits_3
def s_ref01_Bits : Sig := ⟨[vB], [tB], [⟨.own tO, [], [.slice tO]⟩]⟩
def D_ref01_Bits (g_ref01_Digits : G_ref01_Digits) (l_3 : L_ref01_Bits_3) : Desc := ⟨[(23, s_ref01_Digits.sp g_ref01_Digits)], [0, 1, 2, 3, 4], false, [], [(8, [⟨.normal, [], [(0, vB), (3, .lref 12288 0), (4, vI)], [(12288, 0, .own tO)], [tB, tI, .slice tO]⟩, ⟨.exit 0, [], [(3, .lref 12288 0)], [(12288, 0, .own tO)], [.slice tO]⟩])], [(3, S_ref01_Bits_3 l_3)], [false]⟩
theorem q_ref01_Bits (g_ref01_Digits : G_ref01_Digits) (l_3 : L_ref01_Bits_3) : (∀ (k : L_ref01_Bits_3) (a2 : List Int) (a3 : Int) (a4 : List Bool), (D_ref01_Bits g_ref01_Digits l_3).step Proofs.Try.prog Proofs.Try.f8 3 (S_ref01_Bits_3 l_3) k (a2, a3, a4) = B_ref01_Bits_3 g_ref01_Digits k (a2, a3, a4)) ∧ (∀ (p1 : List Int), (D_ref01_Bits g_ref01_Digits l_3).body Proofs.Try.prog Proofs.Try.f8 s_ref01_Bits p1 = F_ref01_Bits l_3 p1) := ⟨fun k a2 a3 a4 => by kernel_rfl, fun p1 => by kernel_rfl⟩
theorem k_ref01_Bits : Known Proofs.Try.prog 8 (s_ref01_Bits.sp f_ref01_Bits) :=
  known_of (D := D_ref01_Bits f_ref01_Digits F_ref01_Bits_3) mixed Proofs.Try.func8 (by kernel_rfl) (by kernel_rfl) ⟨k_ref01_Digits, trivial⟩ ⟨fact_of fun k x => (q_ref01_Bits f_ref01_Digits F_ref01_Bits_3).1 k x.1 x.2.1 x.2.2, trivial⟩ fun x => (q_ref01_Bits f_ref01_Digits F_ref01_Bits_3).2 x

/-! (*serinette/bits.Reader).Left -/
abbrev G_bits_Reader_Left := (List Int) × Int × Int → Option ((Int × (List Int) × Int × Int))
def F_bits_Reader_Left : G_bits_Reader_Left
  | (p1, p2, p3) =>
    some (((subI .i64 ((mulI .i64 ((8 : Int)) (((List.length p1 : Nat) : Int)))) p2), p1, p2, p3))
noncomputable def f_bits_Reader_Left : G_bits_Reader_Left := F_bits_Reader_Left
def s_bits_Reader_Left : Sig := ⟨[.box [vB, vI, vI]], [tB, tI, tI], [⟨vI, [.box [vB, vI, vI]], [tI, tB, tI, tI]⟩]⟩
def D_bits_Reader_Left : Desc := ⟨[], [0, 1, 2], false, [], [], [], [false]⟩
theorem q_bits_Reader_Left : ∀ (p1 : List Int) (p2 : Int) (p3 : Int), D_bits_Reader_Left.body Proofs.Try.prog Proofs.Try.f85 s_bits_Reader_Left (p1, p2, p3) = F_bits_Reader_Left (p1, p2, p3) := fun p1 p2 p3 => by kernel_rfl
theorem k_bits_Reader_Left : Known Proofs.Try.prog 85 (s_bits_Reader_Left.sp f_bits_Reader_Left) :=
  known_of (D := D_bits_Reader_Left) mixed Proofs.Try.func85 (by kernel_rfl) (by kernel_rfl) trivial trivial fun x => q_bits_Reader_Left x.1 x.2.1 x.2.2

/-! (*serinette/bits.Reader).Take -/
abbrev G_bits_Reader_Take := (List Int) × Int × Int × Int → Option ((Int × (List Int) × Int × Int))
abbrev L_bits_Reader_Take_g0 := Int × Int × (List Int) × Int × Int → Option ((Int × (List Int) × Int × Int))
def B_bits_Reader_Take_g0 (again : L_bits_Reader_Take_g0) : L_bits_Reader_Take_g0
  | (a25, a26, a27, a28, a29) =>
    if (a25 == ((0 : Int))) = true then
      some ((a26, a27, a28, a29))
    else
      (remI a28 ((8 : Int))).bind fun x30 =>
      (quoI .i64 a28 ((8 : Int))).bind fun x31 =>
      (idx a27 x31).bind fun x32 =>
      (shrI .u8 x32 ((subI .i64 ((subI .i64 ((8 : Int)) x30)) ((minI ((subI .i64 ((8 : Int)) x30)) a25))))).bind fun x33 =>
      (shlI .u8 ((1 : Int)) ((minI ((subI .i64 ((8 : Int)) x30)) a25))).bind fun x34 =>
      (shlI .u64 a26 ((minI ((subI .i64 ((8 : Int)) x30)) a25))).bind fun x35 =>
      again (((subI .i64 a25 ((minI ((subI .i64 ((8 : Int)) x30)) a25))), (orI .u64 x35 ((IntKind.wrap .u64 ((andI .u8 x33 ((subI .u8 x34 ((1 : Int))))))))), a27, (addI .i64 a28 ((minI ((subI .i64 ((8 : Int)) x30)) a25))), a29))
noncomputable def F_bits_Reader_Take_g0 : L_bits_Reader_Take_g0 := lfp B_bits_Reader_Take_g0
abbrev S_bits_Reader_Take_g0 (l : L_bits_Reader_Take_g0) : LoopS := ⟨⟨.normal, [], [(0, .ptr 0 1 0), (5, vI), (6, .val tU64)], [(0, 1, .box [vB, vI, vI])], [tI, tU64, tB, tI, tI]⟩, [⟨.ret, [], [(4, .val tU64)], [(0, 1, .box [vB, vI, vI])], [tU64, tB, tI, tI]⟩], l⟩
def F_bits_Reader_Take (g_bits_Reader_Left : G_bits_Reader_Left) (g_bits_held : G_bits_held) (l_100000 : L_bits_Reader_Take_g0) : G_bits_Reader_Take
  | (p1, p2, p3, p4) =>
    (g_bits_held p4).bind fun x5 =>
    Option.bind (α := (Int × Bool × (List Int) × Int × Int)) (
      if (p3 == ((0 : Int))) = true then
        (g_bits_Reader_Left ((p1, p2, p3))).bind fun (x6, x7, x8, x9) =>
        some ((x5, (decide (x5 > x6)), x7, x8, x9))
      else
        some ((x5, false, p1, p2, p3))) fun (x10, x11, x12, x13, x14) =>
    Option.bind (α := (Int × (List Int) × Int × Int)) (
      if x11 = true then
        some ((x10, x12, x13, (2 : Int)))
      else
        some ((x10, x12, x13, x14))) fun (x15, x16, x17, x18) =>
    if (x18 != ((0 : Int))) = true then
      some (((0 : Int), x16, x17, x18))
    else
      if (x15 == ((0 : Int))) = true then
        some (((0 : Int), x16, x17, x18))
      else
        (remI x17 ((8 : Int))).bind fun x19 =>
        (quoI .i64 x17 ((8 : Int))).bind fun x20 =>
        (idx x16 x20).bind fun x21 =>
        (shrI .u8 x21 ((subI .i64 ((subI .i64 ((8 : Int)) x19)) ((minI ((subI .i64 ((8 : Int)) x19)) x15))))).bind fun x22 =>
        (shlI .u8 ((1 : Int)) ((minI ((subI .i64 ((8 : Int)) x19)) x15))).bind fun x23 =>
        (shlI .u64 ((0 : Int)) ((minI ((subI .i64 ((8 : Int)) x19)) x15))).bind fun x24 =>
        Option.bind (α := (Int × (List Int) × Int × Int)) (
          l_100000 (((subI .i64 x15 ((minI ((subI .i64 ((8 : Int)) x19)) x15))), (orI .u64 x24 ((IntKind.wrap .u64 ((andI .u8 x22 ((subI .u8 x23 ((1 : Int))))))))), x16, (addI .i64 x17 ((minI ((subI .i64 ((8 : Int)) x19)) x15))), x18))) fun (x36, x37, x38, x39) =>
        some ((x36, x37, x38, x39))
noncomputable def f_bits_Reader_Take : G_bits_Reader_Take := F_bits_Reader_Take f_bits_Reader_Left f_bits_held F_bits_Reader_Take_g0
def s_bits_Reader_Take : Sig := ⟨[.box [vB, vI, vI], vI], [tB, tI, tI, tI], [⟨.val tU64, [.box [vB, vI, vI]], [tU64, tB, tI, tI]⟩]⟩
def D_bits_Reader_Take (g_bits_Reader_Left : G_bits_Reader_Left) (g_bits_held : G_bits_held) (l_100000 : L_bits_Reader_Take_g0) : Desc := ⟨[(85, s_bits_Reader_Left.sp g_bits_Reader_Left), (82, s_bits_held.sp g_bits_held)], [0, 1, 2, 3, 4, 5, 6, 7, 8, 9], false, [], [(300002, [⟨.normal, [], [(0, .ptr 0 1 0), (5, vI), (22, vO)], [(0, 1, .box [vB, vI, vI])], [tI, tO, tB, tI, tI]⟩]), (3000022, [⟨.normal, [], [(0, .ptr 0 1 0), (5, vI)], [(0, 1, .box [vB, vI, vI])], [tI, tB, tI, tI]⟩])], [(100000, S_bits_Reader_Take_g0 l_100000)], [false]⟩
theorem q_bits_Reader_Take (g_bits_Reader_Left : G_bits_Reader_Left) (g_bits_held : G_bits_held) (l_100000 : L_bits_Reader_Take_g0) : (∀ (k : L_bits_Reader_Take_g0) (a25 : Int) (a26 : Int) (a27 : List Int) (a28 : Int) (a29 : Int), (D_bits_Reader_Take g_bits_Reader_Left g_bits_held l_100000).step Proofs.Try.prog Proofs.Try.f57 100000 (S_bits_Reader_Take_g0 l_100000) k (a25, a26, a27, a28, a29) = B_bits_Reader_Take_g0 k (a25, a26, a27, a28, a29)) ∧ (∀ (p1 : List Int) (p2 : Int) (p3 : Int) (p4 : Int), (D_bits_Reader_Take g_bits_Reader_Left g_bits_held l_100000).body Proofs.Try.prog Proofs.Try.f57 s_bits_Reader_Take (p1, p2, p3, p4) = F_bits_Reader_Take g_bits_Reader_Left g_bits_held l_100000 (p1, p2, p3, p4)) := ⟨fun k a25 a26 a27 a28 a29 => by kernel_rfl, fun p1 p2 p3 p4 => by kernel_rfl⟩
theorem k_bits_Reader_Take : Known Proofs.Try.prog 57 (s_bits_Reader_Take.sp f_bits_Reader_Take) :=
  known_of (D := D_bits_Reader_Take f_bits_Reader_Left f_bits_held F_bits_Reader_Take_g0) mixed Proofs.Try.func57 (by kernel_rfl) (by kernel_rfl) ⟨k_bits_Reader_Left, k_bits_held, trivial⟩ ⟨fact_of fun k x => (q_bits_Reader_Take f_bits_Reader_Left f_bits_held F_bits_Reader_Take_g0).1 k x.1 x.2.1 x.2.2.1 x.2.2.2.1 x.2.2.2.2, trivial⟩ fun x => (q_bits_Reader_Take f_bits_Reader_Left f_bits_held F_bits_Reader_Take_g0).2 x.1 x.2.1 x.2.2.1 x.2.2.2

/-! (*serinette/bits.Reader).Fail -/
abbrev G_bits_Reader_Fail := (List Int) × Int × Int → Option ((Int × (List Int) × Int × Int))
def F_bits_Reader_Fail : G_bits_Reader_Fail
  | (p1, p2, p3) =>
    some ((p3, p1, p2, p3))
noncomputable def f_bits_Reader_Fail : G_bits_Reader_Fail := F_bits_Reader_Fail
def s_bits_Reader_Fail : Sig := ⟨[.box [vB, vI, vI]], [tB, tI, tI], [⟨vI, [.box [vB, vI, vI]], [tI, tB, tI, tI]⟩]⟩
def D_bits_Reader_Fail : Desc := ⟨[], [0, 1, 2], false, [], [], [], [false]⟩
theorem q_bits_Reader_Fail : ∀ (p1 : List Int) (p2 : Int) (p3 : Int), D_bits_Reader_Fail.body Proofs.Try.prog Proofs.Try.f26 s_bits_Reader_Fail (p1, p2, p3) = F_bits_Reader_Fail (p1, p2, p3) := fun p1 p2 p3 => by kernel_rfl
theorem k_bits_Reader_Fail : Known Proofs.Try.prog 26 (s_bits_Reader_Fail.sp f_bits_Reader_Fail) :=
  known_of (D := D_bits_Reader_Fail) mixed Proofs.Try.func26 (by kernel_rfl) (by kernel_rfl) trivial trivial fun x => q_bits_Reader_Fail x.1 x.2.1 x.2.2

/-! serinette/subframe.kind -/
abbrev G_subframe_kind := Int → Option ((Int × Int × Int))
def F_subframe_kind : G_subframe_kind
  | p1 =>
    if (decide (p1 ≤ ((1 : Int)))) = true then
      some ((p1, (0 : Int), (0 : Int)))
    else
      Option.bind (α := (Int × Bool)) (
        if (decide (p1 ≥ ((8 : Int)))) = true then
          some ((p1, (decide (p1 ≤ ((12 : Int))))))
        else
          some ((p1, false))) fun (x2, x3) =>
      if x3 = true then
        some (((2 : Int), (subI .i64 x2 ((8 : Int))), (0 : Int)))
      else
        if (decide (x2 > ((31 : Int)))) = true then
          some (((3 : Int), (subI .i64 x2 ((31 : Int))), (0 : Int)))
        else
          some (((0 : Int), (0 : Int), (8 : Int)))
noncomputable def f_subframe_kind : G_subframe_kind := F_subframe_kind
def s_subframe_kind : Sig := ⟨[vI], [tI], [⟨.tup [vI, vI, vI], [], [tI, tI, tI]⟩]⟩
def D_subframe_kind : Desc := ⟨[], [0, 1, 2, 3, 4], false, [], [(300003, [⟨.normal, [], [(0, vI), (9, vO)], [], [tI, tO]⟩])], [], [false, false, false]⟩
theorem q_subframe_kind : ∀ (p1 : Int), D_subframe_kind.body Proofs.Try.prog Proofs.Try.f58 s_subframe_kind p1 = F_subframe_kind p1 := fun p1 => by kernel_rfl
theorem k_subframe_kind : Known Proofs.Try.prog 58 (s_subframe_kind.sp f_subframe_kind) :=
  known_of (D := D_subframe_kind) mixed Proofs.Try.func58 (by kernel_rfl) (by kernel_rfl) trivial trivial fun x => q_subframe_kind x

/-! serinette/subframe.begin -/
abbrev G_subframe_begin := (List Int) × Int × Int × Int × Int → Option ((e9 × Int × Int × (List Int) × Int × Int))
abbrev L_subframe_begin_11 := Int × Int × Int × Bool × (List Int) × Int × Int × Int × Int × Int × Int × Int × (List Int) × Bool × Int × (List e0) → Option ((Int × Int × (List Int) × Int × Int × Int × Int × Int × Int × Int × (List Int) × Bool × Int × (List e0)) ⊕ (Int × Int × (List Int) × Int × Int × Int × Int × Int × Int × Int × (List Int) × Bool × Int × (List e0)))
def B_subframe_begin_11 (g_bits_Reader_Fail : G_bits_Reader_Fail) (g_bits_Reader_Take : G_bits_Reader_Take) (again : L_subframe_begin_11) : L_subframe_begin_11
  | (a48, a49, a50, a51, a52, a53, a54, a55, a56, a57, a58, a59, a60, a61, a62, a63) =>
    Option.bind (α := (Int × Int × Int × Bool × (List Int) × Int × Int × Int × Int × Int × Int × Int × (List Int) × Bool × Int × (List e0))) (
      if a51 = true then
        (g_bits_Reader_Fail ((a52, a53, a54))).bind fun (x64, x65, x66, x67) =>
        some ((a48, a49, a50, (x64 == ((0 : Int))), x65, x66, x67, a55, a56, a57, a58, a59, a60, a61, a62, a63))
      else
        some ((a48, a49, a50, false, a52, a53, a54, a55, a56, a57, a58, a59, a60, a61, a62, a63))) fun (x68, x69, x70, x71, x72, x73, x74, x75, x76, x77, x78, x79, x80, x81, x82, x83) =>
    Option.bind (α := (Int × Int × Int × (List Int) × Int × Int × Int × Int × Int × Int × Int × (List Int) × Bool × Int × (List e0)) ⊕ (Int × Int × (List Int) × Int × Int × Int × Int × Int × Int × Int × (List Int) × Bool × Int × (List e0))) (
      if x71 = true then
        some ((.inl (x68, x69, x70, x72, x73, x74, x75, x76, x77, x78, x79, x80, x81, x82, x83)))
      else
        some ((.inr (x68, x70, x72, x73, x74, x75, x76, x77, x78, x79, x80, x81, x82, x83)))) fun o => match o with
      | (.inl (x84, x85, x86, x87, x88, x89, x90, x91, x92, x93, x94, x95, x96, x97, x98)) =>
        if (decide (((addI .i64 x91 ((1 : Int)))) ≥ x85)) = true then
          some ((.inr ((0 : Int), (5 : Int), x87, x88, x89, x90, (addI .i64 x91 ((1 : Int))), x92, x93, x94, x95, x96, x97, x98)))
        else
          (g_bits_Reader_Take ((x87, x88, x89, (1 : Int)))).bind fun (x99, x100, x101, x102) =>
          again ((x84, x85, x86, (x99 == ((0 : Int))), x100, x101, x102, x90, (addI .i64 x91 ((1 : Int))), x92, x93, x94, x95, x96, x97, x98))
      | (.inr (x103, x104, x105, x106, x107, x108, x109, x110, x111, x112, x113, x114, x115, x116)) =>
        some ((.inl (x103, x104, x105, x106, x107, x108, x109, x110, x111, x112, x113, x114, x115, x116)))
noncomputable def F_subframe_begin_11 : L_subframe_begin_11 := lfp (B_subframe_begin_11 f_bits_Reader_Fail f_bits_Reader_Take)
abbrev S_subframe_begin_11 (l : L_subframe_begin_11) : LoopS := ⟨⟨.normal, [], [(0, .ptr 0 1 0), (1, vI), (2, vI), (6, .ptr 24576 0 0), (7, vI), (11, vO)], [(0, 1, .box [vB, vI, vI]), (24576, 0, .box [vI, vI, vI, vI, vI, vL, vO, vI, .val (.slice y0)])], [tI, tI, tI, tO, tB, tI, tI, tI, tI, tI, tI, tI, tL, tO, tI, .slice y0]⟩, [⟨.exit 0, [], [(0, .ptr 0 1 0), (1, vI), (6, .ptr 24576 0 0), (7, vI)], [(0, 1, .box [vB, vI, vI]), (24576, 0, .box [vI, vI, vI, vI, vI, vL, vO, vI, .val (.slice y0)])], [tI, tI, tB, tI, tI, tI, tI, tI, tI, tI, tL, tO, tI, .slice y0]⟩, ⟨.ret, [], [(6, .ptr 24576 0 0), (7, vI), (8, vI)], [(0, 1, .box [vB, vI, vI]), (24576, 0, .box [vI, vI, vI, vI, vI, vL, vO, vI, .val (.slice y0)])], [tI, tI, tB, tI, tI, tI, tI, tI, tI, tI, tL, tO, tI, .slice y0]⟩], l⟩
def F_subframe_begin (g_bits_Reader_Fail : G_bits_Reader_Fail) (g_bits_Reader_Take : G_bits_Reader_Take) (g_subframe_kind : G_subframe_kind) (l_11 : L_subframe_begin_11) : G_subframe_begin
  | (p1, p2, p3, p4, p5) =>
    (g_bits_Reader_Take ((p1, p2, p3, (1 : Int)))).bind fun (x6, x7, x8, x9) =>
    Option.bind (α := (Int × Int × Bool × (List Int) × Int × Int × Int × Int × Int × Int × Int × (List Int) × Bool × Int × (List e0))) (
      (g_bits_Reader_Fail ((x7, x8, x9))).bind fun (x10, x11, x12, x13) =>
      if (x10 == ((0 : Int))) = true then
        some ((p4, p5, (x6 != ((0 : Int))), x11, x12, x13, (0 : Int), (0 : Int), (0 : Int), (0 : Int), (0 : Int), ([] : List Int), false, (0 : Int), ([] : List e0)))
      else
        some ((p4, p5, false, x11, x12, x13, (0 : Int), (0 : Int), (0 : Int), (0 : Int), (0 : Int), ([] : List Int), false, (0 : Int), ([] : List e0)))) fun (x14, x15, x16, x17, x18, x19, x20, x21, x22, x23, x24, x25, x26, x27, x28) =>
    if x16 = true then
      some (((x20, (x21, (x22, ((x23, (x24, (x25, ()))), ((x26, (x27, (x28, ()))), ()))))), (0 : Int), (5 : Int), x17, x18, x19))
    else
      (g_bits_Reader_Take ((x17, x18, x19, (6 : Int)))).bind fun (x29, x30, x31, x32) =>
      (g_bits_Reader_Fail ((x30, x31, x32))).bind fun (x33, x34, x35, x36) =>
      if (x33 != ((0 : Int))) = true then
        (g_bits_Reader_Fail ((x34, x35, x36))).bind fun (x37, x38, x39, x40) =>
        some (((x20, (x21, (x22, ((x23, (x24, (x25, ()))), ((x26, (x27, (x28, ()))), ()))))), (0 : Int), x37, x38, x39, x40))
      else
        (g_subframe_kind ((IntKind.wrap .i64 x29))).bind fun (x41, x42, x43) =>
        if (x43 != ((0 : Int))) = true then
          some (((x41, (x21, (x22, ((x23, (x24, (x25, ()))), ((x26, (x27, (x28, ()))), ()))))), (0 : Int), x43, x34, x35, x36))
        else
          (g_bits_Reader_Take ((x34, x35, x36, (1 : Int)))).bind fun (x44, x45, x46, x47) =>
          Option.bind (α := (Int × Int × (List Int) × Int × Int × Int × Int × Int × Int × Int × (List Int) × Bool × Int × (List e0)) ⊕ (Int × Int × (List Int) × Int × Int × Int × Int × Int × Int × Int × (List Int) × Bool × Int × (List e0))) (
            l_11 ((x14, x15, x42, (x44 == ((1 : Int))), x45, x46, x47, x41, x21, x22, x23, x24, x25, x26, x27, x28))) fun o => match o with
            | (.inl (x117, x118, x119, x120, x121, x122, x123, x124, x125, x126, x127, x128, x129, x130)) =>
              Option.bind (α := (Int × Bool × (List Int) × Int × Int × Int × Int × Int × Int × Int × (List Int) × Bool × Int × (List e0))) (
                (g_bits_Reader_Fail ((x119, x120, x121))).bind fun (x145, x146, x147, x148) =>
                if (x145 == ((0 : Int))) = true then
                  some ((x118, (decide (x118 ≥ x117)), x146, x147, x148, x122, x123, x124, x125, x126, x127, x128, x129, x130))
                else
                  some ((x118, false, x146, x147, x148, x122, x123, x124, x125, x126, x127, x128, x129, x130))) fun (x149, x150, x151, x152, x153, x154, x155, x156, x157, x158, x159, x160, x161, x162) =>
              if x150 = true then
                some (((x154, (x155, (x156, ((x157, (x158, (x159, ()))), ((x160, (x161, (x162, ()))), ()))))), (0 : Int), (5 : Int), x151, x152, x153))
              else
                (g_bits_Reader_Fail ((x151, x152, x153))).bind fun (x163, x164, x165, x166) =>
                some (((x154, (x155, (x156, ((x157, (x158, (x159, ()))), ((x160, (x161, (x162, ()))), ()))))), x149, x163, x164, x165, x166))
            | (.inr (x131, x132, x133, x134, x135, x136, x137, x138, x139, x140, x141, x142, x143, x144)) =>
              some (((x136, (x137, (x138, ((x139, (x140, (x141, ()))), ((x142, (x143, (x144, ()))), ()))))), x131, x132, x133, x134, x135))
noncomputable def f_subframe_begin : G_subframe_begin := F_subframe_begin f_bits_Reader_Fail f_bits_Reader_Take f_subframe_kind F_subframe_begin_11
def s_subframe_begin : Sig := ⟨[.box [vB, vI, vI], vI, vI], [tB, tI, tI, tI, tI], [⟨.tup [.val y9, vI, vI], [.box [vB, vI, vI]], [y9, tI, tI, tB, tI, tI]⟩]⟩
def D_subframe_begin (g_bits_Reader_Fail : G_bits_Reader_Fail) (g_bits_Reader_Take : G_bits_Reader_Take) (g_subframe_kind : G_subframe_kind) (l_11 : L_subframe_begin_11) : Desc := ⟨[(26, s_bits_Reader_Fail.sp g_bits_Reader_Fail), (57, s_bits_Reader_Take.sp g_bits_Reader_Take), (58, s_subframe_kind.sp g_subframe_kind)], [0, 1, 2, 3, 4, 5, 6, 7, 8, 9, 10, 11], false, [], [(300002, [⟨.normal, [], [(0, .ptr 0 1 0), (1, vI), (2, vI), (6, .ptr 24576 0 0), (20, vO)], [(0, 1, .box [vB, vI, vI]), (24576, 0, .box [vI, vI, vI, vI, vI, vL, vO, vI, .val (.slice y0)])], [tI, tI, tO, tB, tI, tI, tI, tI, tI, tI, tI, tL, tO, tI, .slice y0]⟩]), (300011, [⟨.normal, [], [(0, .ptr 0 1 0), (1, vI), (2, vI), (6, .ptr 24576 0 0), (7, vI), (50, vO)], [(0, 1, .box [vB, vI, vI]), (24576, 0, .box [vI, vI, vI, vI, vI, vL, vO, vI, .val (.slice y0)])], [tI, tI, tI, tO, tB, tI, tI, tI, tI, tI, tI, tI, tL, tO, tI, .slice y0]⟩]), (50, [⟨.normal, [], [(0, .ptr 0 1 0), (1, vI), (2, vI), (6, .ptr 24576 0 0), (7, vI)], [(0, 1, .box [vB, vI, vI]), (24576, 0, .box [vI, vI, vI, vI, vI, vL, vO, vI, .val (.slice y0)])], [tI, tI, tI, tB, tI, tI, tI, tI, tI, tI, tI, tL, tO, tI, .slice y0]⟩, ⟨.exit 0, [], [(0, .ptr 0 1 0), (1, vI), (6, .ptr 24576 0 0), (7, vI)], [(0, 1, .box [vB, vI, vI]), (24576, 0, .box [vI, vI, vI, vI, vI, vL, vO, vI, .val (.slice y0)])], [tI, tI, tB, tI, tI, tI, tI, tI, tI, tI, tL, tO, tI, .slice y0]⟩]), (300016, [⟨.normal, [], [(0, .ptr 0 1 0), (6, .ptr 24576 0 0), (7, vI), (70, vO)], [(0, 1, .box [vB, vI, vI]), (24576, 0, .box [vI, vI, vI, vI, vI, vL, vO, vI, .val (.slice y0)])], [tI, tO, tB, tI, tI, tI, tI, tI, tI, tI, tL, tO, tI, .slice y0]⟩])], [(11, S_subframe_begin_11 l_11)], [false, false, false]⟩
theorem q_subframe_begin (g_bits_Reader_Fail : G_bits_Reader_Fail) (g_bits_Reader_Take : G_bits_Reader_Take) (g_subframe_kind : G_subframe_kind) (l_11 : L_subframe_begin_11) : (∀ (k : L_subframe_begin_11) (a48 : Int) (a49 : Int) (a50 : Int) (a51 : Bool) (a52 : List Int) (a53 : Int) (a54 : Int) (a55 : Int) (a56 : Int) (a57 : Int) (a58 : Int) (a59 : Int) (a60 : List Int) (a61 : Bool) (a62 : Int) (a63 : List e0), (D_subframe_begin g_bits_Reader_Fail g_bits_Reader_Take g_subframe_kind l_11).step Proofs.Try.prog Proofs.Try.f24 11 (S_subframe_begin_11 l_11) k (a48, a49, a50, a51, a52, a53, a54, a55, a56, a57, a58, a59, a60, a61, a62, a63) = B_subframe_begin_11 g_bits_Reader_Fail g_bits_Reader_Take k (a48, a49, a50, a51, a52, a53, a54, a55, a56, a57, a58, a59, a60, a61, a62, a63)) ∧ (∀ (p1 : List Int) (p2 : Int) (p3 : Int) (p4 : Int) (p5 : Int), (D_subframe_begin g_bits_Reader_Fail g_bits_Reader_Take g_subframe_kind l_11).body Proofs.Try.prog Proofs.Try.f24 s_subframe_begin (p1, p2, p3, p4, p5) = F_subframe_begin g_bits_Reader_Fail g_bits_Reader_Take g_subframe_kind l_11 (p1, p2, p3, p4, p5)) := ⟨fun k a48 a49 a50 a51 a52 a53 a54 a55 a56 a57 a58 a59 a60 a61 a62 a63 => by kernel_rfl, fun p1 p2 p3 p4 p5 => by kernel_rfl⟩
theorem k_subframe_begin : Known Proofs.Try.prog 24 (s_subframe_begin.sp f_subframe_begin) :=
  known_of (D := D_subframe_begin f_bits_Reader_Fail f_bits_Reader_Take f_subframe_kind F_subframe_begin_11) mixed Proofs.Try.func24 (by kernel_rfl) (by kernel_rfl) ⟨k_bits_Reader_Fail, k_bits_Reader_Take, k_subframe_kind, trivial⟩ ⟨fact_of fun k x => (q_subframe_begin f_bits_Reader_Fail f_bits_Reader_Take f_subframe_kind F_subframe_begin_11).1 k x.1 x.2.1 x.2.2.1 x.2.2.2.1 x.2.2.2.2.1 x.2.2.2.2.2.1 x.2.2.2.2.2.2.1 x.2.2.2.2.2.2.2.1 x.2.2.2.2.2.2.2.2.1 x.2.2.2.2.2.2.2.2.2.1 x.2.2.2.2.2.2.2.2.2.2.1 x.2.2.2.2.2.2.2.2.2.2.2.1 x.2.2.2.2.2.2.2.2.2.2.2.2.1 x.2.2.2.2.2.2.2.2.2.2.2.2.2.1 x.2.2.2.2.2.2.2.2.2.2.2.2.2.2.1 x.2.2.2.2.2.2.2.2.2.2.2.2.2.2.2, trivial⟩ fun x => (q_subframe_begin f_bits_Reader_Fail f_bits_Reader_Take f_subframe_kind F_subframe_begin_11).2 x.1 x.2.1 x.2.2.1 x.2.2.2.1 x.2.2.2.2

/-! serinette/subframe.signed -/
abbrev G_subframe_signed := (List Int) × Int × Int × Int → Option ((Int × (List Int) × Int × Int))
def F_subframe_signed (g_bits_Reader_Take : G_bits_Reader_Take) : G_subframe_signed
  | (p1, p2, p3, p4) =>
    (g_bits_Reader_Take ((p1, p2, p3, p4))).bind fun (x5, x6, x7, x8) =>
    (shlI .i64 ((IntKind.wrap .i64 x5)) ((subI .i64 ((64 : Int)) p4))).bind fun x9 =>
    (shrI .i64 x9 ((subI .i64 ((64 : Int)) p4))).bind fun x10 =>
    some ((x10, x6, x7, x8))
noncomputable def f_subframe_signed : G_subframe_signed := F_subframe_signed f_bits_Reader_Take
def s_subframe_signed : Sig := ⟨[.box [vB, vI, vI], vI], [tB, tI, tI, tI], [⟨vI, [.box [vB, vI, vI]], [tI, tB, tI, tI]⟩]⟩
def D_subframe_signed (g_bits_Reader_Take : G_bits_Reader_Take) : Desc := ⟨[(57, s_bits_Reader_Take.sp g_bits_Reader_Take)], [0, 1, 2, 3, 4], false, [], [], [], [false]⟩
theorem q_subframe_signed (g_bits_Reader_Take : G_bits_Reader_Take) : ∀ (p1 : List Int) (p2 : Int) (p3 : Int) (p4 : Int), (D_subframe_signed g_bits_Reader_Take).body Proofs.Try.prog Proofs.Try.f59 s_subframe_signed (p1, p2, p3, p4) = F_subframe_signed g_bits_Reader_Take (p1, p2, p3, p4) := fun p1 p2 p3 p4 => by kernel_rfl
theorem k_subframe_signed : Known Proofs.Try.prog 59 (s_subframe_signed.sp f_subframe_signed) :=
  known_of (D := D_subframe_signed f_bits_Reader_Take) mixed Proofs.Try.func59 (by kernel_rfl) (by kernel_rfl) ⟨k_bits_Reader_Take, trivial⟩ trivial fun x => (q_subframe_signed f_bits_Reader_Take) x.1 x.2.1 x.2.2.1 x.2.2.2

/-! serinette/subframe.numbers -/
abbrev G_subframe_numbers := (List Int) × Int × Int × Int × Int → Option (((List Int) × (List Int) × Int × Int))
abbrev L_subframe_numbers_3 := Int × Int × Int × (List Int) × Int × Int × (List Int) → Option (((List Int) × Int × Int × (List Int)) ⊕ ((List Int) × Int × Int × (List Int)))
def B_subframe_numbers_3 (g_bits_Reader_Fail : G_bits_Reader_Fail) (g_subframe_signed : G_subframe_signed) (again : L_subframe_numbers_3) : L_subframe_numbers_3
  | (a6, a7, a8, a9, a10, a11, a12) =>
    Option.bind (α := (Int × Int × Int × (List Int) × Int × Int × (List Int)) ⊕ ((List Int) × Int × Int × (List Int))) (
      if (decide (a8 < a7)) = true then
        some ((.inl (a6, a7, a8, a9, a10, a11, a12)))
      else
        some ((.inr (a9, a10, a11, a12)))) fun o => match o with
      | (.inl (x13, x14, x15, x16, x17, x18, x19)) =>
        (g_subframe_signed ((x16, x17, x18, x13))).bind fun (x20, x21, x22, x23) =>
        (g_bits_Reader_Fail ((x21, x22, x23))).bind fun (x24, x25, x26, x27) =>
        if (x24 != ((0 : Int))) = true then
          some ((.inr (x25, x26, x27, ([] : List Int))))
        else
          (room (List.length x19 + List.length ((List.set (List.replicate 1 (0 : Int)) 0 x20)))).bind fun x28 =>
          again ((x13, x14, (addI .i64 x15 ((1 : Int))), x25, x26, x27, (x19 ++ (List.set (List.replicate 1 (0 : Int)) 0 x20))))
      | (.inr (x29, x30, x31, x32)) =>
        some ((.inl (x29, x30, x31, x32)))
noncomputable def F_subframe_numbers_3 : L_subframe_numbers_3 := lfp (B_subframe_numbers_3 f_bits_Reader_Fail f_subframe_signed)
abbrev S_subframe_numbers_3 (l : L_subframe_numbers_3) : LoopS := ⟨⟨.normal, [], [(0, .ptr 0 1 0), (2, vI), (7, .lref 28672 0), (9, vI), (10, vI)], [(0, 1, .box [vB, vI, vI]), (28672, 0, .own tI)], [tI, tI, tI, tB, tI, tI, tL]⟩, [⟨.exit 0, [], [(7, .lref 28672 0)], [(0, 1, .box [vB, vI, vI]), (28672, 0, .own tI)], [tB, tI, tI, tL]⟩, ⟨.ret, [], [(6, .lref 24576 0)], [(0, 1, .box [vB, vI, vI]), (24576, 0, .own tI)], [tB, tI, tI, tL]⟩], l⟩
def F_subframe_numbers (l_3 : L_subframe_numbers_3) : G_subframe_numbers
  | (p1, p2, p3, p4, p5) =>
    Option.bind (α := ((List Int) × Int × Int × (List Int)) ⊕ ((List Int) × Int × Int × (List Int))) (
      l_3 ((p5, p4, (0 : Int), p1, p2, p3, ([] : List Int)))) fun o => match o with
      | (.inl (x33, x34, x35, x36)) =>
        some ((x36, x33, x34, x35))
      | (.inr (x37, x38, x39, x40)) =>
        some ((x40, x37, x38, x39))
noncomputable def f_subframe_numbers : G_subframe_numbers := F_subframe_numbers F_subframe_numbers_3
def s_subframe_numbers : Sig := ⟨[.box [vB, vI, vI], vI, vI], [tB, tI, tI, tI, tI], [⟨.own tI, [.box [vB, vI, vI]], [tL, tB, tI, tI]⟩]⟩
def D_subframe_numbers (g_bits_Reader_Fail : G_bits_Reader_Fail) (g_subframe_signed : G_subframe_signed) (l_3 : L_subframe_numbers_3) : Desc := ⟨[(26, s_bits_Reader_Fail.sp g_bits_Reader_Fail), (59, s_subframe_signed.sp g_subframe_signed)], [0, 1, 2, 3, 4, 5, 6, 7, 8], false, [], [(11, [⟨.normal, [], [(0, .ptr 0 1 0), (2, vI), (7, .lref 28672 0), (9, vI), (10, vI)], [(0, 1, .box [vB, vI, vI]), (28672, 0, .own tI)], [tI, tI, tI, tB, tI, tI, tL]⟩, ⟨.exit 0, [], [(7, .lref 28672 0)], [(0, 1, .box [vB, vI, vI]), (28672, 0, .own tI)], [tB, tI, tI, tL]⟩])], [(3, S_subframe_numbers_3 l_3)], [false]⟩
theorem q_subframe_numbers (g_bits_Reader_Fail : G_bits_Reader_Fail) (g_subframe_signed : G_subframe_signed) (l_3 : L_subframe_numbers_3) : (∀ (k : L_subframe_numbers_3) (a6 : Int) (a7 : Int) (a8 : Int) (a9 : List Int) (a10 : Int) (a11 : Int) (a12 : List Int), (D_subframe_numbers g_bits_Reader_Fail g_subframe_signed l_3).step Proofs.Try.prog Proofs.Try.f25 3 (S_subframe_numbers_3 l_3) k (a6, a7, a8, a9, a10, a11, a12) = B_subframe_numbers_3 g_bits_Reader_Fail g_subframe_signed k (a6, a7, a8, a9, a10, a11, a12)) ∧ (∀ (p1 : List Int) (p2 : Int) (p3 : Int) (p4 : Int) (p5 : Int), (D_subframe_numbers g_bits_Reader_Fail g_subframe_signed l_3).body Proofs.Try.prog Proofs.Try.f25 s_subframe_numbers (p1, p2, p3, p4, p5) = F_subframe_numbers l_3 (p1, p2, p3, p4, p5)) := ⟨fun k a6 a7 a8 a9 a10 a11 a12 => by kernel_rfl, fun p1 p2 p3 p4 p5 => by kernel_rfl⟩
theorem k_subframe_numbers : Known Proofs.Try.prog 25 (s_subframe_numbers.sp f_subframe_numbers) :=
  known_of (D := D_subframe_numbers f_bits_Reader_Fail f_subframe_signed F_subframe_numbers_3) mixed Proofs.Try.func25 (by kernel_rfl) (by kernel_rfl) ⟨k_bits_Reader_Fail, k_subframe_signed, trivial⟩ ⟨fact_of fun k x => (q_subframe_numbers f_bits_Reader_Fail f_subframe_signed F_subframe_numbers_3).1 k x.1 x.2.1 x.2.2.1 x.2.2.2.1 x.2.2.2.2.1 x.2.2.2.2.2.1 x.2.2.2.2.2.2, trivial⟩ fun x => (q_subframe_numbers f_bits_Reader_Fail f_subframe_signed F_subframe_numbers_3).2 x.1 x.2.1 x.2.2.1 x.2.2.2.1 x.2.2.2.2

/-! math/bits.Mul64 -/
abbrev G_math_bits_Mul64 := Int × Int → Option ((Int × Int))
def F_math_bits_Mul64 : G_math_bits_Mul64
  | (p1, p2) =>
    (shrI .u64 p1 ((32 : Int))).bind fun x3 =>
    (shrI .u64 p2 ((32 : Int))).bind fun x4 =>
    (shrI .u64 ((mulI .u64 ((andI .u64 p1 ((4294967295 : Int)))) ((andI .u64 p2 ((4294967295 : Int)))))) ((32 : Int))).bind fun x5 =>
    (shrI .u64 ((addI .u64 ((mulI .u64 x3 ((andI .u64 p2 ((4294967295 : Int)))))) x5)) ((32 : Int))).bind fun x6 =>
    (shrI .u64 ((addI .u64 ((andI .u64 ((addI .u64 ((mulI .u64 x3 ((andI .u64 p2 ((4294967295 : Int)))))) x5)) ((4294967295 : Int)))) ((mulI .u64 ((andI .u64 p1 ((4294967295 : Int)))) x4)))) ((32 : Int))).bind fun x7 =>
    some (((addI .u64 ((addI .u64 ((mulI .u64 x3 x4)) x6)) x7), (mulI .u64 p1 p2)))
noncomputable def f_math_bits_Mul64 : G_math_bits_Mul64 := F_math_bits_Mul64
def s_math_bits_Mul64 : Sig := ⟨[.val tU64, .val tU64], [tU64, tU64], [⟨.tup [.val tU64, .val tU64], [], [tU64, tU64]⟩]⟩
def D_math_bits_Mul64 : Desc := ⟨[], [0, 1, 2, 3, 4, 5, 6, 7, 8, 9, 10, 11, 12, 13], false, [], [], [], [false, false]⟩
theorem q_math_bits_Mul64 : ∀ (p1 : Int) (p2 : Int), D_math_bits_Mul64.body Proofs.Try.prog Proofs.Try.f87 s_math_bits_Mul64 (p1, p2) = F_math_bits_Mul64 (p1, p2) := fun p1 p2 => by kernel_rfl
theorem k_math_bits_Mul64 : Known Proofs.Try.prog 87 (s_math_bits_Mul64.sp f_math_bits_Mul64) :=
  known_of (D := D_math_bits_Mul64) mixed Proofs.Try.func87 (by kernel_rfl) (by kernel_rfl) trivial trivial fun x => q_math_bits_Mul64 x.1 x.2

/-! math/bits.Mul -/
abbrev G_math_bits_Mul := Int × Int → Option ((Int × Int))
def F_math_bits_Mul (g_math_bits_Mul64 : G_math_bits_Mul64) : G_math_bits_Mul
  | (p1, p2) =>
    (g_math_bits_Mul64 ((p1, p2))).bind fun (x3, x4) =>
    some ((x3, x4))
noncomputable def f_math_bits_Mul : G_math_bits_Mul := F_math_bits_Mul f_math_bits_Mul64
def s_math_bits_Mul : Sig := ⟨[.val tU64, .val tU64], [tU64, tU64], [⟨.tup [.val tU64, .val tU64], [], [tU64, tU64]⟩]⟩
def D_math_bits_Mul (g_math_bits_Mul64 : G_math_bits_Mul64) : Desc := ⟨[(87, s_math_bits_Mul64.sp g_math_bits_Mul64)], [0, 1, 2, 3, 4, 5, 6, 7, 8, 9], false, [], [], [], [false, false]⟩
theorem q_math_bits_Mul (g_math_bits_Mul64 : G_math_bits_Mul64) : ∀ (p1 : Int) (p2 : Int), (D_math_bits_Mul g_math_bits_Mul64).body Proofs.Try.prog Proofs.Try.f60 s_math_bits_Mul (p1, p2) = F_math_bits_Mul g_math_bits_Mul64 (p1, p2) := fun p1 p2 => by kernel_rfl
theorem k_math_bits_Mul : Known Proofs.Try.prog 60 (s_math_bits_Mul.sp f_math_bits_Mul) :=
  known_of (D := D_math_bits_Mul f_math_bits_Mul64) mixed Proofs.Try.func60 (by kernel_rfl) (by kernel_rfl) ⟨k_math_bits_Mul64, trivial⟩ trivial fun x => (q_math_bits_Mul f_math_bits_Mul64) x.1 x.2

/-! slices.Repeat[[]int,int] -/
abbrev G_slices_Repeat_sint_int := (List Int) × Int → Option ((List Int))
abbrev L_slices_Repeat_sint_int_8 := Int × (List Int) → Option ((List Int))
def B_slices_Repeat_sint_int_8 (again : L_slices_Repeat_sint_int_8) : L_slices_Repeat_sint_int_8
  | (a9, a10) =>
    Option.bind (α := (Int × (List Int)) ⊕ (List Int)) (
      if (decide (a9 < (((List.length a10 : Nat) : Int)))) = true then
        some ((.inl (a9, a10)))
      else
        some ((.inr a10))) fun o => match o with
      | (.inl (x11, x12)) =>
        (rng (List.length x12) x11 (List.length x12 : Nat)).bind fun x13 =>
        (rng (List.length x12) 0 x11).bind fun x14 =>
        again (((addI .i64 x11 ((((Nat.min (List.length ((view x12 (some ((0 + x14.1), x14.2))))) x13.2) : Nat) : Int))), (splice x12 ((0 + x13.1)) (List.take (Nat.min (List.length ((view x12 (some ((0 + x14.1), x14.2))))) x13.2) ((view x12 (some ((0 + x14.1), x14.2))))))))
      | (.inr x15) =>
        some x15
noncomputable def F_slices_Repeat_sint_int_8 : L_slices_Repeat_sint_int_8 := lfp B_slices_Repeat_sint_int_8
abbrev S_slices_Repeat_sint_int_8 (l : L_slices_Repeat_sint_int_8) : LoopS := ⟨⟨.normal, [], [(7, .lref 28672 0), (8, vI)], [(28672, 0, .own tI)], [tI, tL]⟩, [⟨.exit 0, [], [(7, .lref 28672 0)], [(28672, 0, .own tI)], [tL]⟩], l⟩
def F_slices_Repeat_sint_int (g_math_bits_Mul : G_math_bits_Mul) (l_8 : L_slices_Repeat_sint_int_8) : G_slices_Repeat_sint_int
  | (p1, p2) =>
    if (decide (p2 < ((0 : Int)))) = true then
      none
    else
      (g_math_bits_Mul (((IntKind.wrap .u64 (((List.length p1 : Nat) : Int))), (IntKind.wrap .u64 p2)))).bind fun (x3, x4) =>
      Option.bind (α := ((List Int) × Int × Bool)) (
        if (decide (x3 > ((0 : Int)))) = true then
          some ((p1, x4, true))
        else
          some ((p1, x4, (decide (x4 > ((9223372036854775807 : Int))))))) fun (x5, x6, x7) =>
      if x7 = true then
        none
      else
        (mk ((IntKind.wrap .i64 x6)) 8 (0 : Int)).bind fun x8 =>
        Option.bind (α := (List Int)) (
          l_8 (((((Nat.min (List.length x5) (List.length x8)) : Nat) : Int), (splice x8 0 (List.take (Nat.min (List.length x5) (List.length x8)) x5))))) fun x16 =>
        some x16
noncomputable def f_slices_Repeat_sint_int : G_slices_Repeat_sint_int := F_slices_Repeat_sint_int f_math_bits_Mul F_slices_Repeat_sint_int_8
def s_slices_Repeat_sint_int : Sig := ⟨[vL, vI], [tL, tI], [⟨.own tI, [], [tL]⟩]⟩
def D_slices_Repeat_sint_int (g_math_bits_Mul : G_math_bits_Mul) (l_8 : L_slices_Repeat_sint_int_8) : Desc := ⟨[(60, s_math_bits_Mul.sp g_math_bits_Mul)], [0, 1, 2, 3, 4, 5, 6, 7, 8], false, [], [(300004, [⟨.normal, [], [(0, vL), (6, .val tU64), (26, vO)], [], [tL, tU64, tO]⟩]), (37, [⟨.normal, [], [(7, .lref 28672 0), (8, vI)], [(28672, 0, .own tI)], [tI, tL]⟩, ⟨.exit 0, [], [(7, .lref 28672 0)], [(28672, 0, .own tI)], [tL]⟩])], [(8, S_slices_Repeat_sint_int_8 l_8)], [false]⟩
theorem q_slices_Repeat_sint_int (g_math_bits_Mul : G_math_bits_Mul) (l_8 : L_slices_Repeat_sint_int_8) : (∀ (k : L_slices_Repeat_sint_int_8) (a9 : Int) (a10 : List Int), (D_slices_Repeat_sint_int g_math_bits_Mul l_8).step Proofs.Try.prog Proofs.Try.f27 8 (S_slices_Repeat_sint_int_8 l_8) k (a9, a10) = B_slices_Repeat_sint_int_8 k (a9, a10)) ∧ (∀ (p1 : List Int) (p2 : Int), (D_slices_Repeat_sint_int g_math_bits_Mul l_8).body Proofs.Try.prog Proofs.Try.f27 s_slices_Repeat_sint_int (p1, p2) = F_slices_Repeat_sint_int g_math_bits_Mul l_8 (p1, p2)) := ⟨fun k a9 a10 => by kernel_rfl, fun p1 p2 => by kernel_rfl⟩
theorem k_slices_Repeat_sint_int : Known Proofs.Try.prog 27 (s_slices_Repeat_sint_int.sp f_slices_Repeat_sint_int) :=
  known_of (D := D_slices_Repeat_sint_int f_math_bits_Mul F_slices_Repeat_sint_int_8) mixed Proofs.Try.func27 (by kernel_rfl) (by kernel_rfl) ⟨k_math_bits_Mul, trivial⟩ ⟨fact_of fun k x => (q_slices_Repeat_sint_int f_math_bits_Mul F_slices_Repeat_sint_int_8).1 k x.1 x.2, trivial⟩ fun x => (q_slices_Repeat_sint_int f_math_bits_Mul F_slices_Repeat_sint_int_8).2 x.1 x.2

/-! serinette/subframe.linear -/
abbrev G_subframe_linear := (List Int) × Int × Int × Int → Option ((e2 × Int × (List Int) × Int × Int))
def F_subframe_linear (g_bits_Reader_Fail : G_bits_Reader_Fail) (g_bits_Reader_Take : G_bits_Reader_Take) (g_subframe_numbers : G_subframe_numbers) : G_subframe_linear
  | (p1, p2, p3, p4) =>
    (g_bits_Reader_Take ((p1, p2, p3, (4 : Int)))).bind fun (x5, x6, x7, x8) =>
    Option.bind (α := (Int × Int × Bool × (List Int) × Int × Int × Int × Int × (List Int))) (
      (g_bits_Reader_Fail ((x6, x7, x8))).bind fun (x9, x10, x11, x12) =>
      if (x9 == ((0 : Int))) = true then
        some ((p4, (IntKind.wrap .i64 x5), (((IntKind.wrap .i64 x5)) == ((15 : Int))), x10, x11, x12, (0 : Int), (0 : Int), ([] : List Int)))
      else
        some ((p4, (IntKind.wrap .i64 x5), false, x10, x11, x12, (0 : Int), (0 : Int), ([] : List Int)))) fun (x13, x14, x15, x16, x17, x18, x19, x20, x21) =>
    if x15 = true then
      some ((((0 : Int), ((0 : Int), (([] : List Int), ()))), (5 : Int), x16, x17, x18))
    else
      (g_bits_Reader_Take ((x16, x17, x18, (5 : Int)))).bind fun (x22, x23, x24, x25) =>
      Option.bind (α := (Int × Int × Int × Bool × (List Int) × Int × Int × Int × Int × (List Int))) (
        (g_bits_Reader_Fail ((x23, x24, x25))).bind fun (x26, x27, x28, x29) =>
        if (x26 == ((0 : Int))) = true then
          some ((x13, x14, (IntKind.wrap .i64 x22), (decide (((IntKind.wrap .i64 x22)) > ((15 : Int)))), x27, x28, x29, x19, x20, x21))
        else
          some ((x13, x14, (IntKind.wrap .i64 x22), false, x27, x28, x29, x19, x20, x21))) fun (x30, x31, x32, x33, x34, x35, x36, x37, x38, x39) =>
      if x33 = true then
        some ((((0 : Int), ((0 : Int), (([] : List Int), ()))), (5 : Int), x34, x35, x36))
      else
        (g_subframe_numbers ((x34, x35, x36, x30, (addI .i64 x31 ((1 : Int)))))).bind fun (x40, x41, x42, x43) =>
        (g_bits_Reader_Fail ((x41, x42, x43))).bind fun (x44, x45, x46, x47) =>
        some (((x32, ((addI .i64 x31 ((1 : Int))), (x40, ()))), x44, x45, x46, x47))
noncomputable def f_subframe_linear : G_subframe_linear := F_subframe_linear f_bits_Reader_Fail f_bits_Reader_Take f_subframe_numbers
def s_subframe_linear : Sig := ⟨[.box [vB, vI, vI], vI], [tB, tI, tI, tI], [⟨.tup [.val y2, vI], [.box [vB, vI, vI]], [y2, tI, tB, tI, tI]⟩]⟩
def D_subframe_linear (g_bits_Reader_Fail : G_bits_Reader_Fail) (g_bits_Reader_Take : G_bits_Reader_Take) (g_subframe_numbers : G_subframe_numbers) : Desc := ⟨[(26, s_bits_Reader_Fail.sp g_bits_Reader_Fail), (57, s_bits_Reader_Take.sp g_bits_Reader_Take), (25, s_subframe_numbers.sp g_subframe_numbers)], [0, 1, 2, 3, 5, 6, 7, 8], false, [], [(300002, [⟨.normal, [], [(0, .ptr 0 1 0), (1, vI), (4, .ptr 16384 0 0), (6, vI), (18, vO)], [(0, 1, .box [vB, vI, vI]), (16384, 0, .box [vI, vI, vL])], [tI, tI, tO, tB, tI, tI, tI, tI, tL]⟩]), (300005, [⟨.normal, [], [(0, .ptr 0 1 0), (1, vI), (4, .ptr 16384 0 0), (6, vI), (7, vI), (29, vO)], [(0, 1, .box [vB, vI, vI]), (16384, 0, .box [vI, vI, vL])], [tI, tI, tI, tO, tB, tI, tI, tI, tI, tL]⟩])], [], [false, false]⟩
theorem q_subframe_linear (g_bits_Reader_Fail : G_bits_Reader_Fail) (g_bits_Reader_Take : G_bits_Reader_Take) (g_subframe_numbers : G_subframe_numbers) : ∀ (p1 : List Int) (p2 : Int) (p3 : Int) (p4 : Int), (D_subframe_linear g_bits_Reader_Fail g_bits_Reader_Take g_subframe_numbers).body Proofs.Try.prog Proofs.Try.f28 s_subframe_linear (p1, p2, p3, p4) = F_subframe_linear g_bits_Reader_Fail g_bits_Reader_Take g_subframe_numbers (p1, p2, p3, p4) := fun p1 p2 p3 p4 => by kernel_rfl
theorem k_subframe_linear : Known Proofs.Try.prog 28 (s_subframe_linear.sp f_subframe_linear) :=
  known_of (D := D_subframe_linear f_bits_Reader_Fail f_bits_Reader_Take f_subframe_numbers) mixed Proofs.Try.func28 (by kernel_rfl) (by kernel_rfl) ⟨k_bits_Reader_Fail, k_bits_Reader_Take, k_subframe_numbers, trivial⟩ trivial fun x => (q_subframe_linear f_bits_Reader_Fail f_bits_Reader_Take f_subframe_numbers) x.1 x.2.1 x.2.2.1 x.2.2.2

/-! serinette/section.size -/
abbrev G_section_size := Bool → Option (Int)
def F_section_size : G_section_size
  | p1 =>
    if p1 = true then
      some ((5 : Int))
    else
      some ((4 : Int))
noncomputable def f_section_size : G_section_size := F_section_size
def s_section_size : Sig := ⟨[vO], [tO], [⟨vI, [], [tI]⟩]⟩
def D_section_size : Desc := ⟨[], [0, 1, 2], false, [], [], [], [false]⟩
theorem q_section_size : ∀ (p1 : Bool), D_section_size.body Proofs.Try.prog Proofs.Try.f80 s_section_size p1 = F_section_size p1 := fun p1 => by kernel_rfl
theorem k_section_size : Known Proofs.Try.prog 80 (s_section_size.sp f_section_size) :=
  known_of (D := D_section_size) mixed Proofs.Try.func80 (by kernel_rfl) (by kernel_rfl) trivial trivial fun x => q_section_size x

/-! serinette/section.part -/
abbrev G_section_part := (List Int) × Int × Int × Bool → Option ((e0 × (List Int) × Int × Int))
def F_section_part (g_bits_Reader_Take : G_bits_Reader_Take) (g_section_size : G_section_size) : G_section_part
  | (p1, p2, p3, p4) =>
    (g_section_size p4).bind fun x5 =>
    (g_bits_Reader_Take ((p1, p2, p3, x5))).bind fun (x6, x7, x8, x9) =>
    (g_section_size p4).bind fun x10 =>
    (shlI .i64 ((1 : Int)) x10).bind fun x11 =>
    if (((IntKind.wrap .i64 x6)) == ((subI .i64 x11 ((1 : Int))))) = true then
      (g_bits_Reader_Take ((x7, x8, x9, (5 : Int)))).bind fun (x12, x13, x14, x15) =>
      some ((((IntKind.wrap .i64 x12), (true, ())), x13, x14, x15))
    else
      some ((((IntKind.wrap .i64 x6), (false, ())), x7, x8, x9))
noncomputable def f_section_part : G_section_part := F_section_part f_bits_Reader_Take f_section_size
def s_section_part : Sig := ⟨[.box [vB, vI, vI], vO], [tB, tI, tI, tO], [⟨.val y0, [.box [vB, vI, vI]], [y0, tB, tI, tI]⟩]⟩
def D_section_part (g_bits_Reader_Take : G_bits_Reader_Take) (g_section_size : G_section_size) : Desc := ⟨[(57, s_bits_Reader_Take.sp g_bits_Reader_Take), (80, s_section_size.sp g_section_size)], [0, 1, 2, 3, 5], false, [], [], [], [false]⟩
theorem q_section_part (g_bits_Reader_Take : G_bits_Reader_Take) (g_section_size : G_section_size) : ∀ (p1 : List Int) (p2 : Int) (p3 : Int) (p4 : Bool), (D_section_part g_bits_Reader_Take g_section_size).body Proofs.Try.prog Proofs.Try.f62 s_section_part (p1, p2, p3, p4) = F_section_part g_bits_Reader_Take g_section_size (p1, p2, p3, p4) := fun p1 p2 p3 p4 => by kernel_rfl
theorem k_section_part : Known Proofs.Try.prog 62 (s_section_part.sp f_section_part) :=
  known_of (D := D_section_part f_bits_Reader_Take f_section_size) mixed Proofs.Try.func62 (by kernel_rfl) (by kernel_rfl) ⟨k_bits_Reader_Take, k_section_size, trivial⟩ trivial fun x => (q_section_part f_bits_Reader_Take f_section_size) x.1 x.2.1 x.2.2.1 x.2.2.2

/-! serinette/section.raw -/
abbrev G_section_raw := (List Int) × Int × Int × Int → Option ((Int × (List Int) × Int × Int))
def F_section_raw (g_bits_Reader_Take : G_bits_Reader_Take) : G_section_raw
  | (p1, p2, p3, p4) =>
    if (p4 == ((0 : Int))) = true then
      some (((0 : Int), p1, p2, p3))
    else
      (g_bits_Reader_Take ((p1, p2, p3, p4))).bind fun (x5, x6, x7, x8) =>
      (shlI .i64 ((IntKind.wrap .i64 x5)) ((subI .i64 ((64 : Int)) p4))).bind fun x9 =>
      (shrI .i64 x9 ((subI .i64 ((64 : Int)) p4))).bind fun x10 =>
      some ((x10, x6, x7, x8))
noncomputable def f_section_raw : G_section_raw := F_section_raw f_bits_Reader_Take
def s_section_raw : Sig := ⟨[.box [vB, vI, vI], vI], [tB, tI, tI, tI], [⟨vI, [.box [vB, vI, vI]], [tI, tB, tI, tI]⟩]⟩
def D_section_raw (g_bits_Reader_Take : G_bits_Reader_Take) : Desc := ⟨[(57, s_bits_Reader_Take.sp g_bits_Reader_Take)], [0, 1, 2, 3, 4], false, [], [], [], [false]⟩
theorem q_section_raw (g_bits_Reader_Take : G_bits_Reader_Take) : ∀ (p1 : List Int) (p2 : Int) (p3 : Int) (p4 : Int), (D_section_raw g_bits_Reader_Take).body Proofs.Try.prog Proofs.Try.f88 s_section_raw (p1, p2, p3, p4) = F_section_raw g_bits_Reader_Take (p1, p2, p3, p4) := fun p1 p2 p3 p4 => by kernel_rfl
theorem k_section_raw : Known Proofs.Try.prog 88 (s_section_raw.sp f_section_raw) :=
  known_of (D := D_section_raw f_bits_Reader_Take) mixed Proofs.Try.func88 (by kernel_rfl) (by kernel_rfl) ⟨k_bits_Reader_Take, trivial⟩ trivial fun x => (q_section_raw f_bits_Reader_Take) x.1 x.2.1 x.2.2.1 x.2.2.2

/-! serinette/rice.Unfold -/
abbrev G_rice_Unfold := Int → Option (Int)
def F_rice_Unfold : G_rice_Unfold
  | p1 =>
    (shrI .u64 p1 ((1 : Int))).bind fun x2 =>
    some ((xorI .i64 ((IntKind.wrap .i64 x2)) ((subI .i64 0 ((IntKind.wrap .i64 ((andI .u64 p1 ((1 : Int))))))))))
noncomputable def f_rice_Unfold : G_rice_Unfold := F_rice_Unfold
def s_rice_Unfold : Sig := ⟨[.val tU64], [tU64], [⟨vI, [], [tI]⟩]⟩
def D_rice_Unfold : Desc := ⟨[], [0, 1, 2], false, [], [], [], [false]⟩
theorem q_rice_Unfold : ∀ (p1 : Int), D_rice_Unfold.body Proofs.Try.prog Proofs.Try.f104 s_rice_Unfold p1 = F_rice_Unfold p1 := fun p1 => by kernel_rfl
theorem k_rice_Unfold : Known Proofs.Try.prog 104 (s_rice_Unfold.sp f_rice_Unfold) :=
  known_of (D := D_rice_Unfold) mixed Proofs.Try.func104 (by kernel_rfl) (by kernel_rfl) trivial trivial fun x => q_rice_Unfold x

/-! serinette/rice.Take -/
abbrev G_rice_Take := (List Int) × Int × Int × Int → Option ((Int × (List Int) × Int × Int))
abbrev L_rice_Take_g0 := Int × Int × (List Int) × Int × Int → Option ((Int × (List Int) × Int × Int))
def B_rice_Take_g0 (g_bits_Reader_Fail : G_bits_Reader_Fail) (g_bits_Reader_Take : G_bits_Reader_Take) (g_rice_Unfold : G_rice_Unfold) (again : L_rice_Take_g0) : L_rice_Take_g0
  | (a34, a35, a36, a37, a38) =>
    (g_bits_Reader_Take ((a36, a37, a38, (1 : Int)))).bind fun (x39, x40, x41, x42) =>
    (g_bits_Reader_Fail ((x40, x41, x42))).bind fun (x43, x44, x45, x46) =>
    if (x43 != ((0 : Int))) = true then
      some (((0 : Int), x44, x45, x46))
    else
      Option.bind (α := (Int × Int × (List Int) × Int × Int) ⊕ (Int × Int × (List Int) × Int × Int)) (
        if (x39 == ((0 : Int))) = true then
          some ((.inr (a34, (addI .u64 a35 ((1 : Int))), x44, x45, x46)))
        else
          some ((.inl (a34, a35, x44, x45, x46)))) fun o => match o with
        | (.inl (x47, x48, x49, x50, x51)) =>
          (g_bits_Reader_Take ((x49, x50, x51, x47))).bind fun (x52, x53, x54, x55) =>
          (g_bits_Reader_Fail ((x53, x54, x55))).bind fun (x56, x57, x58, x59) =>
          if (x56 != ((0 : Int))) = true then
            some (((0 : Int), x57, x58, x59))
          else
            (shlI .u64 x48 x47).bind fun x60 =>
            (g_rice_Unfold ((orI .u64 x60 x52))).bind fun x61 =>
            some ((x61, x57, x58, x59))
        | (.inr (x62, x63, x64, x65, x66)) =>
          again ((x62, x63, x64, x65, x66))
noncomputable def F_rice_Take_g0 : L_rice_Take_g0 := lfp (B_rice_Take_g0 f_bits_Reader_Fail f_bits_Reader_Take f_rice_Unfold)
abbrev S_rice_Take_g0 (l : L_rice_Take_g0) : LoopS := ⟨⟨.normal, [], [(0, .ptr 0 1 0), (1, vI), (5, .val tU64)], [(0, 1, .box [vB, vI, vI])], [tI, tU64, tB, tI, tI]⟩, [⟨.ret, [], [(4, vI)], [(0, 1, .box [vB, vI, vI])], [tI, tB, tI, tI]⟩], l⟩
def F_rice_Take (g_bits_Reader_Fail : G_bits_Reader_Fail) (g_bits_Reader_Take : G_bits_Reader_Take) (g_rice_Unfold : G_rice_Unfold) (g_rice_held : G_rice_held) (l_100000 : L_rice_Take_g0) : G_rice_Take
  | (p1, p2, p3, p4) =>
    (g_rice_held p4).bind fun x5 =>
    (g_bits_Reader_Take ((p1, p2, p3, (1 : Int)))).bind fun (x6, x7, x8, x9) =>
    (g_bits_Reader_Fail ((x7, x8, x9))).bind fun (x10, x11, x12, x13) =>
    if (x10 != ((0 : Int))) = true then
      some (((0 : Int), x11, x12, x13))
    else
      Option.bind (α := (Int × Int × (List Int) × Int × Int) ⊕ (Int × Int × (List Int) × Int × Int)) (
        if (x6 == ((0 : Int))) = true then
          some ((.inr (x5, (addI .u64 ((0 : Int)) ((1 : Int))), x11, x12, x13)))
        else
          some ((.inl (x5, (0 : Int), x11, x12, x13)))) fun o => match o with
        | (.inl (x14, x15, x16, x17, x18)) =>
          (g_bits_Reader_Take ((x16, x17, x18, x14))).bind fun (x19, x20, x21, x22) =>
          (g_bits_Reader_Fail ((x20, x21, x22))).bind fun (x23, x24, x25, x26) =>
          if (x23 != ((0 : Int))) = true then
            some (((0 : Int), x24, x25, x26))
          else
            (shlI .u64 x15 x14).bind fun x27 =>
            (g_rice_Unfold ((orI .u64 x27 x19))).bind fun x28 =>
            some ((x28, x24, x25, x26))
        | (.inr (x29, x30, x31, x32, x33)) =>
          Option.bind (α := (Int × (List Int) × Int × Int)) (
            l_100000 ((x29, x30, x31, x32, x33))) fun (x67, x68, x69, x70) =>
          some ((x67, x68, x69, x70))
noncomputable def f_rice_Take : G_rice_Take := F_rice_Take f_bits_Reader_Fail f_bits_Reader_Take f_rice_Unfold f_rice_held F_rice_Take_g0
def s_rice_Take : Sig := ⟨[.box [vB, vI, vI], vI], [tB, tI, tI, tI], [⟨vI, [.box [vB, vI, vI]], [tI, tB, tI, tI]⟩]⟩
def D_rice_Take (g_bits_Reader_Fail : G_bits_Reader_Fail) (g_bits_Reader_Take : G_bits_Reader_Take) (g_rice_Unfold : G_rice_Unfold) (g_rice_held : G_rice_held) (l_100000 : L_rice_Take_g0) : Desc := ⟨[(26, s_bits_Reader_Fail.sp g_bits_Reader_Fail), (57, s_bits_Reader_Take.sp g_bits_Reader_Take), (104, s_rice_Unfold.sp g_rice_Unfold), (99, s_rice_held.sp g_rice_held)], [0, 1, 2, 3, 4, 5, 6, 7], false, [], [(7000016, [⟨.normal, [], [(0, .ptr 0 1 0), (1, vI), (5, .val tU64)], [(0, 1, .box [vB, vI, vI])], [tI, tU64, tB, tI, tI]⟩, ⟨.goto 0, [], [(0, .ptr 0 1 0), (1, vI), (5, .val tU64)], [(0, 1, .box [vB, vI, vI])], [tI, tU64, tB, tI, tI]⟩])], [(100000, S_rice_Take_g0 l_100000)], [false]⟩
theorem q_rice_Take (g_bits_Reader_Fail : G_bits_Reader_Fail) (g_bits_Reader_Take : G_bits_Reader_Take) (g_rice_Unfold : G_rice_Unfold) (g_rice_held : G_rice_held) (l_100000 : L_rice_Take_g0) : (∀ (k : L_rice_Take_g0) (a34 : Int) (a35 : Int) (a36 : List Int) (a37 : Int) (a38 : Int), (D_rice_Take g_bits_Reader_Fail g_bits_Reader_Take g_rice_Unfold g_rice_held l_100000).step Proofs.Try.prog Proofs.Try.f89 100000 (S_rice_Take_g0 l_100000) k (a34, a35, a36, a37, a38) = B_rice_Take_g0 g_bits_Reader_Fail g_bits_Reader_Take g_rice_Unfold k (a34, a35, a36, a37, a38)) ∧ (∀ (p1 : List Int) (p2 : Int) (p3 : Int) (p4 : Int), (D_rice_Take g_bits_Reader_Fail g_bits_Reader_Take g_rice_Unfold g_rice_held l_100000).body Proofs.Try.prog Proofs.Try.f89 s_rice_Take (p1, p2, p3, p4) = F_rice_Take g_bits_Reader_Fail g_bits_Reader_Take g_rice_Unfold g_rice_held l_100000 (p1, p2, p3, p4)) := ⟨fun k a34 a35 a36 a37 a38 => by kernel_rfl, fun p1 p2 p3 p4 => by kernel_rfl⟩
theorem k_rice_Take : Known Proofs.Try.prog 89 (s_rice_Take.sp f_rice_Take) :=
  known_of (D := D_rice_Take f_bits_Reader_Fail f_bits_Reader_Take f_rice_Unfold f_rice_held F_rice_Take_g0) mixed Proofs.Try.func89 (by kernel_rfl) (by kernel_rfl) ⟨k_bits_Reader_Fail, k_bits_Reader_Take, k_rice_Unfold, k_rice_held, trivial⟩ ⟨fact_of fun k x => (q_rice_Take f_bits_Reader_Fail f_bits_Reader_Take f_rice_Unfold f_rice_held F_rice_Take_g0).1 k x.1 x.2.1 x.2.2.1 x.2.2.2.1 x.2.2.2.2, trivial⟩ fun x => (q_rice_Take f_bits_Reader_Fail f_bits_Reader_Take f_rice_Unfold f_rice_held F_rice_Take_g0).2 x.1 x.2.1 x.2.2.1 x.2.2.2

/-! serinette/section.number -/
abbrev G_section_number := (List Int) × Int × Int × e0 → Option ((Int × (List Int) × Int × Int))
def F_section_number (g_rice_Take : G_rice_Take) (g_section_raw : G_section_raw) : G_section_number
  | (p1, p2, p3, p4) =>
    if p4.2.1 = true then
      (g_section_raw ((p1, p2, p3, p4.1))).bind fun (x5, x6, x7, x8) =>
      some ((x5, x6, x7, x8))
    else
      (g_rice_Take ((p1, p2, p3, p4.1))).bind fun (x9, x10, x11, x12) =>
      some ((x9, x10, x11, x12))
noncomputable def f_section_number : G_section_number := F_section_number f_rice_Take f_section_raw
def s_section_number : Sig := ⟨[.box [vB, vI, vI], .val y0], [tB, tI, tI, y0], [⟨vI, [.box [vB, vI, vI]], [tI, tB, tI, tI]⟩]⟩
def D_section_number (g_rice_Take : G_rice_Take) (g_section_raw : G_section_raw) : Desc := ⟨[(89, s_rice_Take.sp g_rice_Take), (88, s_section_raw.sp g_section_raw)], [0, 1, 2, 3, 4], false, [], [], [], [false]⟩
theorem q_section_number (g_rice_Take : G_rice_Take) (g_section_raw : G_section_raw) : ∀ (p1 : List Int) (p2 : Int) (p3 : Int) (p4 : e0), (D_section_number g_rice_Take g_section_raw).body Proofs.Try.prog Proofs.Try.f63 s_section_number (p1, p2, p3, p4) = F_section_number g_rice_Take g_section_raw (p1, p2, p3, p4) := fun p1 p2 p3 p4 => by kernel_rfl
theorem k_section_number : Known Proofs.Try.prog 63 (s_section_number.sp f_section_number) :=
  known_of (D := D_section_number f_rice_Take f_section_raw) mixed Proofs.Try.func63 (by kernel_rfl) (by kernel_rfl) ⟨k_rice_Take, k_section_raw, trivial⟩ trivial fun x => (q_section_number f_rice_Take f_section_raw) x.1 x.2.1 x.2.2.1 x.2.2.2

/-! serinette/section.Take -/
abbrev G_section_Take := (List Int) × Int × Int × Int × Int → Option (((List Int) × e4 × Int × (List Int) × Int × Int))
abbrev L_section_Take_19 := Int × Int × Int × Int × (List Int) × Int × Int × Bool × Int × (List e0) × Bool × Int × (List e0) × (List Int) × (List Int) × Int × Bool → Option ((Int × Int × (List Int) × Int × Int × Bool × Int × (List e0) × Bool × Int × (List e0) × (List Int) × (List Int)) ⊕ (Int × (List Int) × Int × Int × (List Int) × Bool × Int × (List e0)))
def B_section_Take_19 (g_bits_Reader_Fail : G_bits_Reader_Fail) (g_section_number : G_section_number) (again : L_section_Take_19) : L_section_Take_19
  | (a79, a80, a81, a82, a83, a84, a85, a86, a87, a88, a89, a90, a91, a92, a93, a94, a95) =>
    Option.bind (α := (Int × Int × Int × Int × (List Int) × Int × Int × Bool × Int × (List e0) × Bool × Int × (List e0) × (List Int) × (List Int) × Int × Bool) ⊕ (Int × Int × (List Int) × Int × Int × Bool × Int × (List e0) × Bool × Int × (List e0) × (List Int) × (List Int))) (
      if (decide (a82 < a81)) = true then
        some ((.inl (a79, a80, a81, a82, a83, a84, a85, a86, a87, a88, a89, a90, a91, a92, a93, a94, a95)))
      else
        some ((.inr (a79, a80, a83, a84, a85, a86, a87, a88, a89, a90, a91, a92, a93)))) fun o => match o with
      | (.inl (x96, x97, x98, x99, x100, x101, x102, x103, x104, x105, x106, x107, x108, x109, x110, x111, x112)) =>
        (g_section_number ((x100, x101, x102, (x111, (x112, ()))))).bind fun (x113, x114, x115, x116) =>
        (g_bits_Reader_Fail ((x114, x115, x116))).bind fun (x117, x118, x119, x120) =>
        if (x117 != ((0 : Int))) = true then
          (g_bits_Reader_Fail ((x118, x119, x120))).bind fun (x121, x122, x123, x124) =>
          some ((.inr (x121, x122, x123, x124, ([] : List Int), false, (0 : Int), ([] : List e0))))
        else
          Option.bind (α := (Int × Int × Int × Int × Int × Bool × (List Int) × Int × Int × Bool × Int × (List e0) × Bool × Int × (List e0) × (List Int) × (List Int) × Int × Bool)) (
            if (decide (x113 ≤ ((-2147483648 : Int)))) = true then
              some ((x113, x96, x97, x98, x99, true, x118, x119, x120, x103, x104, x105, x106, x107, x108, x109, x110, x111, x112))
            else
              some ((x113, x96, x97, x98, x99, (decide (x113 ≥ ((2147483648 : Int)))), x118, x119, x120, x103, x104, x105, x106, x107, x108, x109, x110, x111, x112))) fun (x125, x126, x127, x128, x129, x130, x131, x132, x133, x134, x135, x136, x137, x138, x139, x140, x141, x142, x143) =>
          if x130 = true then
            some ((.inr ((14 : Int), x131, x132, x133, ([] : List Int), false, (0 : Int), ([] : List e0))))
          else
            (room (List.length x141 + List.length ((List.set (List.replicate 1 (0 : Int)) 0 x125)))).bind fun x144 =>
            again ((x126, x127, x128, (addI .i64 x129 ((1 : Int))), x131, x132, x133, x134, x135, x136, x137, x138, x139, x140, (x141 ++ (List.set (List.replicate 1 (0 : Int)) 0 x125)), x142, x143))
      | (.inr (x145, x146, x147, x148, x149, x150, x151, x152, x153, x154, x155, x156, x157)) =>
        some ((.inl (x145, x146, x147, x148, x149, x150, x151, x152, x153, x154, x155, x156, x157)))
noncomputable def F_section_Take_19 : L_section_Take_19 := lfp (B_section_Take_19 f_bits_Reader_Fail f_section_number)
abbrev S_section_Take_19 (l : L_section_Take_19) : LoopS := ⟨⟨.normal, [], [(0, .ptr 0 1 0), (7, .ptr 28672 0 0), (10, .ptr 40960 0 0), (12, .lref 49152 0), (15, .ptr 61440 0 0), (66, .lref 45056 0), (67, vI), (68, vI), (82, vI), (83, vI)], [(0, 1, .box [vB, vI, vI]), (28672, 0, .box [vO, vI, .lref 28675 0]), (28675, 0, .own y0), (40960, 0, .box [vO, vI, .lref 40963 0]), (40963, 0, .own y0), (45056, 0, .own tI), (49152, 0, .own tI), (61440, 0, .box [vI, vO])], [tI, tI, tI, tI, tB, tI, tI, tO, tI, .slice y0, tO, tI, .slice y0, tL, tL, tI, tO]⟩, [⟨.exit 2, [], [(0, .ptr 0 1 0), (7, .ptr 28672 0 0), (10, .ptr 40960 0 0), (12, .lref 49152 0), (66, .lref 45056 0), (67, vI), (68, vI)], [(0, 1, .box [vB, vI, vI]), (28672, 0, .box [vO, vI, .lref 28675 0]), (28675, 0, .own y0), (40960, 0, .box [vO, vI, .lref 40963 0]), (40963, 0, .own y0), (45056, 0, .own tI), (49152, 0, .own tI)], [tI, tI, tB, tI, tI, tO, tI, .slice y0, tO, tI, .slice y0, tL, tL]⟩, ⟨.ret, [], [(6, .lref 24576 0), (7, .ptr 28672 0 0), (8, vI)], [(0, 1, .box [vB, vI, vI]), (24576, 0, .own tI), (28672, 0, .box [vO, vI, .lref 28675 0]), (28675, 0, .own y0)], [tI, tB, tI, tI, tL, tO, tI, .slice y0]⟩], l⟩
abbrev L_section_Take_14 := Int × Int × (List Int) × Int × Int × Bool × Int × (List e0) × Bool × Int × (List e0) × (List Int) × (List Int) → Option (((List Int) × Int × Int × Bool × Int × (List e0) × Bool × Int × (List e0) × (List Int)) ⊕ (Int × (List Int) × Int × Int × (List Int) × Bool × Int × (List e0)))
def B_section_Take_14 (g_section_part : G_section_part) (l_19 : L_section_Take_19) (again : L_section_Take_14) : L_section_Take_14
  | (a46, a47, a48, a49, a50, a51, a52, a53, a54, a55, a56, a57, a58) =>
    Option.bind (α := (Int × Int × (List Int) × Int × Int × Bool × Int × (List e0) × Bool × Int × (List e0) × (List Int) × (List Int)) ⊕ ((List Int) × Int × Int × Bool × Int × (List e0) × Bool × Int × (List e0) × (List Int))) (
      if (decide (a47 < a46)) = true then
        some ((.inl (a46, a47, a48, a49, a50, a51, a52, a53, a54, a55, a56, a57, a58)))
      else
        some ((.inr (a48, a49, a50, a51, a52, a53, a54, a55, a56, a58)))) fun o => match o with
      | (.inl (x59, x60, x61, x62, x63, x64, x65, x66, x67, x68, x69, x70, x71)) =>
        (inb x60 (List.length x70)).bind fun x72 =>
        (idx x70 x60).bind fun x73 =>
        (g_section_part ((x61, x62, x63, x67))).bind fun (x74, x75, x76, x77) =>
        (room (List.length x69 + List.length ((List.set (List.replicate 1 ((0 : Int), (false, ()))) 0 ((x74.1, (x74.2.1, ()))))))).bind fun x78 =>
        Option.bind (α := (Int × Int × (List Int) × Int × Int × Bool × Int × (List e0) × Bool × Int × (List e0) × (List Int) × (List Int)) ⊕ (Int × (List Int) × Int × Int × (List Int) × Bool × Int × (List e0))) (
          l_19 ((x59, x60, x73, (0 : Int), x75, x76, x77, x64, x65, x66, x67, x68, (x69 ++ (List.set (List.replicate 1 ((0 : Int), (false, ()))) 0 ((x74.1, (x74.2.1, ()))))), x70, x71, x74.1, x74.2.1))) fun o => match o with
          | (.inl (x158, x159, x160, x161, x162, x163, x164, x165, x166, x167, x168, x169, x170)) =>
            again ((x158, (addI .i64 x159 ((1 : Int))), x160, x161, x162, x163, x164, x165, x166, x167, x168, x169, x170))
          | (.inr (x171, x172, x173, x174, x175, x176, x177, x178)) =>
            some ((.inr (x171, x172, x173, x174, x175, x176, x177, x178)))
      | (.inr (x179, x180, x181, x182, x183, x184, x185, x186, x187, x188)) =>
        some ((.inl (x179, x180, x181, x182, x183, x184, x185, x186, x187, x188)))
noncomputable def F_section_Take_14 : L_section_Take_14 := lfp (B_section_Take_14 f_section_part F_section_Take_19)
abbrev S_section_Take_14 (l : L_section_Take_14) : LoopS := ⟨⟨.normal, [], [(0, .ptr 0 1 0), (7, .ptr 28672 0 0), (10, .ptr 40960 0 0), (12, .lref 49152 0), (66, .lref 45056 0), (67, vI), (68, vI)], [(0, 1, .box [vB, vI, vI]), (28672, 0, .box [vO, vI, .lref 28675 0]), (28675, 0, .own y0), (40960, 0, .box [vO, vI, .lref 40963 0]), (40963, 0, .own y0), (45056, 0, .own tI), (49152, 0, .own tI)], [tI, tI, tB, tI, tI, tO, tI, .slice y0, tO, tI, .slice y0, tL, tL]⟩, [⟨.exit 0, [], [(7, .ptr 28672 0 0), (10, .ptr 40960 0 0), (12, .lref 49152 0)], [(0, 1, .box [vB, vI, vI]), (28672, 0, .box [vO, vI, .lref 28675 0]), (28675, 0, .own y0), (40960, 0, .box [vO, vI, .lref 40963 0]), (40963, 0, .own y0), (49152, 0, .own tI)], [tB, tI, tI, tO, tI, .slice y0, tO, tI, .slice y0, tL]⟩, ⟨.ret, [], [(6, .lref 24576 0), (7, .ptr 28672 0 0), (8, vI)], [(0, 1, .box [vB, vI, vI]), (24576, 0, .own tI), (28672, 0, .box [vO, vI, .lref 28675 0]), (28675, 0, .own y0)], [tI, tB, tI, tI, tL, tO, tI, .slice y0]⟩], l⟩
def F_section_Take (g_bits_Reader_Fail : G_bits_Reader_Fail) (g_bits_Reader_Take : G_bits_Reader_Take) (g_parts_Cuts : G_parts_Cuts) (l_14 : L_section_Take_14) : G_section_Take
  | (p1, p2, p3, p4, p5) =>
    Option.bind (α := (Int × Int × Bool × (List Int) × Int × Int × Bool × Int × (List e0))) (
      if (decide (p5 < ((0 : Int)))) = true then
        some ((p4, p5, true, p1, p2, p3, false, (0 : Int), ([] : List e0)))
      else
        if (decide (p5 > ((32 : Int)))) = true then
          some ((p4, p5, true, p1, p2, p3, false, (0 : Int), ([] : List e0)))
        else
          if (decide (p4 ≤ p5)) = true then
            some ((p4, p5, true, p1, p2, p3, false, (0 : Int), ([] : List e0)))
          else
            some ((p4, p5, (decide (p4 > ((65535 : Int)))), p1, p2, p3, false, (0 : Int), ([] : List e0)))) fun (x6, x7, x8, x9, x10, x11, x12, x13, x14) =>
    if x8 = true then
      some ((([] : List Int), (false, ((0 : Int), (([] : List e0), ()))), (1 : Int), x9, x10, x11))
    else
      (g_bits_Reader_Take ((x9, x10, x11, (2 : Int)))).bind fun (x15, x16, x17, x18) =>
      Option.bind (α := (Int × Int × Int × Bool × (List Int) × Int × Int × Bool × Int × (List e0))) (
        (g_bits_Reader_Fail ((x16, x17, x18))).bind fun (x19, x20, x21, x22) =>
        if (x19 == ((0 : Int))) = true then
          some ((x6, x7, x15, (decide (x15 > ((1 : Int)))), x20, x21, x22, x12, x13, x14))
        else
          some ((x6, x7, x15, false, x20, x21, x22, x12, x13, x14))) fun (x23, x24, x25, x26, x27, x28, x29, x30, x31, x32) =>
      if x26 = true then
        some ((([] : List Int), (false, ((0 : Int), (([] : List e0), ()))), (8 : Int), x27, x28, x29))
      else
        (g_bits_Reader_Take ((x27, x28, x29, (4 : Int)))).bind fun (x33, x34, x35, x36) =>
        (g_bits_Reader_Fail ((x34, x35, x36))).bind fun (x37, x38, x39, x40) =>
        if (x37 != ((0 : Int))) = true then
          (g_bits_Reader_Fail ((x38, x39, x40))).bind fun (x41, x42, x43, x44) =>
          some ((([] : List Int), (false, ((0 : Int), (([] : List e0), ()))), x41, x42, x43, x44))
        else
          (g_parts_Cuts (((subI .i64 x23 x24), x24, (IntKind.wrap .i64 x33)))).bind fun x45 =>
          if ((((List.length x45 : Nat) : Int)) == ((0 : Int))) = true then
            some ((([] : List Int), (false, ((0 : Int), (([] : List e0), ()))), (5 : Int), x38, x39, x40))
          else
            Option.bind (α := ((List Int) × Int × Int × Bool × Int × (List e0) × Bool × Int × (List e0) × (List Int)) ⊕ (Int × (List Int) × Int × Int × (List Int) × Bool × Int × (List e0))) (
              l_14 ((((List.length x45 : Nat) : Int), (0 : Int), x38, x39, x40, x30, x31, x32, (x25 == ((1 : Int))), (IntKind.wrap .i64 x33), ([] : List e0), x45, ([] : List Int)))) fun o => match o with
              | (.inl (x189, x190, x191, x192, x193, x194, x195, x196, x197, x198)) =>
                some ((x198, (x195, (x196, (x197, ()))), (0 : Int), x189, x190, x191))
              | (.inr (x199, x200, x201, x202, x203, x204, x205, x206)) =>
                some ((x203, (x204, (x205, (x206, ()))), x199, x200, x201, x202))
noncomputable def f_section_Take : G_section_Take := F_section_Take f_bits_Reader_Fail f_bits_Reader_Take f_parts_Cuts F_section_Take_14
def s_section_Take : Sig := ⟨[.box [vB, vI, vI], vI, vI], [tB, tI, tI, tI, tI], [⟨.tup [.own tI, .val y4, vI], [.box [vB, vI, vI]], [tL, y4, tI, tB, tI, tI]⟩]⟩
def D_section_Take (g_bits_Reader_Fail : G_bits_Reader_Fail) (g_bits_Reader_Take : G_bits_Reader_Take) (g_parts_Cuts : G_parts_Cuts) (g_section_number : G_section_number) (g_section_part : G_section_part) (l_19 : L_section_Take_19) (l_14 : L_section_Take_14) : Desc := ⟨[(26, s_bits_Reader_Fail.sp g_bits_Reader_Fail), (57, s_bits_Reader_Take.sp g_bits_Reader_Take), (61, s_parts_Cuts.sp g_parts_Cuts), (63, s_section_number.sp g_section_number), (62, s_section_part.sp g_section_part)], [0, 1, 2, 3, 4, 5, 6, 8, 9, 10, 11, 12, 13, 14, 15, 16], true, [], [(300001, [⟨.normal, [], [(0, .ptr 0 1 0), (1, vI), (2, vI), (7, .ptr 28672 0 0), (31, vO)], [(0, 1, .box [vB, vI, vI]), (28672, 0, .box [vO, vI, .lref 28675 0]), (28675, 0, .own y0)], [tI, tI, tO, tB, tI, tI, tO, tI, .slice y0]⟩]), (300004, [⟨.normal, [], [(0, .ptr 0 1 0), (1, vI), (2, vI), (7, .ptr 28672 0 0), (9, .val tU64), (41, vO)], [(0, 1, .box [vB, vI, vI]), (28672, 0, .box [vO, vI, .lref 28675 0]), (28675, 0, .own y0)], [tI, tI, tU64, tO, tB, tI, tI, tO, tI, .slice y0]⟩]), (69, [⟨.normal, [], [(0, .ptr 0 1 0), (7, .ptr 28672 0 0), (10, .ptr 40960 0 0), (12, .lref 49152 0), (66, .lref 45056 0), (67, vI), (68, vI)], [(0, 1, .box [vB, vI, vI]), (28672, 0, .box [vO, vI, .lref 28675 0]), (28675, 0, .own y0), (40960, 0, .box [vO, vI, .lref 40963 0]), (40963, 0, .own y0), (45056, 0, .own tI), (49152, 0, .own tI)], [tI, tI, tB, tI, tI, tO, tI, .slice y0, tO, tI, .slice y0, tL, tL]⟩, ⟨.exit 0, [], [(7, .ptr 28672 0 0), (10, .ptr 40960 0 0), (12, .lref 49152 0)], [(0, 1, .box [vB, vI, vI]), (28672, 0, .box [vO, vI, .lref 28675 0]), (28675, 0, .own y0), (40960, 0, .box [vO, vI, .lref 40963 0]), (40963, 0, .own y0), (49152, 0, .own tI)], [tB, tI, tI, tO, tI, .slice y0, tO, tI, .slice y0, tL]⟩]), (84, [⟨.normal, [], [(0, .ptr 0 1 0), (7, .ptr 28672 0 0), (10, .ptr 40960 0 0), (12, .lref 49152 0), (15, .ptr 61440 0 0), (66, .lref 45056 0), (67, vI), (68, vI), (82, vI), (83, vI)], [(0, 1, .box [vB, vI, vI]), (28672, 0, .box [vO, vI, .lref 28675 0]), (28675, 0, .own y0), (40960, 0, .box [vO, vI, .lref 40963 0]), (40963, 0, .own y0), (45056, 0, .own tI), (49152, 0, .own tI), (61440, 0, .box [vI, vO])], [tI, tI, tI, tI, tB, tI, tI, tO, tI, .slice y0, tO, tI, .slice y0, tL, tL, tI, tO]⟩, ⟨.exit 2, [], [(0, .ptr 0 1 0), (7, .ptr 28672 0 0), (10, .ptr 40960 0 0), (12, .lref 49152 0), (66, .lref 45056 0), (67, vI), (68, vI)], [(0, 1, .box [vB, vI, vI]), (28672, 0, .box [vO, vI, .lref 28675 0]), (28675, 0, .own y0), (40960, 0, .box [vO, vI, .lref 40963 0]), (40963, 0, .own y0), (45056, 0, .own tI), (49152, 0, .own tI)], [tI, tI, tB, tI, tI, tO, tI, .slice y0, tO, tI, .slice y0, tL, tL]⟩]), (300023, [⟨.normal, [], [(0, .ptr 0 1 0), (7, .ptr 28672 0 0), (10, .ptr 40960 0 0), (12, .lref 49152 0), (15, .ptr 61440 0 0), (16, vI), (66, .lref 45056 0), (67, vI), (68, vI), (82, vI), (83, vI), (99, vO)], [(0, 1, .box [vB, vI, vI]), (28672, 0, .box [vO, vI, .lref 28675 0]), (28675, 0, .own y0), (40960, 0, .box [vO, vI, .lref 40963 0]), (40963, 0, .own y0), (45056, 0, .own tI), (49152, 0, .own tI), (61440, 0, .box [vI, vO])], [tI, tI, tI, tI, tI, tO, tB, tI, tI, tO, tI, .slice y0, tO, tI, .slice y0, tL, tL, tI, tO]⟩])], [(19, S_section_Take_19 l_19), (14, S_section_Take_14 l_14)], [false, false, false]⟩
theorem q_section_Take (g_bits_Reader_Fail : G_bits_Reader_Fail) (g_bits_Reader_Take : G_bits_Reader_Take) (g_parts_Cuts : G_parts_Cuts) (g_section_number : G_section_number) (g_section_part : G_section_part) (l_19 : L_section_Take_19) (l_14 : L_section_Take_14) : (∀ (k : L_section_Take_19) (a79 : Int) (a80 : Int) (a81 : Int) (a82 : Int) (a83 : List Int) (a84 : Int) (a85 : Int) (a86 : Bool) (a87 : Int) (a88 : List e0) (a89 : Bool) (a90 : Int) (a91 : List e0) (a92 : List Int) (a93 : List Int) (a94 : Int) (a95 : Bool), (D_section_Take g_bits_Reader_Fail g_bits_Reader_Take g_parts_Cuts g_section_number g_section_part l_19 l_14).step Proofs.Try.prog Proofs.Try.f29 19 (S_section_Take_19 l_19) k (a79, a80, a81, a82, a83, a84, a85, a86, a87, a88, a89, a90, a91, a92, a93, a94, a95) = B_section_Take_19 g_bits_Reader_Fail g_section_number k (a79, a80, a81, a82, a83, a84, a85, a86, a87, a88, a89, a90, a91, a92, a93, a94, a95)) ∧ (∀ (k : L_section_Take_14) (a46 : Int) (a47 : Int) (a48 : List Int) (a49 : Int) (a50 : Int) (a51 : Bool) (a52 : Int) (a53 : List e0) (a54 : Bool) (a55 : Int) (a56 : List e0) (a57 : List Int) (a58 : List Int), (D_section_Take g_bits_Reader_Fail g_bits_Reader_Take g_parts_Cuts g_section_number g_section_part l_19 l_14).step Proofs.Try.prog Proofs.Try.f29 14 (S_section_Take_14 l_14) k (a46, a47, a48, a49, a50, a51, a52, a53, a54, a55, a56, a57, a58) = B_section_Take_14 g_section_part l_19 k (a46, a47, a48, a49, a50, a51, a52, a53, a54, a55, a56, a57, a58)) ∧ (∀ (p1 : List Int) (p2 : Int) (p3 : Int) (p4 : Int) (p5 : Int), (D_section_Take g_bits_Reader_Fail g_bits_Reader_Take g_parts_Cuts g_section_number g_section_part l_19 l_14).body Proofs.Try.prog Proofs.Try.f29 s_section_Take (p1, p2, p3, p4, p5) = F_section_Take g_bits_Reader_Fail g_bits_Reader_Take g_parts_Cuts l_14 (p1, p2, p3, p4, p5)) := ⟨fun k a79 a80 a81 a82 a83 a84 a85 a86 a87 a88 a89 a90 a91 a92 a93 a94 a95 => by kernel_rfl, fun k a46 a47 a48 a49 a50 a51 a52 a53 a54 a55 a56 a57 a58 => by kernel_rfl, fun p1 p2 p3 p4 p5 => by kernel_rfl⟩
theorem k_section_Take : Known Proofs.Try.prog 29 (s_section_Take.sp f_section_Take) :=
  known_of (D := D_section_Take f_bits_Reader_Fail f_bits_Reader_Take f_parts_Cuts f_section_number f_section_part F_section_Take_19 F_section_Take_14) mixed Proofs.Try.func29 (by kernel_rfl) (by kernel_rfl) ⟨k_bits_Reader_Fail, k_bits_Reader_Take, k_parts_Cuts, k_section_number, k_section_part, trivial⟩ ⟨fact_of fun k x => (q_section_Take f_bits_Reader_Fail f_bits_Reader_Take f_parts_Cuts f_section_number f_section_part F_section_Take_19 F_section_Take_14).1 k x.1 x.2.1 x.2.2.1 x.2.2.2.1 x.2.2.2.2.1 x.2.2.2.2.2.1 x.2.2.2.2.2.2.1 x.2.2.2.2.2.2.2.1 x.2.2.2.2.2.2.2.2.1 x.2.2.2.2.2.2.2.2.2.1 x.2.2.2.2.2.2.2.2.2.2.1 x.2.2.2.2.2.2.2.2.2.2.2.1 x.2.2.2.2.2.2.2.2.2.2.2.2.1 x.2.2.2.2.2.2.2.2.2.2.2.2.2.1 x.2.2.2.2.2.2.2.2.2.2.2.2.2.2.1 x.2.2.2.2.2.2.2.2.2.2.2.2.2.2.2.1 x.2.2.2.2.2.2.2.2.2.2.2.2.2.2.2.2, fact_of fun k x => (q_section_Take f_bits_Reader_Fail f_bits_Reader_Take f_parts_Cuts f_section_number f_section_part F_section_Take_19 F_section_Take_14).2.1 k x.1 x.2.1 x.2.2.1 x.2.2.2.1 x.2.2.2.2.1 x.2.2.2.2.2.1 x.2.2.2.2.2.2.1 x.2.2.2.2.2.2.2.1 x.2.2.2.2.2.2.2.2.1 x.2.2.2.2.2.2.2.2.2.1 x.2.2.2.2.2.2.2.2.2.2.1 x.2.2.2.2.2.2.2.2.2.2.2.1 x.2.2.2.2.2.2.2.2.2.2.2.2, trivial⟩ fun x => (q_section_Take f_bits_Reader_Fail f_bits_Reader_Take f_parts_Cuts f_section_number f_section_part F_section_Take_19 F_section_Take_14).2.2 x.1 x.2.1 x.2.2.1 x.2.2.2.1 x.2.2.2.2

/-! serinette/fixed.Factors -/
abbrev G_fixed_Factors := Int → Option ((List Int))
def F_fixed_Factors : G_fixed_Factors
  | p1 =>
    Option.bind (α := (Int × Bool × (List (List Int)))) (
      if (decide (p1 < ((0 : Int)))) = true then
        some ((p1, true, (List.set (List.set (List.set (List.set (List.set (List.replicate 5 ([] : List Int)) 0 ((List.replicate 0 (0 : Int)))) 1 ((List.set (List.replicate 1 (0 : Int)) 0 ((1 : Int))))) 2 ((List.set (List.set (List.replicate 2 (0 : Int)) 0 ((2 : Int))) 1 ((-1 : Int))))) 3 ((List.set (List.set (List.set (List.replicate 3 (0 : Int)) 0 ((3 : Int))) 1 ((-3 : Int))) 2 ((1 : Int))))) 4 ((List.set (List.set (List.set (List.set (List.replicate 4 (0 : Int)) 0 ((4 : Int))) 1 ((-6 : Int))) 2 ((4 : Int))) 3 ((-1 : Int)))))))
      else
        some ((p1, (decide (p1 ≥ (((List.length ((List.set (List.set (List.set (List.set (List.set (List.replicate 5 ([] : List Int)) 0 ((List.replicate 0 (0 : Int)))) 1 ((List.set (List.replicate 1 (0 : Int)) 0 ((1 : Int))))) 2 ((List.set (List.set (List.replicate 2 (0 : Int)) 0 ((2 : Int))) 1 ((-1 : Int))))) 3 ((List.set (List.set (List.set (List.replicate 3 (0 : Int)) 0 ((3 : Int))) 1 ((-3 : Int))) 2 ((1 : Int))))) 4 ((List.set (List.set (List.set (List.set (List.replicate 4 (0 : Int)) 0 ((4 : Int))) 1 ((-6 : Int))) 2 ((4 : Int))) 3 ((-1 : Int)))))) : Nat) : Int)))), (List.set (List.set (List.set (List.set (List.set (List.replicate 5 ([] : List Int)) 0 ((List.replicate 0 (0 : Int)))) 1 ((List.set (List.replicate 1 (0 : Int)) 0 ((1 : Int))))) 2 ((List.set (List.set (List.replicate 2 (0 : Int)) 0 ((2 : Int))) 1 ((-1 : Int))))) 3 ((List.set (List.set (List.set (List.replicate 3 (0 : Int)) 0 ((3 : Int))) 1 ((-3 : Int))) 2 ((1 : Int))))) 4 ((List.set (List.set (List.set (List.set (List.replicate 4 (0 : Int)) 0 ((4 : Int))) 1 ((-6 : Int))) 2 ((4 : Int))) 3 ((-1 : Int)))))))) fun (x2, x3, x4) =>
    if x3 = true then
      some (([] : List Int))
    else
      (inb x2 (List.length x4)).bind fun x5 =>
      (idx x4 x2).bind fun x6 =>
      some x6
noncomputable def f_fixed_Factors : G_fixed_Factors := F_fixed_Factors
def s_fixed_Factors : Sig := ⟨[vI], [tI], [⟨vL, [], [tL]⟩]⟩
def D_fixed_Factors : Desc := ⟨[], [0, 1, 2, 3], false, [], [(300002, [⟨.normal, [], [(0, vI), (3, .lref 12288 0), (17, vO)], [(12288, 0, .own tL)], [tI, tO, .slice tL]⟩])], [], [true]⟩
theorem q_fixed_Factors : ∀ (p1 : Int), D_fixed_Factors.body Proofs.Try.prog Proofs.Try.f90 s_fixed_Factors p1 = F_fixed_Factors p1 := fun p1 => by kernel_rfl
theorem k_fixed_Factors : Known Proofs.Try.prog 90 (s_fixed_Factors.sp f_fixed_Factors) :=
  known_of (D := D_fixed_Factors) mixed Proofs.Try.func90 (by kernel_rfl) (by kernel_rfl) trivial trivial fun x => q_fixed_Factors x

/-! serinette/fixed.Restore -/
abbrev G_fixed_Restore := (List Int) × (List Int) → Option (((List Int) × Int))
abbrev L_fixed_Restore_10 := (List Int) × Int × Int × (List Int) × Int × Int × (List Int) × Int × Int × (List Int) → Option (((List Int) × Int × (List Int) × Int × Int × (List Int)))
def B_fixed_Restore_10 (again : L_fixed_Restore_10) : L_fixed_Restore_10
  | (a16, a17, a18, a19, a20, a21, a22, a23, a24, a25) =>
    Option.bind (α := ((List Int) × Int × Int × (List Int) × Int × Int × (List Int) × Int × Int × (List Int)) ⊕ ((List Int) × Int × (List Int) × Int × Int × (List Int))) (
      if (decide (a24 < a23)) = true then
        some ((.inl (a16, a17, a18, a19, a20, a21, a22, a23, a24, a25)))
      else
        some ((.inr (a16, a17, a19, a20, a21, a25)))) fun o => match o with
      | (.inl (x26, x27, x28, x29, x30, x31, x32, x33, x34, x35)) =>
        (idx x32 x34).bind fun x36 =>
        (inb ((subI .i64 x28 x34)) (List.length x35)).bind fun x37 =>
        (idx x35 ((subI .i64 x28 x34))).bind fun x38 =>
        again ((x26, (addI .i64 x27 ((mulI .i64 x36 x38))), x28, x29, x30, x31, x32, x33, (addI .i64 x34 ((1 : Int))), x35))
      | (.inr (x39, x40, x41, x42, x43, x44)) =>
        some ((x39, x40, x41, x42, x43, x44))
noncomputable def F_fixed_Restore_10 : L_fixed_Restore_10 := lfp B_fixed_Restore_10
abbrev S_fixed_Restore_10 (l : L_fixed_Restore_10) : LoopS := ⟨⟨.normal, [], [(6, vL), (7, .lref 28672 0), (9, vI), (10, vI), (21, vL), (22, vI), (23, vI), (30, vL), (31, vI), (32, vI)], [(28672, 0, .own tI)], [tL, tI, tI, tL, tI, tI, tL, tI, tI, tL]⟩, [⟨.exit 2, [], [(6, vL), (7, .lref 28672 0), (9, vI), (21, vL), (22, vI), (23, vI)], [(28672, 0, .own tI)], [tL, tI, tL, tI, tI, tL]⟩], l⟩
abbrev L_fixed_Restore_6 := (List Int) × (List Int) × Int × Int × (List Int) → Option ((List Int))
def B_fixed_Restore_6 (l_10 : L_fixed_Restore_10) (again : L_fixed_Restore_6) : L_fixed_Restore_6
  | (a5, a6, a7, a8, a9) =>
    Option.bind (α := ((List Int) × (List Int) × Int × Int × (List Int)) ⊕ (List Int)) (
      if (decide (a8 < a7)) = true then
        some ((.inl (a5, a6, a7, a8, a9)))
      else
        some ((.inr a9))) fun o => match o with
      | (.inl (x10, x11, x12, x13, x14)) =>
        (idx x11 x13).bind fun x15 =>
        Option.bind (α := ((List Int) × Int × (List Int) × Int × Int × (List Int))) (
          l_10 ((x10, x15, (subI .i64 (((List.length x14 : Nat) : Int)) ((1 : Int))), x11, x12, x13, x10, ((List.length x10 : Nat) : Int), (0 : Int), x14))) fun (x45, x46, x47, x48, x49, x50) =>
        (room (List.length x50 + List.length ((List.set (List.replicate 1 (0 : Int)) 0 x46)))).bind fun x51 =>
        again ((x45, x47, x48, (addI .i64 x49 ((1 : Int))), (x50 ++ (List.set (List.replicate 1 (0 : Int)) 0 x46))))
      | (.inr x52) =>
        some x52
noncomputable def F_fixed_Restore_6 : L_fixed_Restore_6 := lfp (B_fixed_Restore_6 F_fixed_Restore_10)
abbrev S_fixed_Restore_6 (l : L_fixed_Restore_6) : LoopS := ⟨⟨.normal, [], [(6, vL), (7, .lref 28672 0), (21, vL), (22, vI), (23, vI)], [(28672, 0, .own tI)], [tL, tL, tI, tI, tL]⟩, [⟨.exit 0, [], [(7, .lref 28672 0)], [(28672, 0, .own tI)], [tL]⟩], l⟩
def F_fixed_Restore (g_fixed_Factors : G_fixed_Factors) (g_slices_Clone_sint_int : G_slices_Clone_sint_int) (l_6 : L_fixed_Restore_6) : G_fixed_Restore
  | (p1, p2) =>
    if (decide ((((List.length p1 : Nat) : Int)) > ((4 : Int)))) = true then
      some ((([] : List Int), (1 : Int)))
    else
      (g_fixed_Factors (((List.length p1 : Nat) : Int))).bind fun x3 =>
      (g_slices_Clone_sint_int p1).bind fun x4 =>
      Option.bind (α := (List Int)) (
        l_6 ((x3, p2, ((List.length p2 : Nat) : Int), (0 : Int), x4))) fun x53 =>
      some ((x53, (0 : Int)))
noncomputable def f_fixed_Restore : G_fixed_Restore := F_fixed_Restore f_fixed_Factors f_slices_Clone_sint_int F_fixed_Restore_6
def s_fixed_Restore : Sig := ⟨[vL, vL], [tL, tL], [⟨.tup [.own tI, vI], [], [tL, tI]⟩]⟩
def D_fixed_Restore (g_fixed_Factors : G_fixed_Factors) (g_slices_Clone_sint_int : G_slices_Clone_sint_int) (l_10 : L_fixed_Restore_10) (l_6 : L_fixed_Restore_6) : Desc := ⟨[(90, s_fixed_Factors.sp g_fixed_Factors), (54, s_slices_Clone_sint_int.sp g_slices_Clone_sint_int)], [0, 1, 2, 3, 4, 5, 6, 7, 8, 9, 10, 11, 12], false, [], [(24, [⟨.normal, [], [(6, vL), (7, .lref 28672 0), (21, vL), (22, vI), (23, vI)], [(28672, 0, .own tI)], [tL, tL, tI, tI, tL]⟩, ⟨.exit 0, [], [(7, .lref 28672 0)], [(28672, 0, .own tI)], [tL]⟩]), (33, [⟨.normal, [], [(6, vL), (7, .lref 28672 0), (9, vI), (10, vI), (21, vL), (22, vI), (23, vI), (30, vL), (31, vI), (32, vI)], [(28672, 0, .own tI)], [tL, tI, tI, tL, tI, tI, tL, tI, tI, tL]⟩, ⟨.exit 2, [], [(6, vL), (7, .lref 28672 0), (9, vI), (21, vL), (22, vI), (23, vI)], [(28672, 0, .own tI)], [tL, tI, tL, tI, tI, tL]⟩])], [(10, S_fixed_Restore_10 l_10), (6, S_fixed_Restore_6 l_6)], [false, false]⟩
theorem q_fixed_Restore (g_fixed_Factors : G_fixed_Factors) (g_slices_Clone_sint_int : G_slices_Clone_sint_int) (l_10 : L_fixed_Restore_10) (l_6 : L_fixed_Restore_6) : (∀ (k : L_fixed_Restore_10) (a16 : List Int) (a17 : Int) (a18 : Int) (a19 : List Int) (a20 : Int) (a21 : Int) (a22 : List Int) (a23 : Int) (a24 : Int) (a25 : List Int), (D_fixed_Restore g_fixed_Factors g_slices_Clone_sint_int l_10 l_6).step Proofs.Try.prog Proofs.Try.f64 10 (S_fixed_Restore_10 l_10) k (a16, a17, a18, a19, a20, a21, a22, a23, a24, a25) = B_fixed_Restore_10 k (a16, a17, a18, a19, a20, a21, a22, a23, a24, a25)) ∧ (∀ (k : L_fixed_Restore_6) (a5 : List Int) (a6 : List Int) (a7 : Int) (a8 : Int) (a9 : List Int), (D_fixed_Restore g_fixed_Factors g_slices_Clone_sint_int l_10 l_6).step Proofs.Try.prog Proofs.Try.f64 6 (S_fixed_Restore_6 l_6) k (a5, a6, a7, a8, a9) = B_fixed_Restore_6 l_10 k (a5, a6, a7, a8, a9)) ∧ (∀ (p1 : List Int) (p2 : List Int), (D_fixed_Restore g_fixed_Factors g_slices_Clone_sint_int l_10 l_6).body Proofs.Try.prog Proofs.Try.f64 s_fixed_Restore (p1, p2) = F_fixed_Restore g_fixed_Factors g_slices_Clone_sint_int l_6 (p1, p2)) := ⟨fun k a16 a17 a18 a19 a20 a21 a22 a23 a24 a25 => by kernel_rfl, fun k a5 a6 a7 a8 a9 => by kernel_rfl, fun p1 p2 => by kernel_rfl⟩
theorem k_fixed_Restore : Known Proofs.Try.prog 64 (s_fixed_Restore.sp f_fixed_Restore) :=
  known_of (D := D_fixed_Restore f_fixed_Factors f_slices_Clone_sint_int F_fixed_Restore_10 F_fixed_Restore_6) mixed Proofs.Try.func64 (by kernel_rfl) (by kernel_rfl) ⟨k_fixed_Factors, k_slices_Clone_sint_int, trivial⟩ ⟨fact_of fun k x => (q_fixed_Restore f_fixed_Factors f_slices_Clone_sint_int F_fixed_Restore_10 F_fixed_Restore_6).1 k x.1 x.2.1 x.2.2.1 x.2.2.2.1 x.2.2.2.2.1 x.2.2.2.2.2.1 x.2.2.2.2.2.2.1 x.2.2.2.2.2.2.2.1 x.2.2.2.2.2.2.2.2.1 x.2.2.2.2.2.2.2.2.2, fact_of fun k x => (q_fixed_Restore f_fixed_Factors f_slices_Clone_sint_int F_fixed_Restore_10 F_fixed_Restore_6).2.1 k x.1 x.2.1 x.2.2.1 x.2.2.2.1 x.2.2.2.2, trivial⟩ fun x => (q_fixed_Restore f_fixed_Factors f_slices_Clone_sint_int F_fixed_Restore_10 F_fixed_Restore_6).2.2 x.1 x.2

/-! serinette/lpc.Restore -/
abbrev G_lpc_Restore := (List Int) × (List Int) × e2 → Option (((List Int) × Int))
abbrev L_lpc_Restore_8 := (e2 × Unit) × (List Int) × Int × Int × (List Int) → Option ((List Int))
def B_lpc_Restore_8 (g_lpc_teller_tell : G_lpc_teller_tell) (again : L_lpc_Restore_8) : L_lpc_Restore_8
  | (a6, a7, a8, a9, a10) =>
    Option.bind (α := ((e2 × Unit) × (List Int) × Int × Int × (List Int)) ⊕ (List Int)) (
      if (decide (a9 < a8)) = true then
        some ((.inl (a6, a7, a8, a9, a10)))
      else
        some ((.inr a10))) fun o => match o with
      | (.inl (x11, x12, x13, x14, x15)) =>
        (idx x12 x14).bind fun x16 =>
        (g_lpc_teller_tell ((x11.1, x15))).bind fun x17 =>
        (room (List.length x15 + List.length ((List.set (List.replicate 1 (0 : Int)) 0 ((addI .i64 x16 x17)))))).bind fun x18 =>
        again ((x11, x12, x13, (addI .i64 x14 ((1 : Int))), (x15 ++ (List.set (List.replicate 1 (0 : Int)) 0 ((addI .i64 x16 x17))))))
      | (.inr x19) =>
        some x19
noncomputable def F_lpc_Restore_8 : L_lpc_Restore_8 := lfp (B_lpc_Restore_8 f_lpc_teller_tell)
abbrev S_lpc_Restore_8 (l : L_lpc_Restore_8) : LoopS := ⟨⟨.normal, [], [(9, .lref 36864 0), (10, .val (.fn 92 y2 .unit)), (28, vL), (29, vI), (30, vI)], [(36864, 0, .own tI)], [.fn 92 y2 .unit, tL, tI, tI, tL]⟩, [⟨.exit 0, [], [(9, .lref 36864 0)], [(36864, 0, .own tI)], [tL]⟩], l⟩
def F_lpc_Restore (g_lpc_Check : G_lpc_Check) (g_slices_Clone_sint_int : G_slices_Clone_sint_int) (l_8 : L_lpc_Restore_8) : G_lpc_Restore
  | (p1, p2, p3) =>
    (g_lpc_Check ((p3.1, (p3.2.1, (p3.2.2.1, ()))))).bind fun x4 =>
    if (x4 != ((0 : Int))) = true then
      some ((([] : List Int), x4))
    else
      if ((((List.length p1 : Nat) : Int)) != (((List.length p3.2.2.1 : Nat) : Int))) = true then
        some ((([] : List Int), (1 : Int)))
      else
        (g_slices_Clone_sint_int p1).bind fun x5 =>
        Option.bind (α := (List Int)) (
          l_8 ((((p3.1, (p3.2.1, (p3.2.2.1, ()))), ()), p2, ((List.length p2 : Nat) : Int), (0 : Int), x5))) fun x20 =>
        some ((x20, (0 : Int)))
noncomputable def f_lpc_Restore : G_lpc_Restore := F_lpc_Restore f_lpc_Check f_slices_Clone_sint_int F_lpc_Restore_8
def s_lpc_Restore : Sig := ⟨[vL, vL, .val y2], [tL, tL, y2], [⟨.tup [.own tI, vI], [], [tL, tI]⟩]⟩
def D_lpc_Restore (g_lpc_Check : G_lpc_Check) (g_lpc_teller_tell : G_lpc_teller_tell) (g_slices_Clone_sint_int : G_slices_Clone_sint_int) (l_8 : L_lpc_Restore_8) : Desc := ⟨[(91, s_lpc_Check.sp g_lpc_Check), (92, s_lpc_teller_tell.sp g_lpc_teller_tell), (54, s_slices_Clone_sint_int.sp g_slices_Clone_sint_int)], [0, 1, 2, 3, 4, 5, 6, 7, 8, 9, 10, 11, 12], false, [], [(31, [⟨.normal, [], [(9, .lref 36864 0), (10, .val (.fn 92 y2 .unit)), (28, vL), (29, vI), (30, vI)], [(36864, 0, .own tI)], [.fn 92 y2 .unit, tL, tI, tI, tL]⟩, ⟨.exit 0, [], [(9, .lref 36864 0)], [(36864, 0, .own tI)], [tL]⟩])], [(8, S_lpc_Restore_8 l_8)], [false, false]⟩
theorem q_lpc_Restore (g_lpc_Check : G_lpc_Check) (g_lpc_teller_tell : G_lpc_teller_tell) (g_slices_Clone_sint_int : G_slices_Clone_sint_int) (l_8 : L_lpc_Restore_8) : (∀ (k : L_lpc_Restore_8) (a6 : e2 × Unit) (a7 : List Int) (a8 : Int) (a9 : Int) (a10 : List Int), (D_lpc_Restore g_lpc_Check g_lpc_teller_tell g_slices_Clone_sint_int l_8).step Proofs.Try.prog Proofs.Try.f65 8 (S_lpc_Restore_8 l_8) k (a6, a7, a8, a9, a10) = B_lpc_Restore_8 g_lpc_teller_tell k (a6, a7, a8, a9, a10)) ∧ (∀ (p1 : List Int) (p2 : List Int) (p3 : e2), (D_lpc_Restore g_lpc_Check g_lpc_teller_tell g_slices_Clone_sint_int l_8).body Proofs.Try.prog Proofs.Try.f65 s_lpc_Restore (p1, p2, p3) = F_lpc_Restore g_lpc_Check g_slices_Clone_sint_int l_8 (p1, p2, p3)) := ⟨fun k a6 a7 a8 a9 a10 => by kernel_rfl, fun p1 p2 p3 => by kernel_rfl⟩
theorem k_lpc_Restore : Known Proofs.Try.prog 65 (s_lpc_Restore.sp f_lpc_Restore) :=
  known_of (D := D_lpc_Restore f_lpc_Check f_lpc_teller_tell f_slices_Clone_sint_int F_lpc_Restore_8) mixed Proofs.Try.func65 (by kernel_rfl) (by kernel_rfl) ⟨k_lpc_Check, k_lpc_teller_tell, k_slices_Clone_sint_int, trivial⟩ ⟨fact_of fun k x => (q_lpc_Restore f_lpc_Check f_lpc_teller_tell f_slices_Clone_sint_int F_lpc_Restore_8).1 k x.1 x.2.1 x.2.2.1 x.2.2.2.1 x.2.2.2.2, trivial⟩ fun x => (q_lpc_Restore f_lpc_Check f_lpc_teller_tell f_slices_Clone_sint_int F_lpc_Restore_8).2 x.1 x.2.1 x.2.2

/-! serinette/subframe.restored -/
abbrev G_subframe_restored := (List Int) × (List Int) × e9 × Int → Option (((List Int) × Int))
abbrev L_subframe_restored_3 := (List Int) × Int × Int × Int × Int × Int × Int × Int × Int × Int × (List Int) × Bool × Int × (List e0) × (List Int) → Option ((List Int) ⊕ (Int × (List Int)))
def B_subframe_restored_3 (g_fixed_Restore : G_fixed_Restore) (g_lpc_Restore : G_lpc_Restore) (g_pcm_In : G_pcm_In) (again : L_subframe_restored_3) : L_subframe_restored_3
  | (a6, a7, a8, a9, a10, a11, a12, a13, a14, a15, a16, a17, a18, a19, a20) =>
    Option.bind (α := ((List Int) × Int × Int × Int × Int × Int × Int × Int × Int × Int × (List Int) × Bool × Int × (List e0) × (List Int)) ⊕ (List Int)) (
      if (decide (a10 < a9)) = true then
        some ((.inl (a6, a7, a8, a9, a10, a11, a12, a13, a14, a15, a16, a17, a18, a19, a20)))
      else
        some ((.inr a20))) fun o => match o with
      | (.inl (x21, x22, x23, x24, x25, x26, x27, x28, x29, x30, x31, x32, x33, x34, x35)) =>
        (rng (List.length x35) ((subI .i64 (((List.length x35 : Nat) : Int)) x23)) (List.length x35 : Nat)).bind fun x36 =>
        Option.bind (α := ((List Int) × Int × Int × Int × Int × Int × Int × Int × Int × Int × (List Int) × Bool × Int × (List e0) × (List Int) × (List Int))) (
          if (x26 == ((2 : Int))) = true then
            (rng (List.length x21) x25 ((addI .i64 x25 ((1 : Int))))).bind fun x37 =>
            (g_fixed_Restore (((view x35 (some ((0 + x36.1), x36.2))), (view x21 (some x37))))).bind fun (x38, x39) =>
            some ((x21, x22, x23, x24, x25, x26, x27, x28, x29, x30, x31, x32, x33, x34, x35, x38))
          else
            (rng (List.length x21) x25 ((addI .i64 x25 ((1 : Int))))).bind fun x40 =>
            (g_lpc_Restore (((view x35 (some ((0 + x36.1), x36.2))), (view x21 (some x40)), (x29, (x30, (x31, ())))))).bind fun (x41, x42) =>
            some ((x21, x22, x23, x24, x25, x26, x27, x28, x29, x30, x31, x32, x33, x34, x35, x41))) fun (x43, x44, x45, x46, x47, x48, x49, x50, x51, x52, x53, x54, x55, x56, x57, x58) =>
        (inb x45 (List.length x58)).bind fun x59 =>
        (idx x58 x45).bind fun x60 =>
        (g_pcm_In ((x60, x44))).bind fun x61 =>
        if (!x61) = true then
          some ((.inr ((6 : Int), ([] : List Int))))
        else
          (inb x45 (List.length x58)).bind fun x62 =>
          (idx x58 x45).bind fun x63 =>
          (room (List.length x57 + List.length ((List.set (List.replicate 1 (0 : Int)) 0 x63)))).bind fun x64 =>
          again ((x43, x44, x45, x46, (addI .i64 x47 ((1 : Int))), x48, x49, x50, x51, x52, x53, x54, x55, x56, (x57 ++ (List.set (List.replicate 1 (0 : Int)) 0 x63))))
      | (.inr x65) =>
        some ((.inl x65))
noncomputable def F_subframe_restored_3 : L_subframe_restored_3 := lfp (B_subframe_restored_3 f_fixed_Restore f_lpc_Restore f_pcm_In)
abbrev S_subframe_restored_3 (l : L_subframe_restored_3) : LoopS := ⟨⟨.normal, [], [(1, vL), (3, vI), (6, .ptr 24576 0 0), (10, .lref 40960 0), (11, vI), (20, vI), (21, vI)], [(24576, 0, .box [vI, vI, vI, vI, vI, vL, vO, vI, .val (.slice y0)]), (40960, 0, .own tI)], [tL, tI, tI, tI, tI, tI, tI, tI, tI, tI, tL, tO, tI, .slice y0, tL]⟩, [⟨.exit 0, [], [(10, .lref 40960 0)], [(40960, 0, .own tI)], [tL]⟩, ⟨.ret, [], [(8, .lref 32768 0), (9, vI)], [(32768, 0, .own tI)], [tI, tL]⟩], l⟩
def F_subframe_restored (g_slices_Clone_sint_int : G_slices_Clone_sint_int) (l_3 : L_subframe_restored_3) : G_subframe_restored
  | (p1, p2, p3, p4) =>
    (g_slices_Clone_sint_int p1).bind fun x5 =>
    Option.bind (α := (List Int) ⊕ (Int × (List Int))) (
      l_3 ((p2, p4, ((List.length p1 : Nat) : Int), ((List.length p2 : Nat) : Int), (0 : Int), p3.1, p3.2.1, p3.2.2.1, p3.2.2.2.1.1, p3.2.2.2.1.2.1, p3.2.2.2.1.2.2.1, p3.2.2.2.2.1.1, p3.2.2.2.2.1.2.1, p3.2.2.2.2.1.2.2.1, x5))) fun o => match o with
      | (.inl x66) =>
        some ((x66, (0 : Int)))
      | (.inr (x67, x68)) =>
        some ((x68, x67))
noncomputable def f_subframe_restored : G_subframe_restored := F_subframe_restored f_slices_Clone_sint_int F_subframe_restored_3
def s_subframe_restored : Sig := ⟨[vL, vL, .val y9, vI], [tL, tL, y9, tI], [⟨.tup [.own tI, vI], [], [tL, tI]⟩]⟩
def D_subframe_restored (g_fixed_Restore : G_fixed_Restore) (g_lpc_Restore : G_lpc_Restore) (g_pcm_In : G_pcm_In) (g_slices_Clone_sint_int : G_slices_Clone_sint_int) (l_3 : L_subframe_restored_3) : Desc := ⟨[(64, s_fixed_Restore.sp g_fixed_Restore), (65, s_lpc_Restore.sp g_lpc_Restore), (66, s_pcm_In.sp g_pcm_In), (54, s_slices_Clone_sint_int.sp g_slices_Clone_sint_int)], [0, 1, 2, 3, 4, 5, 6, 7, 8, 9, 10, 11, 12, 13, 14], false, [], [(22, [⟨.normal, [], [(1, vL), (3, vI), (6, .ptr 24576 0 0), (10, .lref 40960 0), (11, vI), (20, vI), (21, vI)], [(24576, 0, .box [vI, vI, vI, vI, vI, vL, vO, vI, .val (.slice y0)]), (40960, 0, .own tI)], [tL, tI, tI, tI, tI, tI, tI, tI, tI, tI, tL, tO, tI, .slice y0, tL]⟩, ⟨.exit 0, [], [(10, .lref 40960 0)], [(40960, 0, .own tI)], [tL]⟩]), (9008000032, [⟨.normal, [], [(1, vL), (3, vI), (6, .ptr 24576 0 0), (10, .lref 40960 0), (11, vI), (13, .lref 53248 0), (20, vI), (21, vI)], [(24576, 0, .box [vI, vI, vI, vI, vI, vL, vO, vI, .val (.slice y0)]), (40960, 0, .own tI), (53248, 0, .own tI)], [tL, tI, tI, tI, tI, tI, tI, tI, tI, tI, tL, tO, tI, .slice y0, tL, tL]⟩])], [(3, S_subframe_restored_3 l_3)], [false, false]⟩
theorem q_subframe_restored (g_fixed_Restore : G_fixed_Restore) (g_lpc_Restore : G_lpc_Restore) (g_pcm_In : G_pcm_In) (g_slices_Clone_sint_int : G_slices_Clone_sint_int) (l_3 : L_subframe_restored_3) : (∀ (k : L_subframe_restored_3) (a6 : List Int) (a7 : Int) (a8 : Int) (a9 : Int) (a10 : Int) (a11 : Int) (a12 : Int) (a13 : Int) (a14 : Int) (a15 : Int) (a16 : List Int) (a17 : Bool) (a18 : Int) (a19 : List e0) (a20 : List Int), (D_subframe_restored g_fixed_Restore g_lpc_Restore g_pcm_In g_slices_Clone_sint_int l_3).step Proofs.Try.prog Proofs.Try.f30 3 (S_subframe_restored_3 l_3) k (a6, a7, a8, a9, a10, a11, a12, a13, a14, a15, a16, a17, a18, a19, a20) = B_subframe_restored_3 g_fixed_Restore g_lpc_Restore g_pcm_In k (a6, a7, a8, a9, a10, a11, a12, a13, a14, a15, a16, a17, a18, a19, a20)) ∧ (∀ (p1 : List Int) (p2 : List Int) (p3 : e9) (p4 : Int), (D_subframe_restored g_fixed_Restore g_lpc_Restore g_pcm_In g_slices_Clone_sint_int l_3).body Proofs.Try.prog Proofs.Try.f30 s_subframe_restored (p1, p2, p3, p4) = F_subframe_restored g_slices_Clone_sint_int l_3 (p1, p2, p3, p4)) := ⟨fun k a6 a7 a8 a9 a10 a11 a12 a13 a14 a15 a16 a17 a18 a19 a20 => by kernel_rfl, fun p1 p2 p3 p4 => by kernel_rfl⟩
theorem k_subframe_restored : Known Proofs.Try.prog 30 (s_subframe_restored.sp f_subframe_restored) :=
  known_of (D := D_subframe_restored f_fixed_Restore f_lpc_Restore f_pcm_In f_slices_Clone_sint_int F_subframe_restored_3) mixed Proofs.Try.func30 (by kernel_rfl) (by kernel_rfl) ⟨k_fixed_Restore, k_lpc_Restore, k_pcm_In, k_slices_Clone_sint_int, trivial⟩ ⟨fact_of fun k x => (q_subframe_restored f_fixed_Restore f_lpc_Restore f_pcm_In f_slices_Clone_sint_int F_subframe_restored_3).1 k x.1 x.2.1 x.2.2.1 x.2.2.2.1 x.2.2.2.2.1 x.2.2.2.2.2.1 x.2.2.2.2.2.2.1 x.2.2.2.2.2.2.2.1 x.2.2.2.2.2.2.2.2.1 x.2.2.2.2.2.2.2.2.2.1 x.2.2.2.2.2.2.2.2.2.2.1 x.2.2.2.2.2.2.2.2.2.2.2.1 x.2.2.2.2.2.2.2.2.2.2.2.2.1 x.2.2.2.2.2.2.2.2.2.2.2.2.2.1 x.2.2.2.2.2.2.2.2.2.2.2.2.2.2, trivial⟩ fun x => (q_subframe_restored f_fixed_Restore f_lpc_Restore f_pcm_In f_slices_Clone_sint_int F_subframe_restored_3).2 x.1 x.2.1 x.2.2.1 x.2.2.2


end Go.Pv.Try

