/- Tables, the parts of a function's code by their keys, loops as least fixed points; a function as it is printed. -/
import Derived.Test.YtcdobfeeabhkeaaPvV
set_option autoImplicit false
set_option linter.unusedVariables false
namespace Go.Pv

abbrev tI : Ty := .int .i64
abbrev tU8 : Ty := .int .u8
abbrev tU16 : Ty := .int .u16
abbrev tU32 : Ty := .int .u32
abbrev tU64 : Ty := .int .u64
abbrev tO : Ty := .bool
abbrev tL : Ty := .slice (.int .i64)
abbrev tB : Ty := .slice (.int .u8)
abbrev vI : Sh := .val (.int .i64)
abbrev vO : Sh := .val .bool
abbrev vL : Sh := .val (.slice (.int .i64))
abbrev vB : Sh := .val (.slice (.int .u8))

def tabJ : List (Nat × List Alt) → JTab
  | [], _ => none
  | p :: l, k => match Nat.beq p.1 k with
    | true => some p.2
    | false => tabJ l k

def tabL : List (Nat × LoopS) → LTab
  | [], _ => none
  | p :: l, k => match Nat.beq p.1 k with
    | true => some p.2
    | false => tabL l k

def bodyCode (fn : Func) : Code := fn.body.getD .skip

def findKey (k : Nat) : List Code → Code
  | [] => .skip
  | c :: l => match Nat.beq (key c) k with
    | true => c
    | false => findKey k l

def findLab (k : Nat) : List (Code × Nat) → Code × Nat
  | [] => (.skip, 0)
  | c :: l => match Nat.beq c.2 k with
    | true => c
    | false => findLab k l

def loopAt (fn : Func) (k : Nat) : Code := findKey k (loopsOf (bodyCode fn))
def labelAt (fn : Func) (l : Nat) : Code × Nat := findLab l (labelsOf (bodyCode fn))

/-- in the end it answers so -/
def Ends {α β : Type} (f : (α → Option β) → α → Option β) (x : α) (o : β) : Prop := ∃ n, ∀ m, n ≤ m → it f m x = some o

theorem Ends.one {α β : Type} {f : (α → Option β) → α → Option β} {x : α} {o o' : β} (h : Ends f x o) (h' : Ends f x o') : o = o' := by
  obtain ⟨n, h⟩ := h
  obtain ⟨n', h'⟩ := h'
  have := (h (max n n') (Nat.le_max_left _ _)).symm.trans (h' (max n n') (Nat.le_max_right _ _))
  exact Option.some.inj this

open Classical in
noncomputable def lfp {α β : Type} (f : (α → Option β) → α → Option β) (x : α) : Option β := if h : ∃ o, Ends f x o then some (Classical.choose h) else none

theorem lfp_of {α β : Type} {f : (α → Option β) → α → Option β} {x : α} {o : β} (h : Ends f x o) : lfp f x = some o := by
  have hx : ∃ o, Ends f x o := ⟨o, h⟩
  unfold lfp
  rw [dif_pos hx]
  exact congrArg some (Ends.one (Classical.choose_spec hx) h)

theorem lfp_some {α β : Type} {f : (α → Option β) → α → Option β} {x : α} {o : β} (h : lfp f x = some o) : ∃ m, it f m x = some o := by
  unfold lfp at h
  split at h
  · rename_i hx
    cases h
    obtain ⟨n, hn⟩ := Classical.choose_spec hx
    exact ⟨n, hn n (Nat.le_refl _)⟩
  · cases h

/-- a loop by what holds at its head, what it answers there, and what grows less -/
theorem lfp_rule {α β : Type} (f : (α → Option β) → α → Option β) (I : α → Prop) (r : α → β) (mu : α → Nat)
    (h : ∀ again x, I x → (∀ y, I y → mu y < mu x → again y = some (r y)) → f again x = some (r x))
    (x : α) (hx : I x) : lfp f x = some (r x) := by
  have key : ∀ n x, I x → mu x < n → ∀ m, n ≤ m → it f m x = some (r x) := by
    intro n
    induction n with
    | zero => intro x _ h; exact absurd h (Nat.not_lt_zero _)
    | succ n ih =>
      intro x hx hm m hm'
      obtain ⟨m, rfl⟩ : ∃ k, m = k + 1 := ⟨m - 1, by omega⟩
      exact h (it f m) x hx fun y h1 h2 => ih y h1 (by omega) m (by omega)
  exact lfp_of ⟨mu x + 1, key (mu x + 1) x hx (Nat.lt_succ_self _)⟩

theorem it_congr {α β : Type} {f g : (α → Option β) → α → Option β} (h : ∀ a x, f a x = g a x) (m : Nat) (x : α) : it f m x = it g m x := by
  have : f = g := funext fun a => funext fun x => h a x
  rw [this]

theorem LoopOk.none {E : Env} {LT : LTab} {J : JTab} {b : Code} (h : LT (key b) = none) : LoopOk E LT J b := fun S hS => by rw [h] at hS; cases hS
theorem LabelOk.none {E : Env} {LT : LTab} {J : JTab} {p : Code × Nat} (h : LT (100000 + p.2) = none) : LabelOk E LT J p := fun S hS => by rw [h] at hS; cases hS

structure Sig where
  args : List Sh
  tys : List Ty
  outs : List RAlt

def Sig.sp (s : Sig) (g : Tu s.tys → Option (ROut s.outs)) : Spec := Fun.spec ⟨s.args, s.tys, s.outs, g⟩

/-- a function as it is printed: what is known of what it calls, its named slots, whether its things keep their lists, what takes a list over, joins, loops, results by value -/
structure Desc where
  calls : List (Nat × Spec)
  named : List Nat
  keep : Bool
  mv : List Nat
  J : List (Nat × List Alt)
  ls : List (Nat × LoopS)
  modes : List Bool

section
variable (D : Desc) (P : Program) (fn : Func)
def Desc.env : Env := ⟨P, tab D.calls, D.named, fn.ntmps, D.keep, D.mv⟩

def Desc.step (k : Nat) (S : LoopS) (again : Tu S.inA.tys → Option (Out S.outA)) (x : Tu S.inA.tys) : Option (Out S.outA) :=
  match Nat.ble 100000 k with
  | false => stepD (D.env P fn) (tabL D.ls) (tabJ D.J) (loopAt fn k) S again x
  | true => stepL' (D.env P fn) (tabL D.ls) (tabJ D.J) (labelAt fn (k - 100000)).1 (labelAt fn (k - 100000)).2 S again x

def Desc.body (s : Sig) (x : Tu s.tys) : Option (ROut s.outs) := bodyD (D.env P fn) (tabL D.ls) (tabJ D.J) D.modes fn s.args s.tys s.outs x

def Desc.fact (p : Nat × LoopS) : Prop := ∀ x o, p.2.F x = some o → ∃ m, it (D.step P fn p.1 p.2) m x = some o
end

theorem fact_of {D : Desc} {P : Program} {fn : Func} {k : Nat} {i : Alt} {os : List Alt} {f : (Tu i.tys → Option (Out os)) → Tu i.tys → Option (Out os)}
    (h : ∀ again x, D.step P fn k ⟨i, os, lfp f⟩ again x = f again x) : D.fact P fn (k, ⟨i, os, lfp f⟩) := fun x o h0 => by
  obtain ⟨m, hm⟩ := lfp_some h0
  exact ⟨m, (it_congr h m x).trans hm⟩

def noDup : List Nat → Bool
  | [] => true
  | x :: l => !(l.contains x) && noDup l

/-- what is asked of a function's record -/
def fnOk (fn : Func) : Bool :=
  noDup ((loopsOf (bodyCode fn)).map key) && (loopsOf (bodyCode fn)).all (fun b => Nat.blt (key b) 100000) && noDup ((labelsOf (bodyCode fn)).map (·.2)) &&
    Nat.beq fn.resultTypes.size fn.results.size && fn.body.isSome

theorem find_key {b : Code} : ∀ {l : List Code}, noDup (l.map key) = true → b ∈ l → findKey (key b) l = b
  | [], _, h => by cases h
  | c :: l, hn, h => by
    simp only [List.map_cons, noDup, Bool.and_eq_true, Bool.not_eq_true'] at hn
    unfold findKey
    rcases List.mem_cons.1 h with rfl | h
    · rw [show Nat.beq (key b) (key b) = true from by simp]
    · have hne : key c ≠ key b := fun e => by
        have : (l.map key).contains (key c) = true := by rw [e, List.contains_iff_mem]; exact List.mem_map_of_mem h
        rw [this] at hn; cases hn.1
      have : Nat.beq (key c) (key b) = false := by
        cases hb : Nat.beq (key c) (key b) with
        | false => rfl
        | true => exact absurd (Nat.eq_of_beq_eq_true hb) hne
      rw [this]
      exact find_key hn.2 h

theorem find_lab {p : Code × Nat} : ∀ {l : List (Code × Nat)}, noDup (l.map (·.2)) = true → p ∈ l → findLab p.2 l = p
  | [], _, h => by cases h
  | c :: l, hn, h => by
    simp only [List.map_cons, noDup, Bool.and_eq_true, Bool.not_eq_true'] at hn
    unfold findLab
    rcases List.mem_cons.1 h with rfl | h
    · rw [show Nat.beq p.2 p.2 = true from by simp]
    · have hne : c.2 ≠ p.2 := fun e => by
        have : (l.map (·.2)).contains c.2 = true := by rw [e, List.contains_iff_mem]; exact List.mem_map_of_mem h
        rw [this] at hn; cases hn.1
      have : Nat.beq c.2 p.2 = false := by
        cases hb : Nat.beq c.2 p.2 with
        | false => rfl
        | true => exact absurd (Nat.eq_of_beq_eq_true hb) hne
      rw [this]
      exact find_lab hn.2 h

theorem tabL_mem : ∀ {l : List (Nat × LoopS)} {k : Nat} {S : LoopS}, tabL l k = some S → (k, S) ∈ l
  | [], _, _, h => by cases h
  | p :: l, k, S, h => by
    unfold tabL at h
    split at h
    · rename_i e
      have e := Nat.eq_of_beq_eq_true e
      cases h
      rw [← e]
      exact .head _
    · exact .tail _ (tabL_mem h)

/-- a function that was printed does what was printed -/
theorem known_of {P : Program} {f : FuncId} {fn : Func} {D : Desc} {s : Sig} {g : Tu s.tys → Option (ROut s.outs)} (hm : P.follows .mixedOrders = true) (hf : P.funcs[f]? = some fn) (hn : (fn.name == "runtime.NumGoroutine") = false) (hok : fnOk fn = true)
    (hc : KnownAll P D.calls) (hl : AllL (D.fact P fn) D.ls) (hb : ∀ x, D.body P fn s x = g x) : Known P f (s.sp g) := by
  unfold fnOk at hok
  simp only [Bool.and_eq_true] at hok
  obtain ⟨⟨⟨⟨h1, h2⟩, h3⟩, h4⟩, h5⟩ := hok
  obtain ⟨c, hcode⟩ := Option.isSome_iff_exists.1 h5
  have hbc : bodyCode fn = c := by unfold bodyCode; rw [hcode]; rfl
  refine ⟨body_sound (E := D.env P fn) (S := ⟨s.args, s.tys, s.outs, g⟩) (Good.tab hc hm) hf hcode rfl (Nat.eq_of_beq_eq_true h4) fun x o h =>
    ⟨tabL D.ls, tabJ D.J, D.modes, fun b hb' S hS x o hx => ?_, fun p hp S hS x o hx => ?_, (hb x).trans h⟩, fn, c, hf, hn, hcode⟩
  · obtain ⟨m, hm⟩ := hl.mem _ (tabL_mem hS) x o hx
    rw [← hbc] at hb'
    have hk : Nat.ble 100000 (key b) = false := by
      have := List.all_eq_true.1 h2 b hb'
      rw [Nat.blt_eq] at this
      cases hq : Nat.ble 100000 (key b) with
      | false => rfl
      | true => have := Nat.le_of_ble_eq_true hq; omega
    refine ⟨m, ?_⟩
    rw [← hm]
    refine (it_congr (fun a x => ?_) m x).symm
    unfold Desc.step
    rw [hk]
    unfold loopAt
    rw [find_key h1 hb']
  · obtain ⟨m, hm⟩ := hl.mem _ (tabL_mem hS) x o hx
    rw [← hbc] at hp
    have hk : Nat.ble 100000 (100000 + p.2) = true := by rw [Nat.ble_eq]; exact Nat.le_add_right _ _
    refine ⟨m, ?_⟩
    rw [← hm]
    refine (it_congr (fun a x => ?_) m x).symm
    unfold Desc.step
    rw [hk]
    unfold labelAt
    rw [Nat.add_sub_cancel_left, find_lab h3 hp]

/-- of a function of which nothing is told -/
theorem known_none {P : Program} {f : FuncId} {fn : Func} {s : Sig} (hf : P.funcs[f]? = some fn) (hn : (fn.name == "runtime.NumGoroutine") = false) (hb : fn.body.isSome = true) : Known P f (s.sp fun _ => none) := by
  obtain ⟨c, hcode⟩ := Option.isSome_iff_exists.1 hb
  refine ⟨fun as x h => ?_, fn, c, hf, hn, hcode⟩
  obtain ⟨y, _, h2⟩ := Option.bind_eq_some_iff.1 (show ((takeShs s.args as).bind (toTu s.tys)).bind (fun _ => none) = some x from h)
  cases h2
end Go.Pv
