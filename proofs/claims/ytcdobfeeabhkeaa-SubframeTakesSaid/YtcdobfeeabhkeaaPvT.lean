/- The code of a function, by layouts: what is kept where the code's ways come together, as typed data. Definitions alone. -/
import Derived.Test.YtcdobfeeabhkeaaPvS
set_option autoImplicit false
set_option linter.unusedVariables false
namespace Go.Pv

/-- a slot's or a home's form: what of it is data is left out -/
inductive Sh where
  | val (t : Ty)
  | nils
  | nilp
  | undef
  | lref (h g : Nat)
  | part (h g : Nat)
  | ptr (h g k : Nat)
  | agg (fs : List Sh)
  | own (t : Ty)
  | box (fs : List Sh)
  | tup (fs : List Sh)
  | eptr (t : Ty)
  | fnp (f h g : Nat)
  | mref (h g : Nat)
  | mp (t : Ty)

abbrev Leaf := (t : Ty) × El t

def ifB (b : Bool) (l : List Leaf) : Option (List Leaf) := match b with
  | true => some l
  | false => none

mutual
def takeSh : Sh → AV → Option (List Leaf)
  | .val t, .val s x => ifB (decide (s = t)) [⟨s, x⟩]
  | .nils, .nils => some []
  | .nilp, .nilp => some []
  | .undef, .undef => some []
  | .lref h g, .lref h' g' none => ifB (Nat.beq h h' && Nat.beq g g') []
  | .part h g, .lref h' g' (some (o, n)) => ifB (Nat.beq h h' && Nat.beq g g') [⟨.int .i64, (o : Int)⟩, ⟨.int .i64, (n : Int)⟩]
  | .ptr h g k, .ptr h' g' k' none => ifB (Nat.beq h h' && Nat.beq g g' && Nat.beq k k') []
  | .agg shs, .agg fs => takeShs shs fs
  | .own t, .own s l => ifB (decide (s = t)) [⟨.slice s, l⟩]
  | .box shs, .box fs => takeShs shs fs
  | .tup shs, .tup fs => takeShs shs fs
  | .eptr t, .eptr s x k => ifB (decide (s = t) && Nat.beq k 0) [⟨s, x⟩]
  | .fnp f h g, .fnp f' h' g' => ifB (Nat.beq f f' && Nat.beq h h' && Nat.beq g g') []
  | .mref h g, .mref h' g' => ifB (Nat.beq h h' && Nat.beq g g') []
  | .mp t, .mp s l => ifB (decide (s = t)) [⟨.map s, l⟩]
  | _, _ => none
def takeShs : List Sh → List AV → Option (List Leaf)
  | [], [] => some []
  | s :: ss, a :: as => (takeSh s a).bind fun x => (takeShs ss as).map fun y => x ++ y
  | _, _ => none
end

/-- a home's content; what is one's own may be frozen -/
def takeH : Sh → AV → Option (List Leaf)
  | .val (.slice t), .own s l => ifB (decide (s = t)) [⟨.slice s, l⟩]
  | s, a => takeSh s a

def takeHs : List Sh → List AV → Option (List Leaf)
  | [], [] => some []
  | s :: ss, a :: as => (takeH s a).bind fun x => (takeHs ss as).map fun y => x ++ y
  | _, _ => none

def ownOf : Leaf → AV
  | ⟨.slice t, l⟩ => .own t l
  | _ => .undef
def mpOf : Leaf → AV
  | ⟨.map t, l⟩ => .mp t l
  | _ => .undef
def natOf : Leaf → Nat
  | ⟨.int _, n⟩ => Int.toNat n
  | _ => 0

mutual
def fillSh : Sh → List Leaf → AV × List Leaf
  | .val _, x :: r => (.val x.1 x.2, r)
  | .nils, r => (.nils, r)
  | .nilp, r => (.nilp, r)
  | .undef, r => (.undef, r)
  | .lref h g, r => (.lref h g none, r)
  | .part h g, x :: y :: r => (.lref h g (some (natOf x, natOf y)), r)
  | .ptr h g k, r => (.ptr h g k none, r)
  | .agg ss, r => (.agg (fillShs ss r).1, (fillShs ss r).2)
  | .own _, x :: r => (ownOf x, r)
  | .box ss, r => (.box (fillShs ss r).1, (fillShs ss r).2)
  | .tup ss, r => (.tup (fillShs ss r).1, (fillShs ss r).2)
  | .eptr _, x :: r => (.eptr x.1 x.2 0, r)
  | .fnp f h g, r => (.fnp f h g, r)
  | .mref h g, r => (.mref h g, r)
  | .mp _, x :: r => (mpOf x, r)
  | _, r => (.undef, r)
def fillShs : List Sh → List Leaf → List AV × List Leaf
  | [], r => ([], r)
  | s :: ss, r => ((fillSh s r).1 :: (fillShs ss (fillSh s r).2).1, (fillShs ss (fillSh s r).2).2)
end

/-- typed data -/
@[reducible] def Tu : List Ty → Type
  | [] => Unit
  | [t] => El t
  | t :: s :: ts => El t × Tu (s :: ts)

def toTu : (ts : List Ty) → List Leaf → Option (Tu ts)
  | [], [] => some ()
  | [t], [x] => castEl t x.2
  | t :: s :: ts, x :: r => (castEl t x.2).bind fun y => (toTu (s :: ts) r).map fun z => (y, z)
  | _, _ => none

def ofTu : (ts : List Ty) → Tu ts → List Leaf
  | [], _ => []
  | [t], x => [⟨t, x⟩]
  | t :: s :: ts, x => ⟨t, x.1⟩ :: ofTu (s :: ts) x.2

/-- a place where ways come together, or part: how it is left, what stands in its slots and homes -/
structure Alt where
  ex : Ex
  conv : List (Nat × Nat)
  slots : List (Nat × Sh)
  homes : List (Nat × Nat × Sh)
  tys : List Ty

/-- a field of a thing, by value -/
def conv1 (h i : Nat) (st : St) : St :=
  match st.cont h with
  | .box fs => match fs[i]? with
    | some (.lref k g s) => match Nat.beq (st.gen k) g with
      | true => match st.cont k with
        | .own t l => (st.seth k (st.gen k) (.val (.slice t) l)).seth h (st.gen h) (.box (fs.set i (.val (.slice t) (view l s))))
        | .val (.slice t) l => st.seth h (st.gen h) (.box (fs.set i (.val (.slice t) (view (α := El t) l s))))
        | _ => st
      | false => st
    | _ => st
  | _ => st

/-- a whole list's slot, as a part of it -/
def convP (t : Nat) (st : St) : St :=
  match st.get t with
  | .lref h g none => match Nat.beq (st.gen h) g with
    | true => match st.cont h with
      | .own _ l => st.set t (.lref h g (some (0, l.length)))
      | .val (.slice u) l => st.set t (.lref h g (some (0, List.length (α := El u) l)))
      | _ => st
    | false => st
  | _ => st

/-- a slot's list, by value -/
def convV (t : Nat) (st : St) : St :=
  match st.get t with
  | .lref h g s => match Nat.beq (st.gen h) g with
    | true => match st.cont h with
      | .own u l => (st.seth h (st.gen h) (.val (.slice u) l)).set t (.val (.slice u) (view l s))
      | .val (.slice u) l => st.set t (.val (.slice u) (view (α := El u) l s))
      | _ => st
    | false => st
  | _ => st

def convs : List (Nat × Nat) → St → St
  | [], st => st
  | p :: l, st => convs l (match Nat.ble 1000000 p.2 with
    | false => conv1 p.1 p.2 st
    | true => match Nat.ble 2000000 p.2 with
      | false => convP (p.2 - 1000000) st
      | true => convV (p.2 - 2000000) st)

def sameEx : Ex → Ex → Bool
  | .normal, .normal => true
  | .ret, .ret => true
  | .exit a, .exit b => Nat.beq a b
  | .goto a, .goto b => Nat.beq a b
  | _, _ => false

def marksOk : List (Nat × Nat × Sh) → List (Nat × Nat × AV) → Bool
  | [], [] => true
  | a :: r, b :: s => Nat.beq a.2.1 b.2.1 && marksOk r s
  | _, _ => false

def leavesOf (A : Alt) (st : St) : Option (List Leaf) :=
  let p := prune (some (A.slots.map (·.1), A.homes.map (·.1))) st
  match marksOk A.homes p.hs with
  | true => (takeShs (A.slots.map (·.2)) (p.vals.map (·.2))).bind fun x => (takeHs (A.homes.map (·.2.2)) (p.hs.map (·.2.2))).map fun y => x ++ y
  | false => none

def decT (A : Alt) (st : St) : Option (Tu A.tys) := (leavesOf A (convs A.conv st)).bind (toTu A.tys)

def zipS : List (Nat × Sh) → List AV → List (Nat × AV)
  | a :: r, v :: vs => (a.1, v) :: zipS r vs
  | _, _ => []
def zipH : List (Nat × Nat × Sh) → List AV → List (Nat × Nat × AV)
  | a :: r, v :: vs => (a.1, a.2.1, v) :: zipH r vs
  | _, _ => []

def encL (A : Alt) (ls : List Leaf) : St :=
  let p := fillShs (A.slots.map (·.2)) ls
  ⟨zipS A.slots p.1, zipH A.homes (fillShs (A.homes.map (·.2.2)) p.2).1⟩

def encT (A : Alt) (x : Tu A.tys) : St := encL A (ofTu A.tys x)

@[reducible] def Out : List Alt → Type
  | [] => Empty
  | [a] => Tu a.tys
  | a :: b :: l => Tu a.tys ⊕ Out (b :: l)

def decOut : (l : List Alt) → Ex → St → Option (Out l)
  | [], _, _ => none
  | [a], e, st => match sameEx a.ex e with
    | true => decT a st
    | false => none
  | a :: b :: l, e, st => match sameEx a.ex e with
    | true => match decT a st with
      | some x => some (.inl x)
      | none => (decOut (b :: l) e st).map .inr
    | false => (decOut (b :: l) e st).map .inr

def outK {R : Type} (K : Ex → St → Option R) : (l : List Alt) → Out l → Option R
  | [], o => nomatch o
  | [a], o => K a.ex (encT a o)
  | a :: b :: l, o => match o with
    | .inl x => K a.ex (encT a x)
    | .inr y => outK K (b :: l) y

structure LoopS where
  inA : Alt
  outA : List Alt
  F : Tu inA.tys → Option (Out outA)

abbrev LTab := Nat → Option LoopS
abbrev JTab := Nat → Option (List Alt)

def seqK {R : Type} (f : St → (Ex → St → Option R) → Option R) (K : Ex → St → Option R) (e : Ex) (st : St) : Option R :=
  match e with
  | .normal => f st K
  | _ => K e st

def blockK {R : Type} (id : Nat) (K : Ex → St → Option R) (e : Ex) (st : St) : Option R :=
  match e with
  | .exit id' => match Nat.beq id' id with
    | true => K .normal st
    | false => K e st
  | _ => K e st

def condKey (c : Operand) (a b : Code) : Nat :=
  (match c with
  | .tmp t => t
  | _ => 0) + 1000000 * key a + 1000000000 * key b

section
variable (E : Env) (LT : LTab) (J : JTab)

def joinK {R : Type} (j : Option (List Alt)) (f : (R : Type) → (Ex → St → Option R) → Option R) (K : Ex → St → Option R) : Option R :=
  match j with
  | none => f R K
  | some l => (f (Out l) (decOut l)).bind (outK K l)

def loopK {R : Type} (S : Option LoopS) (st : St) (K : Ex → St → Option R) : Option R :=
  match S with
  | none => none
  | some S => (decT S.inA st).bind fun x => (S.F x).bind (outK K S.outA)

def scopeK {R : Type} (b : Code) (K : Ex → St → Option R) (e : Ex) (st : St) : Option R :=
  match e with
  | .goto l => match hasL b l with
    | true => loopK (LT (100000 + l)) st K
    | false => K e st
  | _ => K e st

def evalC : Code → (R : Type) → St → (Ex → St → Option R) → Option R
  | .skip, _, st, K => K .normal st
  | .label _, _, st, K => K .normal st
  | .ret, _, st, K => K .ret st
  | .exit id, _, st, K => K (.exit id) st
  | .goto l, _, st, K => K (.goto l) st
  | .seq a b, R, st, K => evalC a R st (seqK (evalC b R) K)
  | .cond c a b, R, st, K => exec (do let v ← opd c; asB v) st fun bb st => joinK (J (condKey c a b)) (fun R K => if bb = true then evalC a R st K else evalC b R st K) K
  | .block id b, R, st, K => joinK (J (200000 + id)) (fun R K => evalC b R st (blockK id K)) K
  | .loop b, _, st, K => loopK (LT (key b)) st K
  | .scope b, R, st, K => evalC b R st (scopeK LT b K)
  | .region id ops draw, _, st, K => joinK (J (300000 + id)) (fun _ K => match draw with
    | false => exec (stepsP E ops (List.range ops.size)) st fun _ st' => K .normal st'
    | true => drawP E ops (List.range ops.size) st [] fun st' => K .normal st') K
  | _, _, _, _ => none

def evalF : Code → Nat → (R : Type) → St → (Ex → St → Option R) → Option R
  | .seq a b, l, R, st, K => match hasL a l with
    | true => evalF a l R st (seqK (evalC E LT J b R) K)
    | false => evalF b l R st K
  | .label _, _, _, st, K => K .normal st
  | _, _, _, _, _ => none

/-- one round of a loop -/
def stepD (b : Code) (S : LoopS) (again : Tu S.inA.tys → Option (Out S.outA)) (x : Tu S.inA.tys) : Option (Out S.outA) :=
  evalC E LT J b (Out S.outA) (encT S.inA x) fun e st => match e with
    | .normal => (decT S.inA st).bind again
    | _ => decOut S.outA e st

/-- one round from a label on -/
def stepL' (b : Code) (l : Nat) (S : LoopS) (again : Tu S.inA.tys → Option (Out S.outA)) (x : Tu S.inA.tys) : Option (Out S.outA) :=
  evalF E LT J b l (Out S.outA) (encT S.inA x) fun e st => match e with
    | .goto l' => match Nat.beq l' l with
      | true => (decT S.inA st).bind again
      | false => match hasL b l' with
        | true => none
        | false => decOut S.outA e st
    | _ => decOut S.outA e st

/-- a step, so many times -/
def it {α β : Type} (f : (α → Option β) → α → Option β) : Nat → α → Option β
  | 0, _ => none
  | m + 1, x => f (it f m) x

def LoopOk (b : Code) : Prop := ∀ S, LT (key b) = some S → ∀ x o, S.F x = some o → ∃ m, it (stepD E LT J b S) m x = some o
def LabelOk (p : Code × Nat) : Prop := ∀ S, LT (100000 + p.2) = some S → ∀ x o, S.F x = some o → ∃ m, it (stepL' E LT J p.1 p.2 S) m x = some o
/-- a table of what is known of other functions -/
def tab : List (Nat × Spec) → FuncId → List AV → Option Spec
  | [], _, _ => none
  | p :: l, f, as => match Nat.beq p.1 f && p.2.ok as with
    | true => some p.2
    | false => tab l f as
end

def labelsIn : Code → List Nat
  | .seq a b => labelsIn a ++ labelsIn b
  | .label l => [l]
  | _ => []

def loopsOf : Code → List Code
  | .seq a b => loopsOf a ++ loopsOf b
  | .cond _ a b => loopsOf a ++ loopsOf b
  | .block _ b => loopsOf b
  | .loop b => b :: loopsOf b
  | .scope b => loopsOf b
  | _ => []

def labelsOf : Code → List (Code × Nat)
  | .seq a b => labelsOf a ++ labelsOf b
  | .cond _ a b => labelsOf a ++ labelsOf b
  | .block _ b => labelsOf b
  | .loop b => labelsOf b
  | .scope b => (labelsIn b).map (fun l => (b, l)) ++ labelsOf b
  | _ => []

/-! ### whole functions -/
structure RAlt where
  val : Sh
  outs : List Sh
  tys : List Ty

@[reducible] def ROut : List RAlt → Type
  | [] => Empty
  | [a] => Tu a.tys
  | a :: b :: l => Tu a.tys ⊕ ROut (b :: l)

def decR1 (a : RAlt) (r : AV × List AV) : Option (Tu a.tys) :=
  (takeSh a.val r.1).bind fun x => (takeShs a.outs r.2).bind fun y => toTu a.tys (x ++ y)

def encR1 (a : RAlt) (x : Tu a.tys) : AV × List AV :=
  let p := fillSh a.val (ofTu a.tys x)
  (p.1, (fillShs a.outs p.2).1)

def decR : (l : List RAlt) → AV × List AV → Option (ROut l)
  | [], _ => none
  | [a], r => decR1 a r
  | a :: b :: l, r => match decR1 a r with
    | some x => some (.inl x)
    | none => (decR (b :: l) r).map .inr

def encR : (l : List RAlt) → ROut l → AV × List AV
  | [], o => nomatch o
  | [a], o => encR1 a o
  | a :: b :: l, o => match o with
    | .inl x => encR1 a x
    | .inr y => encR (b :: l) y

/-- what a function takes, by data, and what it gives -/
structure Fun where
  args : List Sh
  tys : List Ty
  outs : List RAlt
  F : Tu tys → Option (ROut outs)

def Fun.spec (f : Fun) : Spec := ⟨ROut f.outs, fun as => ((takeShs f.args as).bind (toTu f.tys)).bind f.F, encR f.outs, fun as => (takeShs f.args as).isSome⟩

/-- a function's code, on typed data -/
def bodyD (E : Env) (LT : LTab) (J : JTab) (modes : List Bool) (fn : Func) (args : List Sh) (tys : List Ty) (outs : List RAlt) (x : Tu tys) : Option (ROut outs) :=
  let as := (fillShs args (ofTu tys x)).1
  match fn.body with
  | none => none
  | some c => match Nat.ble as.length E.n with
    | false => none
    | true => exec (inArgs 0 as) ⟨[], homes0 0 as⟩ fun _ st => evalC E LT J c (ROut outs) st fun e st' => match e with
      | .normal | .ret => exec (do
          let vs ← outRs E modes (fn.resultTypes.toList.zip fn.results.toList)
          let os ← outBoxes 0 as
          pure (tupOf vs, os)) st' fun r _ => decR outs r
      | _ => none
end Go.Pv
