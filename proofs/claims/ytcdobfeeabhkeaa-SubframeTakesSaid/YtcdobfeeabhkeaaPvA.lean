/- The values and the steps of a pure reading of the model's code: slices by value, blocks of one's own in homes; definitions alone. -/
import Derived.Orders
import Derived.Laws.AppendOwn
import Derived.KernelRfl
set_option autoImplicit false
set_option linter.unusedVariables false
namespace Go.Pv

/-- the kinds of plain data -/
inductive Ty where
  | int (k : IntKind)
  | bool
  | str
  | slice (t : Ty)
  | unit
  | pair (a b : Ty)
  | arr (n : Nat) (t : Ty)
  | fn (f : Nat) (a b : Ty)
  | map (t : Ty)
  deriving DecidableEq

@[reducible] def El : Ty → Type
  | .int _ => Int
  | .bool => Bool
  | .str => ByteArray
  | .slice t => List (El t)
  | .unit => Unit
  | .pair a b => El a × El b
  | .arr _ t => List (El t)
  | .fn _ a b => El a × El b
  | .map t => List (Int × El t)

def Ty.size : Ty → Nat
  | .unit => 0
  | .pair a b => a.size + b.size
  | .arr n t => n * t.size
  | _ => 1

/-- holds no slice -/
def Ty.flat : Ty → Bool
  | .slice _ => false
  | .fn _ _ _ => false
  | .map _ => false
  | .pair a b => a.flat && b.flat
  | .arr _ t => t.flat
  | _ => true

def Ty.isAgg : Ty → Bool
  | .unit | .pair _ _ | .arr _ _ => true
  | _ => false

/-- no function in it, but behind a slice -/
def Ty.noFn : Ty → Bool
  | .fn _ _ _ => false
  | .pair a b => a.noFn && b.noFn
  | .arr _ t => t.noFn
  | _ => true

def castEl {s : Ty} (t : Ty) (x : El s) : Option (El t) := if h : s = t then some (h ▸ x) else none

inductive AV where
  | undef
  | val (t : Ty) (x : El t)
  | agg (fs : List AV)
  | nils
  | lref (h g : Nat) (s : Option (Nat × Nat))
  | ptr (h g k : Nat) (i : Option (Nat × Int × Nat))
  | eptr (t : Ty) (x : El t) (k : Nat)
  | nilp
  | own (t : Ty) (l : List (El t))
  | box (fs : List AV)
  | tup (vs : List AV)
  | fnp (f h g : Nat)
  | mref (h g : Nat)
  | mp (t : Ty) (l : List (Int × El t))

def look {β : Type} (d : β) (k : Nat) : List (Nat × β) → β
  | [] => d
  | e :: r => match Nat.beq e.1 k with
    | true => e.2
    | false => look d k r

structure St where
  vals : List (Nat × AV)
  hs : List (Nat × Nat × AV)

def St.get (st : St) (t : Nat) : AV := look .undef t st.vals
def St.gen (st : St) (h : Nat) : Nat := (look (0, .undef) h st.hs).1
def St.cont (st : St) (h : Nat) : AV := (look (0, .undef) h st.hs).2
def St.set (st : St) (t : Nat) (v : AV) : St := ⟨(t, v) :: st.vals, st.hs⟩
def St.seth (st : St) (h g : Nat) (c : AV) : St := ⟨st.vals, (h, g, c) :: st.hs⟩

/-- a step's program: it reads and writes slots and homes -/
inductive Pr (α : Type) : Type 1 where
  | ret (a : α)
  | fail
  | rd (t : Nat) (k : AV → Pr α)
  | wr (t : Nat) (v : AV) (k : Pr α)
  | rh (h : Nat) (k : Nat → AV → Pr α)
  | wh (h g : Nat) (c : AV) (k : Pr α)
  | opt {β : Type} (o : Option β) (k : β → Pr α)
  | br (b : Bool) (x y : Pr α)

def Pr.bind {α β : Type} : Pr α → (α → Pr β) → Pr β
  | .ret a, f => f a
  | .fail, _ => .fail
  | .rd t k, f => .rd t fun v => (k v).bind f
  | .wr t v k, f => .wr t v (k.bind f)
  | .rh h k, f => .rh h fun g c => (k g c).bind f
  | .wh h g c k, f => .wh h g c (k.bind f)
  | .opt o k, f => .opt o fun b => (k b).bind f
  | .br b x y, f => .br b (x.bind f) (y.bind f)

instance : Monad Pr where
  pure := Pr.ret
  bind := Pr.bind

def lift {α : Type} (o : Option α) : Pr α := match o with
  | some a => .ret a
  | none => .fail

/-- what may fail at what is not known ahead -/
def ask {α : Type} (o : Option α) : Pr α := .opt o .ret

def guardB (b : Bool) : Pr Unit := match b with
  | true => .ret ()
  | false => .fail

def exec {α R : Type} : Pr α → St → (α → St → Option R) → Option R
  | .ret a, st, K => K a st
  | .fail, _, _ => none
  | .rd t k, st, K => exec (k (st.get t)) st K
  | .wr t v k, st, K => exec k (st.set t v) K
  | .rh h k, st, K => exec (k (st.gen h) (st.cont h)) st K
  | .wh h g c k, st, K => exec k (st.seth h g c) K
  | .opt o k, st, K => o.bind fun b => exec (k b) st K
  | .br b x y, st, K => if b = true then exec x st K else exec y st K

/-- the same, with what was read and written -/
def execL {α R : Type} : Pr α → St → List Nat → List Nat → (α → St → List Nat → List Nat → Option R) → Option R
  | .ret a, st, rs, ws, K => K a st rs ws
  | .fail, _, _, _, _ => none
  | .rd t k, st, rs, ws, K => execL (k (st.get t)) st ((2 * t) :: rs) ws K
  | .wr t v k, st, rs, ws, K => execL k (st.set t v) rs ((2 * t) :: ws) K
  | .rh h k, st, rs, ws, K => execL (k (st.gen h) (st.cont h)) st ((2 * h + 1) :: rs) ws K
  | .wh h g c k, st, rs, ws, K => execL k (st.seth h g c) rs ((2 * h + 1) :: ws) K
  | .opt o k, st, rs, ws, K => o.bind fun b => execL (k b) st rs ws K
  | .br b x y, st, rs, ws, K => if b = true then execL x st rs ws K else execL y st rs ws K

/-- a callee: what it answers, and what the things that it was handed hold then -/
structure Spec where
  ty : Type
  F : List AV → Option ty
  enc : ty → AV × List AV
  ok : List AV → Bool

structure Env where
  P : Program
  C : FuncId → List AV → Option Spec
  named : List Nat
  n : Nat
  keep : Bool
  mv : List Nat

def sh (t : Nat) : Nat := 4096 * t
def th (h i : Nat) : Nat := h + 64 * (i + 1)

def tyAux (P : Program) : Nat → TypeId → Option Ty
  | 0, _ => none
  | n + 1, t =>
    match P.underlying t with
    | some (.int k) => some (.int k)
    | some .bool => some .bool
    | some .string => some .str
    | some (.slice e) => (tyAux P n e).map .slice
    | some (.struct fs) => fs.toList.foldr (fun f acc => (tyAux P n f.type).bind fun a => acc.map fun b => .pair a b) (some .unit)
    | some (.array m e) => (tyAux P n e).map (.arr m)
    | some (.map k e) => match P.underlying k with
      | some (.int .i64) => (tyAux P n e).map .map
      | _ => none
    | _ => none

/-- a type's kind, if its cells are as many as the program's table says -/
def tyOf (P : Program) (t : TypeId) : Option Ty :=
  match tyAux P 12 t, P.info? t with
  | some ty, some i => match Nat.beq i.size ty.size with
    | true => some ty
    | false => none
  | _, _ => none

def leaves : (t : Ty) → El t → List AV
  | .unit, _ => []
  | .pair a b, x => leaves a x.1 ++ leaves b x.2
  | t, x => [.val t x]

def asize : AV → Nat
  | .val t _ => t.size
  | _ => 1

/-- the fields from a place on -/
def dropAt : Nat → List AV → Option (List AV)
  | 0, fs => some fs
  | n + 1, f :: r => match Nat.ble (asize f) (n + 1) with
    | true => dropAt (n + 1 - asize f) r
    | false => none
  | _ + 1, [] => none
  termination_by structural _ fs => fs

def takeAt : Nat → List AV → Option (List AV)
  | 0, _ => some []
  | n + 1, f :: r => match Nat.ble (asize f) (n + 1) with
    | true => (takeAt (n + 1 - asize f) r).map (f :: ·)
    | false => none
  | _ + 1, [] => none
  termination_by structural _ fs => fs

def view {α : Type} (l : List α) : Option (Nat × Nat) → List α
  | none => l
  | some (o, n) => (l.drop o).take n

def sOff : Option (Nat × Nat) → Nat
  | none => 0
  | some (o, _) => o
def sLen (n : Nat) : Option (Nat × Nat) → Nat
  | none => n
  | some (_, m) => m
def addS (n : Int) : Option (Nat × Nat) → Int
  | none => n
  | some (o, _) => o + n

/-- a home's content, if a mark still holds -/
def home (h g : Nat) : Pr AV := .rh h fun g' c => match Nat.beq g g' with
  | true => .ret c
  | false => .fail

/-- a thing's fields as one datum -/
def chain : List AV → Option (Σ t : Ty, El t)
  | [] => some ⟨.unit, ()⟩
  | .val t x :: fs => (chain fs).map fun r => ⟨.pair t r.1, (x, r.2)⟩
  | _ => none

def boxEl : List AV → Option (Σ t : Ty, El t)
  | [.val t x] => some ⟨t, x⟩
  | fs => chain fs

/-- a list that is read where it lies -/
def listAt (u : Ty) : AV → Pr (List (El u))
  | .nils => .ret []
  | .val s x => (lift (castEl (.slice u) x) : Pr (List (El u)))
  | .lref h g s => do
    match ← home h g with
    | .own t l => do let l' ← (lift (castEl (.slice u) (s := .slice t) l) : Pr (List (El u))); pure (view l' s)
    | .val t l => do let l' ← (lift (castEl (.slice u) l) : Pr (List (El u))); pure (view l' s)
    | _ => .fail
  | _ => .fail

/-- what lies there won't be written any more -/
def freeze : AV → Pr Unit
  | .lref h g _ => do
    match ← home h g with
    | .own t l => .wh h g (.val (.slice t) l) (.ret ())
    | .val _ _ => .ret ()
    | _ => .fail
  | _ => .ret ()

def toLeaf : (t : Ty) → AV → Pr (El t)
  | .slice u, v => do let l ← listAt u v; freeze v; pure l
  | t, .val _ x => lift (castEl t x)
  | _, _ => .fail

def gather : (t : Ty) → List AV → Pr (El t × List AV)
  | .unit, fs => .ret ((), fs)
  | .pair a b, fs => do
    let (x, r) ← gather a fs
    let (y, r') ← gather b r
    pure ((x, y), r')
  | t, f :: r => do let x ← toLeaf t f; pure (x, r)
  | _, [] => .fail

def isLeafTy : Ty → Bool
  | .unit | .pair _ _ => false
  | _ => true

/-- a value as plain data -/
def toEl (t : Ty) : AV → Pr (El t)
  | .agg fs => match isLeafTy t with
    | true => .fail
    | false => do
      let (x, r) ← gather t fs
      match r with
      | [] => pure x
      | _ => .fail
  | v => toLeaf t v
end Go.Pv
