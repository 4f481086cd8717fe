/- The operations of the pure reading. Definitions alone. -/
import Derived.Test.YtcdobfeeabhkeaaPvA
set_option autoImplicit false
set_option linter.unusedVariables false
namespace Go.Pv

def idx {α : Type} (l : List α) (i : Int) : Option α := if 0 ≤ i then l[i.toNat]? else none
def inb (i : Int) (n : Nat) : Option Unit := if 0 ≤ i ∧ i < n then some () else none
/-- from lo to hi, of so many -/
def rng (n : Nat) (lo hi : Int) : Option (Nat × Nat) := if 0 ≤ lo ∧ lo ≤ hi ∧ hi ≤ n then some (lo.toNat, hi.toNat - lo.toNat) else none
def room (n : Nat) : Option Unit := if n ≤ 1099511627776 then some () else none
def mk {α : Type} (n : Int) (bytes : Nat) (z : α) : Option (List α) := if 0 ≤ n ∧ bytes * n ≤ 281474976710656 then some (List.replicate n.toNat z) else none
def quoI (k : IntKind) (a b : Int) : Option Int := if b = 0 then none else some (k.wrap (a.tdiv b))
def remI (a b : Int) : Option Int := if b = 0 then none else some (a.tmod b)
def shlI (k : IntKind) (a b : Int) : Option Int := if b < 0 then none else some (k.wrap (a * 2 ^ (min b.toNat k.bits)))
def shrI (k : IntKind) (a b : Int) : Option Int := if b < 0 then none else some (a.fdiv (2 ^ (min b.toNat k.bits)))
def bitI (k : IntKind) (f : BitVec k.bits → BitVec k.bits → BitVec k.bits) (a b : Int) : Int := k.wrap (f (BitVec.ofInt k.bits a) (BitVec.ofInt k.bits b)).toNat
def andI (k : IntKind) (a b : Int) : Int := bitI k (· &&& ·) a b
def orI (k : IntKind) (a b : Int) : Int := bitI k (· ||| ·) a b
def xorI (k : IntKind) (a b : Int) : Int := bitI k (· ^^^ ·) a b
def andNotI (k : IntKind) (a b : Int) : Int := bitI k (fun x y => x &&& ~~~y) a b

def partEl : (t : Ty) → El t → Nat → (u : Ty) → Option (El u)
  | .pair a b, x, j, u =>
    match Nat.beq j 0, castEl (s := .pair a b) u x with
    | true, some y => some y
    | _, _ => match Nat.blt j a.size with
      | true => partEl a x.1 j u
      | false => partEl b x.2 (j - a.size) u
  | _, x, j, u => match Nat.beq j 0 with
    | true => castEl u x
    | false => none

def putEl : (t : Ty) → El t → Nat → (u : Ty) → El u → Option (El t)
  | .pair a b, x, j, u, y =>
    match Nat.beq j 0, castEl (s := u) (.pair a b) y with
    | true, some z => some z
    | _, _ => match Nat.blt j a.size with
      | true => (putEl a x.1 j u y).map fun z => (z, x.2)
      | false => (putEl b x.2 (j - a.size) u y).map fun z => (x.1, z)
  | t, _, j, u, y => match Nat.beq j 0 with
    | true => castEl t y
    | false => none

def beqEl : (t : Ty) → El t → El t → Bool
  | .int _, x, y => decide ((x : Int) = y)
  | .bool, x, y => (x : Bool) == y
  | .str, x, y => x.toList == y.toList
  | .slice _, _, _ => false
  | .unit, _, _ => true
  | .pair a b, x, y => beqEl a x.1 y.1 && beqEl b x.2 y.2
  | .arr _ t, x, y => x.length == y.length && (x.zip y).all fun p => beqEl t p.1 p.2
  | .fn _ _ _, _, _ => false
  | .map _, _, _ => false

/-- can be compared -/
def Ty.cmp : Ty → Bool
  | .slice _ | .fn _ _ _ | .map _ => false
  | .pair a b => a.cmp && b.cmp
  | .arr _ t => t.cmp
  | _ => true

def leafTys : Ty → List Ty
  | .unit => []
  | .pair a b => leafTys a ++ leafTys b
  | t => [t]

/-- a new thing's fields -/
def zeroEl : (t : Ty) → El t
  | .int _ => (0 : Int)
  | .bool => false
  | .str => ByteArray.empty
  | .slice _ => []
  | .unit => ()
  | .pair a b => (zeroEl a, zeroEl b)
  | .arr n t => List.replicate n (zeroEl t)
  | .fn _ a b => (zeroEl a, zeroEl b)
  | .map _ => []

def zeroFs : Ty → List AV
  | .unit => []
  | .pair a b => zeroFs a ++ zeroFs b
  | .slice _ => [.nils]
  | .map _ => [.undef]
  | t => [.val t (zeroEl t)]

def zeroCs : Ty → List Value
  | .int k => [.int k 0]
  | .bool => [.bool false]
  | .str => [.string ByteArray.empty]
  | .slice _ => [.slice none 0 0]
  | .unit => []
  | .pair a b => zeroCs a ++ zeroCs b
  | .arr n t => (List.replicate n (zeroCs t)).flatten
  | .fn _ _ _ => []
  | .map _ => [.map none]

def sameV : Value → Value → Bool
  | .int k a, .int l b => decide (k = l) && decide (a = b)
  | .bool a, .bool b => a == b
  | .string a, .string b => Nat.beq a.size 0 && Nat.beq b.size 0
  | .slice none 0 0, .slice none 0 0 => true
  | .map none, .map none => true
  | _, _ => false

def sameVs : List Value → List Value → Bool
  | [], [] => true
  | a :: x, b :: y => sameV a b && sameVs x y
  | _, _ => false

/-- the program's own zero of a type is ours -/
def zeroOk (P : Program) (t : TypeId) (ty : Ty) : Bool :=
  match P.info? t with
  | some i => match i.zero with
    | some z => ty.noFn && sameVs z.cells.toList (zeroCs ty)
    | none => false
  | none => false

/-- a mark that still holds -/
def chk1 : AV → Pr Unit
  | .lref h g _ => do
    match ← home h g with
    | .own _ _ => .ret ()
    | .val (.slice _) _ => .ret ()
    | _ => .fail
  | .mref h g => do
    match ← home h g with
    | .mp _ _ => .ret ()
    | _ => .fail
  | _ => .ret ()

def fieldsOf (ty : Ty) (v : AV) : Pr (List AV) :=
  match ty with
  | .pair a b => match v with
    | .agg fs => .ret fs
    | .val _ x => do let y ← (lift (castEl (.pair a b) x) : Pr (El (.pair a b))); pure (leaves (.pair a b) y)
    | _ => .fail
  | .unit => match v with
    | .agg fs => .ret fs
    | _ => .fail
  | _ => do chk1 v; pure [v]

/-- may a value stand where a leaf of this kind is? -/
def fits (t : Ty) : AV → Bool
  | .val s _ => decide (s = t) && !(match t with | .unit | .pair _ _ => true | _ => false)
  | .nils => match t with | .slice _ => true | _ => false
  | .lref _ _ _ => match t with | .slice _ => true | _ => false
  | .mref _ _ => match t with | .map _ => true | _ => false
  | _ => false

def fitAll : List Ty → List AV → Bool
  | [], [] => true
  | t :: ts, f :: fs => fits t f && fitAll ts fs
  | _, _ => false

def isTemp (E : Env) (h : Nat) : Bool := match Nat.beq (h % 4096) 0 with
  | true => !(E.named.contains (h / 4096))
  | false => true

/-- a leaf as it is put into the field with the number i of the thing at home h -/
def put1K (E : Env) (h i : Nat) (t : Ty) (f : AV) : Pr AV :=
  match f with
  | .nils => match t with
    | .slice u => .rh (h + i + 1) fun g _ => .wh (h + i + 1) (g + 2) (.own u []) (.ret (.lref (h + i + 1) (g + 2) none))
    | _ => .fail
  | .lref h2 g2 none => match isTemp E h2 with
    | true => do
      match ← home h2 g2 with
      | .own u l => .wh h2 (g2 + 2) .undef (.rh (h + i + 1) fun g _ => .wh (h + i + 1) (g + 2) (.own u l) (.ret (.lref (h + i + 1) (g + 2) none)))
      | _ => pure f
    | false => pure f
  | f => pure f

def put1V (t : Ty) (f : AV) : Pr AV :=
  match t with
  | .slice u => match f with
    | .nils => .ret (.val (.slice u) ([] : List (El u)))
    | .lref h g s => do
      let l ← toLeaf (.slice u) (.lref h g s)
      pure (.val (.slice u) l)
    | f => pure f
  | _ => pure f

/-- where slices are kept as one's own, or by value -/
def put1 (E : Env) (h i : Nat) (t : Ty) (f : AV) : Pr AV := match E.keep with
  | true => put1K E h i t f
  | false => put1V t f

def putAll (E : Env) (h : Nat) : Nat → List Ty → List AV → Pr (List AV)
  | _, [], [] => .ret []
  | i, t :: ts, f :: fs => do
    let f' ← put1 E h i t f
    let r ← putAll E h (i + 1) ts fs
    pure (f' :: r)
  | _, _, _ => .fail

/-- a new thing at a slot -/
def newBox (E : Env) (d : Nat) (ty : Ty) (fs : List AV) : Pr AV := do
  guardB (fitAll (leafTys ty) fs)
  let fs' ← putAll E (sh d) 0 (leafTys ty) fs
  .rh (sh d) fun g _ => .wh (sh d) (g + 2) (.box fs') (.ret (.ptr (sh d) (g + 2) 0 none))

def newOwn (d : Nat) (t : Ty) (l : List (El t)) : Pr AV :=
  .rh (sh d) fun g _ => .wh (sh d) (g + 2) (.own t l) (.ret (.lref (sh d) (g + 2) none))

def loadP (ty : Ty) : AV → Pr AV
  | .ptr h g k none => do
    match ← home h g with
    | .box fs => do
      let r ← lift (dropAt k fs)
      match isLeafTy ty with
      | true => match r with
        | f :: _ => do guardB (fits ty f); pure f
        | [] => .fail
      | false => do
        let s ← lift (takeAt ty.size r)
        guardB (fitAll (leafTys ty) s)
        pure (.agg s)
    | _ => .fail
  | .ptr h g k (some (esz, i, j)) => do
    match ← home h g with
    | .own t l => do
      guardB (Nat.beq k 0 && Nat.beq esz t.size)
      let x ← ask (idx l i)
      let y ← lift (partEl t x j ty)
      pure (.val ty y)
    | .val (.slice t) l => do
      guardB (Nat.beq k 0 && Nat.beq esz t.size)
      let x ← ask (idx (α := El t) l i)
      let y ← lift (partEl t x j ty)
      pure (.val ty y)
    | .box fs => do
      match ← lift (dropAt k fs) with
      | .val (.arr _ t) l :: _ => do
        guardB (Nat.beq esz t.size)
        let x ← ask (idx (α := El t) l i)
        let y ← lift (partEl t x j ty)
        pure (.val ty y)
      | _ => .fail
    | _ => .fail
  | .eptr t x k => do let y ← lift (partEl t x k ty); pure (.val ty y)
  | _ => .fail

def sameSizes : List AV → List AV → Bool
  | [], [] => true
  | a :: x, b :: y => Nat.beq (asize a) (asize b) && sameSizes x y
  | _, _ => false

def storeP (E : Env) (ty : Ty) (p v : AV) : Pr Unit :=
  match p with
  | .ptr h g k none => do
    let new ← fieldsOf ty v
    guardB (fitAll (leafTys ty) new)
    match ← home h g with
    | .box fs => do
      let pre ← lift (takeAt k fs)
      let old := (fs.drop pre.length).take new.length
      guardB (sameSizes old new)
      let new' ← putAll E h pre.length (leafTys ty) new
      .wh h g (.box (pre ++ new' ++ fs.drop (pre.length + new.length))) (.ret ())
    | _ => .fail
  | .ptr h g k (some (esz, i, j)) => do
    let y ← toEl ty v
    match ← home h g with
    | .own t l => do
      guardB (Nat.beq k 0 && Nat.beq esz t.size)
      let x ← ask (idx l i)
      let x' ← lift (putEl t x j ty y)
      .wh h g (.own t (l.set i.toNat x')) (.ret ())
    | .box fs => do
      let pre ← lift (takeAt k fs)
      match fs.drop pre.length with
      | .val (.arr n t) l :: r => do
        guardB (Nat.beq esz t.size)
        let x ← ask (idx (α := El t) l i)
        let x' ← lift (putEl t x j ty y)
        .wh h g (.box (pre ++ .val (.arr n t) (List.set (α := El t) l i.toNat x') :: r)) (.ret ())
      | _ => .fail
    | _ => .fail
  | _ => .fail

def opd : Operand → Pr AV
  | .tmp t => .rd t .ret
  | .const (.int k n) => .ret (.val (.int k) n)
  | .const (.bool b) => .ret (.val .bool b)
  | .const (.string s) => .ret (.val .str s)
  | .const (.slice none 0 0) => .ret .nils
  | .const (.pointer none) => .ret .nilp
  | .const .nilFunc => .ret .undef
  | .func f => .ret (.val (.fn f .unit .unit) ((), ()))
  | _ => .fail

def asI : AV → Pr (IntKind × Int)
  | .val (.int k) n => .ret (k, n)
  | _ => .fail
def asB : AV → Pr Bool
  | .val .bool b => .ret b
  | _ => .fail

def addI (k : IntKind) (a b : Int) : Int := k.wrap (a + b)
def subI (k : IntKind) (a b : Int) : Int := k.wrap (a - b)
def mulI (k : IntKind) (a b : Int) : Int := k.wrap (a * b)

def binInt (op : BinOp) (k : IntKind) (a b : Int) : Pr AV :=
  match op with
  | .add => .ret (.val (.int k) (addI k a b))
  | .sub => .ret (.val (.int k) (subI k a b))
  | .mul => .ret (.val (.int k) (mulI k a b))
  | .quo => do let n ← ask (quoI k a b); pure (.val (.int k) n)
  | .rem => do let n ← ask (remI a b); pure (.val (.int k) n)
  | .and => .ret (.val (.int k) (andI k a b))
  | .or => .ret (.val (.int k) (orI k a b))
  | .xor => .ret (.val (.int k) (xorI k a b))
  | .andNot => .ret (.val (.int k) (andNotI k a b))
  | .eql => .ret (.val .bool (a == b))
  | .neq => .ret (.val .bool (a != b))
  | .lss => .ret (.val .bool (decide (a < b)))
  | .leq => .ret (.val .bool (decide (a ≤ b)))
  | .gtr => .ret (.val .bool (decide (a > b)))
  | .geq => .ret (.val .bool (decide (a ≥ b)))
  | _ => .fail

def isShift : BinOp → Bool
  | .shl | .shr => true
  | _ => false

def lenP : AV → Pr Nat
  | .nils => .ret 0
  | .val (.slice _) l => .ret (List.length l)
  | .val (.arr n _) _ => .ret n
  | .val .str s => .ret (ByteArray.size s)
  | .lref h g s => do
    match ← home h g with
    | .own _ l => .ret (sLen l.length s)
    | .val (.slice _) l => .ret (sLen (List.length l) s)
    | _ => .fail
  | _ => .fail

/-- a list that is nil has nothing in it: of one that has something it's known -/
def notNil : Nat → Option Bool
  | 0 => none
  | _ + 1 => some false

def eqR (op : BinOp) (b : Bool) : Pr AV := match op with
  | .eql => .ret (.val .bool b)
  | .neq => .ret (.val .bool (!b))
  | _ => .fail

def cmpFs (P : Program) (rec : TypeId → Ty → Bool) : Nat → List Field → Ty → Bool
  | _, [], .unit => true
  | off, f :: fs, .pair a b => (f.name != "_") && Nat.beq f.offset off && decide (tyOf P f.type = some a) && rec f.type a && cmpFs P rec (off + a.size) fs b
  | _, _, _ => false

/-- things of this type can be compared, and by their cells -/
def cmpOk (P : Program) : Nat → TypeId → Ty → Bool
  | 0, _, _ => false
  | n + 1, t, ty => match P.underlying t, ty with
    | some (.int _), .int _ => true
    | some .bool, .bool => true
     | some (.struct fs), ty => !(P.stoodInHeld t) && cmpFs P (cmpOk P n) 0 fs.toList ty
    | some (.array m e), .arr m' u => Nat.beq m m' && decide (tyOf P e = some u) && cmpOk P n e u
    | _, _ => false

def slDesc (P : Program) (t : TypeId) : Bool := match P.underlying t with
  | some (.slice _) => true
  | _ => false

/-- == and != of lists with nil, of structs and of arrays -/
def eqP (P : Program) (t : TypeId) (op : BinOp) (x y : AV) : Pr AV :=
  match x, y with
  | .val (.slice _) l, .nils => do
    guardB (slDesc P t)
    let b ← ask (notNil (List.length l))
    eqR op b
  | .lref h g s, .nils => do
    guardB (slDesc P t)
    let n ← lenP (.lref h g s)
    let b ← ask (notNil n)
    eqR op b
  | .nils, .nils => do
    guardB (slDesc P t)
    eqR op true
  | x, y => do
    let ty ← lift (tyOf P t)
    guardB (ty.isAgg && cmpOk P 12 t ty && !(P.eqGuardType P.depth t))
    let a ← toEl ty x
    let b ← toEl ty y
    eqR op (beqEl ty a b)

def binP (P : Program) (t : TypeId) (op : BinOp) (x y : AV) : Pr AV :=
  match isShift op with
  | true => do
    let (k, a) ← asI x
    let (_, b) ← asI y
    match op with
    | .shl => do let n ← ask (shlI k a b); pure (.val (.int k) n)
    | _ => do let n ← ask (shrI k a b); pure (.val (.int k) n)
  | false => match x, y with
    | .val (.int k) a, .val (.int l) b => match decide (k = l) with
      | true => binInt op k a b
      | false => .fail
    | .val .bool a, .val .bool b => match P.underlying t, op with
      | some .bool, .eql => .ret (.val .bool (a == b))
      | some .bool, .neq => .ret (.val .bool (!(a == b)))
      | _, _ => .fail
    | .ptr h g _ _, .nilp => do
      let _ ← home h g
      match P.underlying t, op with
      | some (.pointer _), .eql => .ret (.val .bool false)
      | some (.pointer _), .neq => .ret (.val .bool true)
      | _, _ => .fail
    | .val .str a, .val .str b => match op with
      | .eql => .ret (.val .bool (a.toList == b.toList))
      | .neq => .ret (.val .bool (!(a.toList == b.toList)))
      | _ => .fail
    | x, y => eqP P t op x y

def unP (op : UnOp) (x : AV) : Pr AV :=
  match op, x with
  | .neg, .val (.int k) n => .ret (.val (.int k) (subI k 0 n))
  | .xor, .val (.int k) n => .ret (.val (.int k) (xorI k (if k.signed then -1 else k.max) n))
  | .not, .val .bool b => .ret (.val .bool (!b))
  | _, _ => .fail

/-- a list's elements are of this kind -/
def sameTy (u : Ty) : AV → Pr Unit
  | .lref h g _ => do
    match ← home h g with
    | .own t _ => guardB (decide (t = u))
    | .val (.slice t) _ => guardB (decide (t = u))
    | _ => .fail
  | _ => .fail

def slTy (P : Program) (t : TypeId) : Pr Ty := do
  match ← lift (tyOf P t) with
  | .slice u => guardB (!(Nat.beq u.size 0)); pure u
  | _ => .fail

/-- the element type's own number, of a slice's -/
def slElem (P : Program) (t : TypeId) : Pr TypeId :=
  match P.underlying t with
  | some (.slice e) => .ret e
  | _ => .fail

def indexAddrP (E : Env) (t : TypeId) (x i : AV) : Pr AV := do
  let (_, n) ← asI i
  match E.P.underlying t with
  | some (.slice e) => do
    let u ← lift (tyOf E.P e)
    match x with
    | .val s l => do
      let l' ← (lift (castEl (.slice u) l) : Pr (List (El u)))
      let a ← ask (idx l' n)
      pure (.eptr u a 0)
    | .lref h g s => do
      guardB (!(Nat.beq u.size 0))
      let c ← home h g
      match c with
      | .own t' l => do
        guardB (decide (t' = u))
        ask (inb n (sLen l.length s))
        pure (.ptr h g 0 (some (u.size, addS n s, 0)))
      | .val (.slice t') l => do
        guardB (decide (t' = u))
        ask (inb n (sLen (List.length l) s))
        pure (.ptr h g 0 (some (u.size, addS n s, 0)))
      | _ => .fail
    | _ => .fail
  | some (.array m e) => do
    let u ← lift (tyOf E.P e)
    match x with
    | .ptr h g k none => do
      let _ ← home h g
      ask (inb n m)
      pure (.ptr h g k (some (u.size, n, 0)))
    | _ => .fail
  | _ => .fail

def fieldAddrP (E : Env) (t : TypeId) (x : AV) (f : Nat) : Pr AV :=
  match E.P.underlying t with
  | some (.struct fs) => match fs[f]? with
    | some fd => match E.P.info? fd.type with
      | some i => match Nat.beq i.size 0 with
        | true => .fail
        | false => match x with
          | .ptr h g k none => do let _ ← home h g; pure (.ptr h g (k + fd.offset) none)
          | .ptr h g k (some (e, i, j)) => do let _ ← home h g; pure (.ptr h g k (some (e, i, j + fd.offset)))
          | .eptr u x k => .ret (.eptr u x (k + fd.offset))
          | _ => .fail
      | none => .fail
    | none => .fail
  | _ => .fail

/-- a part of a struct's value -/
def fieldP (E : Env) (t : TypeId) (x : AV) (f : Nat) : Pr AV :=
  match E.P.underlying t with
  | some (.struct fs) => match fs[f]? with
    | some fd => do
      let ty ← lift (tyOf E.P fd.type)
      match x with
      | .val u a => do guardB u.isAgg; let y ← lift (partEl u a fd.offset ty); pure (.val ty y)
      | .agg gs => do
        let r ← lift (dropAt fd.offset gs)
        match isLeafTy ty with
        | true => match r with
          | a :: _ => do guardB (fits ty a); pure a
          | [] => .fail
        | false => do
          let s ← lift (takeAt ty.size r)
          guardB (fitAll (leafTys ty) s)
          pure (.agg s)
      | _ => .fail
    | none => .fail
  | _ => .fail

def indexP (E : Env) (t : TypeId) (x i : AV) : Pr AV := do
  let (_, n) ← asI i
  match E.P.underlying t with
  | some (.array m e) => match x with
    | .val (.arr m' u) l => do
      let ty ← lift (tyOf E.P e)
      guardB (Nat.beq m m' && decide (u = ty))
      let a ← ask (idx (α := El u) l n)
      pure (.val u a)
    | _ => .fail
  | _ => .fail

def boundP : Option AV → Pr (Option Int)
  | none => .ret none
  | some a => do let (_, n) ← asI a; pure (some n)

def sliceP (E : Env) (t : TypeId) (x : AV) (lo hi : Option AV) : Pr AV := do
  let lo' ← boundP lo
  let hi' ← boundP hi
  match E.P.underlying t with
  | some (.slice e) => do
    let u ← lift (tyOf E.P e)
    match x with
    | .val s l => do
      let l' ← (lift (castEl (.slice u) l) : Pr (List (El u)))
      let r ← ask (rng l'.length (lo'.getD 0) (hi'.getD l'.length))
      pure (.val (.slice u) (view l' (some r)))
    | .lref h g s => do
      sameTy u (.lref h g s)
      let n ← lenP (.lref h g s)
      let r ← ask (rng n (lo'.getD 0) (hi'.getD n))
      pure (.lref h g (some (sOff s + r.1, r.2)))
    | _ => .fail
  | _ => .fail

def build1 (E : Env) (fd : Array Field) : List (Nat × AV) → List AV → Pr (List AV)
  | [], fs => .ret fs
  | (i, v) :: r, fs => do
    let f ← lift fd[i]?
    let ty ← lift (tyOf E.P f.type)
    let new ← fieldsOf ty v
    guardB (fitAll (leafTys ty) new)
    let pre ← lift (takeAt f.offset fs)
    let old := (fs.drop pre.length).take new.length
    guardB (sameSizes old new)
    build1 E fd r (pre ++ new ++ fs.drop (pre.length + new.length))

def fillP (u : Ty) : List (Nat × AV) → List (El u) → Pr (List (El u))
  | [], l => .ret l
  | (i, v) :: r, l => do
    chk1 v
    let x ← toEl u v
    guardB (Nat.blt i l.length)
    fillP u r (l.set i x)

def buildP (E : Env) (t : TypeId) (parts : List (Nat × AV)) : Pr AV := do
  let ty ← lift (tyOf E.P t)
  guardB (zeroOk E.P t ty)
  match E.P.underlying t with
  | some (.struct fd) => do
    guardB (fd.toList.all fun f => (E.P.info? f.type).isSome)
    let fs ← build1 E fd parts (zeroFs ty)
    guardB (fitAll (leafTys ty) fs)
    pure (.agg fs)
  | some (.array n e) => do
    let u ← lift (tyOf E.P e)
    guardB (decide (ty = .arr n u))
    let l ← fillP u parts (List.replicate n (zeroEl u))
    pure (.val (.arr n u) l)
  | _ => .fail

def opds : List (Nat × Operand) → Pr (List (Nat × AV))
  | [] => .ret []
  | (i, x) :: r => do
    let v ← opd x
    let vs ← opds r
    pure ((i, v) :: vs)

def opdl : List Operand → Pr (List AV)
  | [] => .ret []
  | x :: r => do
    let v ← opd x
    let vs ← opdl r
    pure (v :: vs)
end Go.Pv
