/- One operation, one region, the code of a function: the pure reading. Definitions alone. -/
import Derived.Test.YtcdobfeeabhkeaaPvB
set_option autoImplicit false
set_option linter.unusedVariables false
namespace Go.Pv

/-- what an append takes over: the list so far -/
def takeOver (u : Ty) : AV → Pr (List (El u))
  | .nils => .ret []
  | .lref h g none => do
    match ← home h g with
    | .own t l => do
      let l' ← (lift (castEl (.slice u) (s := .slice t) l) : Pr (List (El u)))
      .wh h (g + 2) .undef (.ret l')
    | _ => .fail
  | _ => .fail

def strList (s : ByteArray) : List Int := s.data.toList.map fun b => (b.toNat : Int)

/-- what an append puts behind it -/
def sourceP (u : Ty) (v : AV) : Pr (List (El u)) :=
  match v with
  | .val .str s => (lift (castEl (.slice u) (s := .slice (.int .u8)) (strList s)) : Pr (List (El u)))
  | v => do
    let l ← listAt u v
    match u.flat with
    | true => pure l
    | false => do freeze v; pure l

def isStrTy (P : Program) (t : TypeId) : Bool := match P.underlying t with
  | some .string => true
  | _ => false
def isSlTy (P : Program) (t : TypeId) : Bool := match P.underlying t with
  | some (.slice _) => true
  | _ => false

def appendP (E : Env) (d : Nat) (ts : Array TypeId) (s x : AV) : Pr AV :=
  match ts.toList with
  | [t, tx] => match E.P.underlying t with
    | some (.slice e) => do
      let u ← lift (tyOf E.P e)
      guardB (!(Nat.beq u.size 0) && zeroOk E.P e u && (isStrTy E.P tx || isSlTy E.P tx))
      let i ← lift (E.P.info? e)
      guardB (Nat.ble i.bytes 64)
      let l2 ← sourceP u x
      let l1 ← takeOver u s
      ask (room (l1.length + l2.length))
      newOwn d u (l1 ++ l2)
    | _ => .fail
  | _ => .fail

def sameOpd : Operand → Operand → Bool
  | .tmp a, .tmp b => Nat.beq a b
  | .const (.int _ a), .const (.int _ b) => decide (a = b)
  | _, _ => false

def makeSliceP (E : Env) (d : Nat) (t : TypeId) (n : AV) : Pr AV := do
  let (k, m) ← asI n
  guardB (decide (k = .i64))
  match E.P.underlying t with
  | some (.slice e) => do
    let u ← lift (tyOf E.P e)
    guardB (!(Nat.beq u.size 0) && zeroOk E.P e u)
    let i ← lift (E.P.info? e)
    guardB (Nat.blt 0 i.bytes)
    let l ← ask (mk m i.bytes (zeroEl u))
    newOwn d u l
  | _ => .fail

/-- a thing's fields, taken out of it to be handed on -/
def out1 : AV → Pr AV
  | .lref h g none => do
    match ← home h g with
    | .own u l => .wh h (g + 2) .undef (.ret (.own u l))
    | .val (.slice u) l => .ret (.val (.slice u) l)
    | _ => .fail
  | .mref h g => do
    match ← home h g with
    | .mp u l => .wh h (g + 2) .undef (.ret (.mp u l))
    | _ => .fail
  | .val t x => .ret (.val t x)
  | _ => .fail

def outAll : List AV → Pr (List AV)
  | [] => .ret []
  | f :: fs => do
    let f' ← out1 f
    let r ← outAll fs
    pure (f' :: r)

def in1 (h i : Nat) : AV → Pr AV
  | .own u l => .rh (h + i + 1) fun g _ => .wh (h + i + 1) (g + 2) (.own u l) (.ret (.lref (h + i + 1) (g + 2) none))
  | .mp u l => .rh (h + i + 1) fun g _ => .wh (h + i + 1) (g + 2) (.mp u l) (.ret (.mref (h + i + 1) (g + 2)))
  | .val t x => .ret (.val t x)
  | _ => .fail

def inAll (h : Nat) : Nat → List AV → Pr (List AV)
  | _, [] => .ret []
  | i, f :: fs => do
    let f' ← in1 h i f
    let r ← inAll h (i + 1) fs
    pure (f' :: r)

/-- what a call answers, at a home -/
def imp (h : Nat) : AV → Pr AV
  | .val t x => .ret (.val t x)
  | .nils => .ret .nils
  | .nilp => .ret .nilp
  | .own t l => .rh h fun g _ => .wh h (g + 2) (.own t l) (.ret (.lref h (g + 2) none))
  | .box fs => do
    let fs' ← inAll h 0 fs
    .rh h fun g _ => .wh h (g + 2) (.box fs') (.ret (.ptr h (g + 2) 0 none))
  | _ => .fail

def impAll (h : Nat) : Nat → List AV → Pr (List AV)
  | _, [] => .ret []
  | i, f :: fs => do
    let f' ← imp (th h i) f
    let r ← impAll h (i + 1) fs
    pure (f' :: r)

def impR (h : Nat) : AV → Pr AV
  | .tup vs => do let vs' ← impAll h 0 vs; pure (.tup vs')
  | v => imp h v

def clean1 : AV → Bool
  | .val t _ => t.flat
  | .own t _ => t.flat
  | .nilp | .nils => true
  | _ => false

def clean2 : AV → Bool
  | .box fs => fs.all clean1
  | v => clean1 v

def clean : AV → Bool
  | .tup vs => vs.all clean2
  | v => clean2 v

def isU : Ty → Bool
  | .unit => true
  | _ => false

/-- an argument as it is handed in -/
def argP (E : Env) (t : TypeId) (v : AV) : Pr AV :=
  match v with
  | .eptr t x 0 => .ret (.eptr t x 0)
  | .fnp f h g => do
    match ← home h g with
    | .box fs => do
      let p ← lift (boxEl fs)
      guardB (!(isU p.1))
      pure (.val (.fn f .unit p.1) ((), p.2))
    | _ => .fail
  | .ptr h g 0 none => do
    match ← home h g with
    | .box fs => .wh h g .undef (do let fs' ← outAll fs; pure (.box fs'))
    | _ => .fail
  | .val t x => .ret (.val t x)
  | .nils => do
    match ← lift (tyOf E.P t) with
    | .slice u => pure (.val (.slice u) [])
    | _ => .fail
  | .lref h g s => do
    match ← lift (tyOf E.P t) with
    | .slice u => do let l ← listAt u (.lref h g s); pure (.val (.slice u) l)
    | _ => .fail
  | .agg fs => do
    let ty ← lift (tyOf E.P t)
    let x ← toEl ty (.agg fs)
    pure (.val ty x)
  | _ => .fail

def argsP (E : Env) : List (TypeId × AV) → Pr (List AV)
  | [] => .ret []
  | (t, v) :: r => do
    let a ← argP E t v
    let as ← argsP E r
    pure (a :: as)

/-- what the things that were handed in hold behind a call -/
def outsP : List AV → List AV → Pr Unit
  | [], [] => .ret ()
  | .ptr h g 0 none :: vs, .box fs :: os => do
    let fs' ← inAll h 0 fs
    .rh h fun g' c => match Nat.beq g' g, c with
      | true, .undef => .wh h g (.box fs') (outsP vs os)
      | _, _ => .fail
  | .ptr .. :: _, _ => .fail
  | _ :: vs, os => outsP vs os
  | [], _ :: _ => .fail

def freezeAll : List AV → Pr Unit
  | [] => .ret ()
  | .lref h g s :: r => do freeze (.lref h g s); freezeAll r
  | .fnp _ _ _ :: _ => .fail
  | _ :: r => freezeAll r

/-- what was read as a list lies where it was, when all has been handed in -/
def refsOk : List AV → Pr Unit
  | [] => .ret ()
  | .lref h g _ :: r => do
    match ← home h g with
    | .own _ _ => refsOk r
    | .val (.slice _) _ => refsOk r
    | _ => .fail
  | .fnp _ h g :: r => do
    match ← home h g with
    | .box _ => refsOk r
    | _ => .fail
  | _ :: r => refsOk r

def zipT : List TypeId → List AV → Pr (List (TypeId × AV))
  | [], [] => .ret []
  | t :: ts, v :: vs => do let r ← zipT ts vs; pure ((t, v) :: r)
  | _, _ => .fail

def callP (E : Env) (d : Nat) (f : FuncId) (ts : List TypeId) (vs : List AV) : Pr AV :=
  do
    let z ← zipT ts vs
    let as ← argsP E z
    match E.C f as with
    | none => .fail
    | some S => do
      refsOk vs
      let r ← ask (S.F as)
      (match clean (S.enc r).1 && (S.enc r).2.all clean2 with
      | true => .ret ()
      | false => freezeAll vs : Pr Unit)
      outsP vs (S.enc r).2
      impR (sh d) (S.enc r).1

/-- a call that takes a list over for good -/
def callO (E : Env) (d : Nat) (f : FuncId) (v : AV) : Pr AV :=
  match v with
  | .lref h g none => do
    match ← home h g with
    | .own u l => .wh h (g + 2) .undef (match E.C f [.own u l] with
      | none => .fail
      | some S => do
        let r ← ask (S.F [.own u l])
        match (S.enc r).2 with
        | [] => impR (sh d) (S.enc r).1
        | _ => .fail)
    | _ => .fail
  | _ => .fail

/-- a call of a function that is known by its number -/
def callF (E : Env) (d : Nat) (f : FuncId) (ts : List TypeId) (vs : List AV) : Pr AV :=
  match E.mv.contains f with
  | false => callP E d f ts vs
  | true => match vs with
    | [v] => callO E d f v
    | _ => .fail

def fnTs (t : Ty) : List TypeId := match isU t with
  | true => []
  | false => [0]
def fnVs (t : Ty) (x : El t) : List AV := match isU t with
  | true => []
  | false => [.val t x]
def fnCs (t : Ty) (x : El t) : List AV := match isU t with
  | true => []
  | false => [.eptr t x 0]

/-- a call of a function's value -/
def callV (E : Env) (d : Nat) (ts : List TypeId) (vs : List AV) (v : AV) : Pr AV :=
  match v with
  | .val (.fn f a b) x => callP E d f (fnTs a ++ ts ++ fnTs b) (fnVs a x.1 ++ vs ++ fnCs b x.2)
  | .fnp f h g => do
    let _ ← home h g
    callP E d f (ts ++ [0]) (vs ++ [.ptr h g 0 none])
  | _ => .fail

/-- the kind of a function's first parameter -/
def firstTy (P : Program) (f : FuncId) : Option Ty := (P.funcs[f]?).bind fun fn => (fn.params[0]?).bind (tyOf P)

def makeFuncP (E : Env) (fn : Fn) (first captured : List Operand) : Pr AV :=
  match fn, first, captured with
  | .func f, [], [] => .ret (.val (.fn f .unit .unit) ((), ()))
  | .func f, [x], [] => do
    let v ← opd x
    let ty ← lift (firstTy E.P f)
    guardB (!(isU ty))
    let y ← toEl ty v
    pure (.val (.fn f ty .unit) (y, ()))
  | .func f, [], [x] => do
    let v ← opd x
    match v with
    | .ptr h g 0 none => do let _ ← home h g; pure (.fnp f h g)
    | .eptr t y 0 => do
      guardB (!(isU t))
      pure (.val (.fn f .unit t) ((), y))
    | _ => .fail
  | _, _, _ => .fail

def splice {α : Type} (l : List α) (o : Nat) (m : List α) : List α := l.take o ++ m ++ l.drop (o + m.length)

def copyP (E : Env) (ts : List TypeId) (d x : AV) : Pr AV :=
  match ts with
  | [t, tx] => match E.P.underlying t with
    | some (.slice e) => do
      let u ← lift (tyOf E.P e)
      match d with
      | .lref h g s => do
        let l2 ← listAt u x
        (match u.flat with
        | true => .ret ()
        | false => freeze x : Pr Unit)
        match ← home h g with
        | .own t' l => do
          let l' ← (lift (castEl (.slice u) (s := .slice t') l) : Pr (List (El u)))
          let n := Nat.min l2.length (sLen l'.length s)
          .wh h g (.own u (splice l' (sOff s) (l2.take n))) (.ret (.val (.int .i64) (n : Int)))
        | _ => .fail
      | _ => .fail
    | _ => .fail
  | _ => .fail

def clearP (E : Env) (ts : List TypeId) (d : AV) : Pr AV :=
  match ts with
  | [t] => match E.P.underlying t with
    | some (.slice e) => do
      let u ← lift (tyOf E.P e)
      guardB (zeroOk E.P e u)
      match d with
      | .lref h g s => do
        match ← home h g with
        | .own t' l => do
          let l' ← (lift (castEl (.slice u) (s := .slice t') l) : Pr (List (El u)))
          .wh h g (.own u (splice l' (sOff s) (List.replicate (sLen l'.length s) (zeroEl u)))) (.ret (.tup []))
        | _ => .fail
      | _ => .fail
    | _ => .fail
  | _ => .fail

/-! maps with numbers as keys -/
def lookM {α : Type} (k : Int) : List (Int × α) → Option α
  | [] => none
  | p :: l => if p.1 = k then some p.2 else lookM k l
def setM {α : Type} (k : Int) (x : α) : List (Int × α) → List (Int × α)
  | [] => [(k, x)]
  | p :: l => if p.1 = k then (k, x) :: l else p :: setM k x l

def isI64 (P : Program) (t : TypeId) : Bool := match P.underlying t with
  | some (.int .i64) => true
  | _ => false

def mapTy (P : Program) (t : TypeId) : Option (TypeId × Ty) := match P.underlying t with
  | some (.map k e) => match isI64 P k with
    | true => (tyOf P e).map fun u => (e, u)
    | false => none
  | _ => none

/-- the zero that the program's table has is a thing of fields where the type is -/
def zeroAgg (P : Program) (t : TypeId) (u : Ty) : Bool := match (P.info? t).bind (·.zero) with
  | some (.agg _) => u.isAgg
  | some _ => !u.isAgg
  | none => false

def makeMapP (E : Env) (d : Nat) (t : TypeId) : Pr AV := do
  let u ← lift (mapTy E.P t)
  .rh (sh d) fun g _ => .wh (sh d) (g + 2) (.mp u.2 []) (.ret (.mref (sh d) (g + 2)))

def mapPutP (E : Env) (t : TypeId) (m k x : AV) : Pr AV := do
  let u ← lift (mapTy E.P t)
  let (kk, n) ← asI k
  guardB (decide (kk = .i64))
  let y ← toEl u.2 x
  match m with
  | .mref h g => do
    match ← home h g with
    | .mp t' l => do
      let l' ← (lift (castEl (.map u.2) (s := .map t') l) : Pr (List (Int × El u.2)))
      .wh h g (.mp u.2 (setM n y l')) (.ret .undef)
    | _ => .fail
  | _ => .fail

def lookupP (E : Env) (t : TypeId) (m k : AV) (ok : Bool) : Pr AV := do
  let u ← lift (mapTy E.P t)
  guardB (zeroOk E.P u.1 u.2 && zeroAgg E.P u.1 u.2)
  let (kk, n) ← asI k
  guardB (decide (kk = .i64))
  match m with
  | .mref h g => do
    match ← home h g with
    | .mp t' l => do
      let l' ← (lift (castEl (.map u.2) (s := .map t') l) : Pr (List (Int × El u.2)))
      match ok with
      | true => pure (.tup [.val u.2 ((lookM n l').getD (zeroEl u.2)), .val .bool (lookM n l').isSome])
      | false => pure (.val u.2 ((lookM n l').getD (zeroEl u.2)))
    | _ => .fail
  | _ => .fail

/-- a variable that is given a value -/
def bindTo (E : Env) (d : Nat) (ty : TypeId) (v : AV) : Pr AV :=
  match v with
  | .nils => match tyOf E.P ty with
    | some (.slice u) => newOwn d u []
    | _ => .ret .nils
  | .lref h g none => match isTemp E h with
    | true => do
      match ← home h g with
      | .own u l => .wh h (g + 2) .undef (newOwn d u l)
      | _ => pure v
    | false => pure v
  | v => .ret v

def constB : Operand → Option Bool
  | .const (.bool b) => some b
  | _ => none

def minI (a b : Int) : Int := if b < a then b else a
def maxI (a b : Int) : Int := if a < b then b else a

def minP (vs : List AV) : Pr AV :=
  match vs with
  | .val (.int k) a :: r => (r.foldlM (fun (a : Int) v => match v with | .val (.int _) b => (.ret (minI a b) : Pr Int) | _ => .fail) (a : Int)) >>= fun n => .ret (.val (.int k) n)
  | _ => .fail
def maxP (vs : List AV) : Pr AV :=
  match vs with
  | .val (.int k) a :: r => (r.foldlM (fun (a : Int) v => match v with | .val (.int _) b => (.ret (maxI a b) : Pr Int) | _ => .fail) (a : Int)) >>= fun n => .ret (.val (.int k) n)
  | _ => .fail

def isSl : AV → Bool
  | .val .str _ => false
  | .val (.arr _ _) _ => false
  | _ => true

def optP : Option Operand → Pr (Option AV)
  | none => .ret none
  | some x => do let v ← opd x; pure (some v)

/-- what an operation gives -/
def opP (E : Env) (o : Oper) : Pr AV :=
  match o.op with
  | .move x => opd x
  | .assign x => do
    let v ← opd x
    match o.dst with
    | some d => bindTo E d o.type v
    | none => .fail
  | .pick c a b => do
    let c' ← opd c
    let cb ← asB c'
    let a' ← opd a
    let b' ← opd b
    .br cb (.ret a') (.ret b')
  | .alloc t => match o.dst with
    | some d => do
      let ty ← lift (tyOf E.P t)
      guardB (zeroOk E.P t ty)
      newBox E d ty (zeroFs ty)
    | none => .fail
  | .box t x => match o.dst with
    | some d => do
      let v ← opd x
      let ty ← lift (tyOf E.P t)
      let fs ← fieldsOf ty v
      newBox E d ty fs
    | none => .fail
  | .build t parts => do
    let ps ← opds parts.toList
    buildP E t ps
  | .buildSlice t n parts => match o.dst with
    | some d => match E.P.underlying t with
      | some (.slice e) => do
        let u ← lift (tyOf E.P e)
        guardB (!(Nat.beq u.size 0) && zeroOk E.P e u && Nat.ble (n * u.size) 16777216)
        let ps ← opds parts.toList
        let l ← fillP u ps (List.replicate n (zeroEl u))
        newOwn d u l
      | _ => .fail
    | none => .fail
  | .load t a => do
    let p ← opd a
    let ty ← lift (tyOf E.P t)
    loadP ty p
  | .store t a x => do
    let p ← opd a
    let v ← opd x
    let ty ← lift (tyOf E.P t)
    storeP E ty p v
    pure .undef
  | .nilCheck x => do
    let v ← opd x
    match v with
    | .ptr h g k i => do let _ ← home h g; pure v
    | .eptr _ _ _ => pure v
    | _ => .fail
  | .binOp op t x y _ => do
    let a ← opd x
    let b ← opd y
    binP E.P t op a b
  | .unOp op _ x => do let a ← opd x; unP op a
  | .convert s t x => do
    let a ← opd x
    match a, E.P.underlying s, E.P.underlying t with
    | .val (.int _) n, some (.int _), some (.int k) => pure (.val (.int k) (k.wrap n))
    | _, _, _ => .fail
  | .makeSlice t n c => match o.dst with
    | some d => do
      guardB (sameOpd n c)
      let a ← opd n
      makeSliceP E d t a
    | none => .fail
  | .slice t x lo hi mx => match mx with
    | some _ => .fail
    | none => do
      let v ← opd x
      let l ← optP lo
      let h ← optP hi
      sliceP E t v l h
  | .fieldAddr t x f => do let v ← opd x; fieldAddrP E t v f
  | .field t x f => do let v ← opd x; fieldP E t v f
  | .indexAddr t x i => do
    let v ← opd x
    let n ← opd i
    indexAddrP E t v n
  | .index t x i => do
    let v ← opd x
    let n ← opd i
    indexP E t v n
  | .extract x i => do
    let v ← opd x
    match v with
    | .tup vs => lift vs[i]?
    | _ => .fail
  | .call c => match c.callee with
    | .value (.func f) => do
      let vs ← opdl c.args.toList
      callF E (o.dst.getD 0) f c.argTypes.toList vs
    | .value (.tmp t) => do
      let vs ← opdl c.args.toList
      let v ← opd (.tmp t)
      callV E (o.dst.getD 0) c.argTypes.toList vs v
    | .builtin .copy => do
      let vs ← opdl c.args.toList
      match vs with
      | [d, x] => copyP E c.argTypes.toList d x
      | _ => .fail
    | .builtin .clear => do
      let vs ← opdl c.args.toList
      match vs with
      | [d] => clearP E c.argTypes.toList d
      | _ => .fail
    | .builtin .len => do
      let vs ← opdl c.args.toList
      match vs, (c.argTypes[0]?).bind E.P.underlying with
      | [v], some (.slice _) => do guardB (isSl v); let n ← lenP v; pure (.val (.int .i64) (n : Int))
      | [.val .str s], some .string => pure (.val (.int .i64) (ByteArray.size s : Int))
      | [_], some (.array n _) => pure (.val (.int .i64) (n : Int))
      | _, _ => .fail
    | .builtin .append => match o.dst with
      | some d => do
        let vs ← opdl c.args.toList
        match vs with
        | [s, x] => appendP E d c.argTypes s x
        | _ => .fail
      | none => .fail
    | .builtin .min => do let vs ← opdl c.args.toList; minP vs
    | .builtin .max => do let vs ← opdl c.args.toList; maxP vs
    | _ => .fail
  | .makeFunc fn first captured => makeFuncP E fn first.toList captured.toList
  | .makeMap t none => match o.dst with
    | some d => makeMapP E d t
    | none => .fail
  | .insert t m k x => do
    let m' ← opd m
    let k' ← opd k
    let x' ← opd x
    mapPutP E t m' k' x'
  | .mapUpdate t m k x => do
    let m' ← opd m
    let k' ← opd k
    let x' ← opd x
    mapPutP E t m' k' x'
  | .lookup t m k ok => do
    let m' ← opd m
    let k' ← opd k
    lookupP E t m' k' ok
  | .makeInterface _ _ => ask none
  | .panic _ => ask none
  | _ => .fail

/-- the slot of an operation's answer -/
def dstOf (ops : Array Oper) (j : Nat) : Option Nat := (ops[j]?).bind (·.dst)

def putDst (E : Env) (d : Option Nat) (v : AV) : Pr Unit :=
  match d with
  | some t => do guardB (Nat.blt t E.n); .wr t v (.ret ())
  | none => .ret ()

def guarded (E : Env) (o : Oper) (go : Bool) : Pr Unit :=
  match go with
  | true => do let v ← opP E o; putDst E o.dst v
  | false => putDst E o.dst (.tup [])

/-- one operation of a region, if it is wanted -/
def stepP (E : Env) (ops : Array Oper) (i : Nat) : Pr Unit :=
  match ops[i]? with
  | none => .ret ()
  | some o => match o.guard with
    | none => guarded E o true
    | some (j, want) => match dstOf ops j with
      | none => .fail
      | some g => .rd g fun c => match c with
        | .val .bool b => .br b (.wr g (.val .bool true) (guarded E o want)) (.wr g (.val .bool false) (guarded E o (!want)))
        | .tup [] => guarded E o false
        | _ => .fail

def stepsP (E : Env) (ops : Array Oper) : List Nat → Pr Unit
  | [] => .ret ()
  | i :: r => do stepP E ops i; stepsP E ops r

inductive Ex where
  | normal
  | exit (id : Nat)
  | goto (l : Nat)
  | ret

/-- slots and homes that are kept at a place of the code -/
abbrev Hints := Nat → Option (List Nat × List Nat)

/-- a home's mark behind a pruning: the mark of what was handed in stays -/
def mark1 (g : Nat) : Nat := match Nat.beq g 1 with
  | true => 1
  | false => 0

def reb1 (st : St) (homes : List Nat) : AV → AV
  | .lref h g s => match Nat.beq (st.gen h) g && homes.contains h with
    | true => .lref h (mark1 g) s
    | false => .undef
  | .ptr h g k i => match Nat.beq (st.gen h) g && homes.contains h with
    | true => .ptr h (mark1 g) k i
    | false => .undef
  | .fnp f h g => match Nat.beq (st.gen h) g && homes.contains h with
    | true => .fnp f h (mark1 g)
    | false => .undef
  | .mref h g => match Nat.beq (st.gen h) g && homes.contains h with
    | true => .mref h (mark1 g)
    | false => .undef
  | .val t x => .val t x
  | .nils => .nils
  | .nilp => .nilp
  | .eptr t x k => .eptr t x k
  | _ => .undef

def reb (st : St) (homes : List Nat) : AV → AV
  | .agg fs => .agg (fs.map (reb1 st homes))
  | v => reb1 st homes v

def rebH (st : St) (homes : List Nat) : AV → AV
  | .own t l => .own t l
  | .val (.slice t) l => .val (.slice t) l
  | .box fs => .box (fs.map (reb1 st homes))
  | .mp t l => .mp t l
  | _ => .undef

def prune (H : Option (List Nat × List Nat)) (st : St) : St :=
  match H with
  | none => st
  | some (slots, homes) => ⟨slots.map fun t => (t, reb st homes (st.get t)), homes.map fun h => (h, mark1 (st.gen h), rebH st homes (st.cont h))⟩

def key : Code → Nat
  | .region id _ _ => id
  | .seq a _ => key a
  | .block _ b => key b
  | .loop b => key b
  | .scope b => key b
  | _ => 0

def hasL : Code → Nat → Bool
  | .seq a b, l => hasL a l || hasL b l
  | .label l', l => Nat.beq l' l
  | _, _ => false

/-- two operations' places have nothing in common that one of them writes -/
def apartL (r1 w1 r2 w2 : List Nat) : Bool :=
  !(w1.any fun x => r2.contains x || w2.contains x) && !(w2.any fun x => r1.contains x)

def indepAll (bf : Nat → Nat → Bool) (logs : List (Nat × List Nat × List Nat)) : Bool :=
  match logs with
  | [] => true
  | (i, r1, w1) :: rest => (rest.all fun q => bf q.1 i || apartL r1 w1 q.2.1 q.2.2) && indepAll bf rest

section
variable {R : Type} (E : Env) (H : Hints)

/-- one operation, with the places that it reads and writes -/
def stepL {R : Type} (E : Env) (ops : Array Oper) (i : Nat) (st : St) (K : St → List Nat → List Nat → Option R) : Option R :=
  match ops[i]? with
  | none => K st [] []
  | some o => match o.guard with
    | none => execL (guarded E o true) st [] [] fun _ st rs ws => K st rs ws
    | some (j, want) => match dstOf ops j with
      | none => none
      | some g => match st.get g with
        | .val .bool b => if (b : Bool) = true then execL (guarded E o want) (st.set g (.val .bool true)) [2 * g] [] fun _ st rs ws => K st rs ws
            else execL (guarded E o !want) (st.set g (.val .bool false)) [2 * g] [] fun _ st rs ws => K st rs ws
        | .tup [] => execL (guarded E o false) st [2 * g] [] fun _ st rs ws => K st rs ws
        | _ => none

/-- what an operation waits for stands ahead of it -/
def edgesOk (ops : Array Oper) : Bool :=
  (List.range ops.size).all fun i => match ops[i]? with
    | some o => o.after.all fun e => !Region.binds .any e || Nat.blt e.on i
    | none => true

/-- a region whose order is open: in the text's order, and no two that may stand either way touch one thing -/
def drawP (ops : Array Oper) : List Nat → St → List (Nat × List Nat × List Nat) → (St → Option R) → Option R
  | [], st, logs, K => match edgesOk ops && indepAll (fun i j => ((Region.before ops).getD j 0).testBit i) logs with
    | true => K st
    | false => none
  | i :: r, st, logs, K => stepL E ops i st fun st' rs ws => drawP ops r st' ((i, rs, ws) :: logs) K

end

/-- an argument in its slot -/
def inArg (i : Nat) : AV → Pr Unit
  | .val t x => .wr i (.val t x) (.ret ())
  | .eptr t x k => .wr i (.eptr t x k) (.ret ())
  | .own t l => .rh (sh i) fun g _ => .wh (sh i) (g + 2) (.own t l) (.wr i (.lref (sh i) (g + 2) none) (.ret ()))
  | .box fs => do
    let fs' ← inAll (sh i) 0 fs
    .rh (sh i) fun g _ => match Nat.beq g 1 with
      | true => .wh (sh i) 1 (.box fs') (.wr i (.ptr (sh i) 1 0 none) (.ret ()))
      | false => .fail
  | _ => .fail

/-- the homes of what is handed in -/
def homes0 : Nat → List AV → List (Nat × Nat × AV)
  | _, [] => []
  | i, .box _ :: as => (sh i, 1, .undef) :: homes0 (i + 1) as
  | i, _ :: as => homes0 (i + 1) as

def inArgs : Nat → List AV → Pr Unit
  | _, [] => .ret ()
  | i, a :: as => do inArg i a; inArgs (i + 1) as

/-- an answer, to be handed back: by value, or as it is one's own -/
def outR (E : Env) (byVal : Bool) (t : TypeId) (v : AV) : Pr AV :=
  match byVal with
  | true => do
    let ty ← lift (tyOf E.P t)
    let x ← toEl ty v
    pure (.val ty x)
  | false => match v with
    | .nils => do
      match ← lift (tyOf E.P t) with
      | .slice u => pure (.own u [])
      | _ => .fail
    | .lref h g none => do
      match ← home h g with
      | .own u l => .wh h (g + 2) .undef (.ret (.own u l))
      | .val (.slice u) l => pure (.val (.slice u) l)
      | _ => .fail
    | .ptr h g 0 none => do
      match ← home h g with
      | .box fs => .wh h (g + 2) .undef (do let fs' ← outAll fs; pure (.box fs'))
      | _ => .fail
    | .val t x => .ret (.val t x)
    | .nilp => .ret .nilp
    | v => do
      let ty ← lift (tyOf E.P t)
      let x ← toEl ty v
      pure (.val ty x)

def outRs (E : Env) : List Bool → List (TypeId × ResultVar) → Pr (List AV)
  | _, [] => .ret []
  | bs, (t, .tmp s) :: r => .rd s fun v => do
    let v' ← outR E (bs.headD false) t v
    let vs ← outRs E bs.tail r
    pure (v' :: vs)
  | bs, (t, .cell a u) :: r => .rd a fun p => do
    let ty ← lift (tyOf E.P u)
    let v ← loadP ty p
    let v' ← outR E (bs.headD false) t v
    let vs ← outRs E bs.tail r
    pure (v' :: vs)

def tupOf : List AV → AV
  | [v] => v
  | vs => .tup vs

/-- what the things that came in hold at the end -/
def outBoxes : Nat → List AV → Pr (List AV)
  | _, [] => .ret []
  | i, .box _ :: as => .rh (sh i) fun g c => match Nat.beq g 1, c with
    | true, .box fs => .wh (sh i) 3 .undef (do let fs' ← outAll fs; let r ← outBoxes (i + 1) as; pure (.box fs' :: r))
    | _, _ => .fail
  | i, _ :: as => outBoxes (i + 1) as

end Go.Pv
