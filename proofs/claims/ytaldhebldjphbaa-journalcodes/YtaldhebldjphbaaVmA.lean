/-
  A verified evaluator of the program's functions by value, part 1.
  Conditions: none.
-/
import Derived.Orders
import Derived.Tactics
import Derived.Laws.Strings
import Derived.Laws.Rows
import Derived.Laws.CopyRow
import Derived.Laws.IdiomCopy

/-
  The value language: pure values, primitive operations, code, and its evaluator (no heap, no addresses, no draws).
  Conditions: none; definitions alone.
-/
namespace Go.Vm

/-- Pure values. A slice is the list of its elements; `nl` says whether it is nil. A pointer is a path inside the root that the operation names. -/
inductive PV where
  | undef
  | bool (b : Bool)
  | int (k : IntKind) (n : Int)
  | str (s : List UInt8)
  | agg (xs : List PV)
  | slice (nl : Bool) (xs : List PV)
  | tup (xs : List PV)
  | ptr (path : List Nat)
  deriving Inhabited

def getP : List Nat → PV → Option PV
  | [], x => some x
  | i :: p, .agg xs => (xs[i]?).bind (getP p)
  | i :: p, .slice _ xs => (xs[i]?).bind (getP p)
  | _ :: _, _ => none

def setP : List Nat → PV → PV → Option PV
  | [], _, y => some y
  | i :: p, .agg xs, y => (xs[i]?).bind fun x => (setP p x y).map fun z => .agg (xs.set i z)
  | i :: p, .slice nl xs, y => (xs[i]?).bind fun x => (setP p x y).map fun z => .slice nl (xs.set i z)
  | _ :: _, _, _ => none

def bitsI (f : (n : Nat) → BitVec n → BitVec n → BitVec n) (k : IntKind) (a b : Int) : Int :=
  k.wrap (f k.bits (BitVec.ofInt k.bits a) (BitVec.ofInt k.bits b)).toNat

def cmpI (op : BinOp) (a b : Int) : Option Bool :=
  match op with
  | .eql => some (decide (a = b))
  | .neq => some (!decide (a = b))
  | .lss => some (decide (a < b))
  | .leq => some (decide (a ≤ b))
  | .gtr => some (decide (b < a))
  | .geq => some (decide (b ≤ a))
  | _ => none

def binI (op : BinOp) (k : IntKind) (a b : Int) : Option PV :=
  match op with
  | .add => some (.int k (k.wrap (a + b)))
  | .sub => some (.int k (k.wrap (a - b)))
  | .mul => some (.int k (k.wrap (a * b)))
  | .quo => if b = 0 then none else some (.int k (k.wrap (a.tdiv b)))
  | .rem => if b = 0 then none else some (.int k (a.tmod b))
  | .and => some (.int k (bitsI (fun _ x y => x &&& y) k a b))
  | .or => some (.int k (bitsI (fun _ x y => x ||| y) k a b))
  | .xor => some (.int k (bitsI (fun _ x y => x ^^^ y) k a b))
  | .andNot => some (.int k (bitsI (fun _ x y => x &&& ~~~y) k a b))
  | op => (cmpI op a b).map .bool

def binS (op : BinOp) (x y : List UInt8) : Option PV :=
  match op with
  | .add => if x.length + y.length ≤ 9223372036854775807 then some (.str (x ++ y)) else none
  | .eql => some (.bool (x == y))
  | .neq => some (.bool !(x == y))
  | .lss => some (.bool (Op.bytesLess x y))
  | .leq => some (.bool (Op.bytesLess x y || x == y))
  | .gtr => some (.bool !(Op.bytesLess x y || x == y))
  | .geq => some (.bool !(Op.bytesLess x y))
  | _ => none

def shiftI (op : BinOp) (k : IntKind) (a b : Int) : Option PV :=
  if b < 0 then none else
  match op with
  | .shl => some (.int k (k.wrap (a * 2 ^ (min b.toNat k.bits))))
  | .shr => some (.int k (a.fdiv (2 ^ (min b.toNat k.bits))))
  | _ => none

def isShift : BinOp → Bool
  | .shl | .shr => true
  | _ => false

/-- Comparison of ints and strings, arithmetic. -/
def bin (op : BinOp) : PV → PV → Option PV
  | .int k a, .int k' b => if isShift op then shiftI op k a b else if k = k' then binI op k a b else none
  | .str x, .str y => binS op x y
  | _, _ => none

mutual
/-- '==' on bools, ints, strings and aggregates of them. -/
def eqP : PV → PV → Option Bool
  | .bool a, .bool b => some (a == b)
  | .int k a, .int k' b => if k = k' then some (decide (a = b)) else none
  | .str a, .str b => some (a == b)
  | .agg xs, .agg ys => eqPs xs ys
  | _, _ => none
def eqPs : List PV → List PV → Option Bool
  | [], [] => some true
  | x :: xs, y :: ys => (eqP x y).bind fun b => (eqPs xs ys).map fun c => b && c
  | _, _ => none
end

mutual
/-- a value of the kind of another -/
def fits : PV → PV → Bool
  | .bool _, .bool _ => true
  | .int _ _, .int _ _ => true
  | .str _, .str _ => true
  | .agg xs, .agg ys => fitss xs ys
  | _, _ => false
def fitss : List PV → List PV → Bool
  | [], [] => true
  | x :: xs, y :: ys => fits x y && fitss xs ys
  | _, _ => false
end

def un (op : UnOp) : PV → Option PV
  | .int k n => match op with
    | .neg => some (.int k (k.wrap (0 - n)))
    | .xor => some (.int k (bitsI (fun _ x y => x ^^^ y) k (if k.signed then -1 else k.max) n))
    | _ => none
  | .bool b => match op with
    | .not => some (.bool !b)
    | _ => none
  | _ => none

def bytesPV (s : List UInt8) : List PV := s.map fun b => .int .u8 b.toNat

def unbytes : List PV → Option (List UInt8)
  | [] => some []
  | .int .u8 n :: xs => (unbytes xs).map (UInt8.ofNat n.toNat :: ·)
  | _ :: _ => none

def intOf : PV → Option Int
  | .int _ n => some n
  | _ => none

/-- A bound of a slice expression: `none` where Go panics. -/
def bound (x : Option PV) (dflt y : Nat) : Option Nat :=
  match x with
  | none => if dflt ≤ y then some dflt else none
  | some (.int _ n) => if 0 ≤ n ∧ n ≤ y then some n.toNat else none
  | some _ => none

def sub {α : Type} (l : List α) (lo hi : Nat) : List α := (l.take hi).drop lo

def setAll (xs : List PV) : List (Nat × PV) → Option (List PV)
  | [] => some xs
  | (i, y) :: r => if i < xs.length then setAll (xs.set i y) r else none

inductive Prim where
  | mov | bin (op : BinOp) | eqv (neg : Bool) (zero : PV) | isNil (neg : Bool) | un (op : UnOp)
  | toInt (k : IntKind) | toBytes | toStr
  | len | minI | maxI
  | sl (lo hi : Bool)       -- x[lo:hi]
  | sl3 (lo : Bool)         -- x[lo:hi:hi]
  | field (i : Nat) | index
  | build (zero : List PV) (is : List Nat)
  | buildSl (zero : PV) (n : Nat) (is : List Nat)
  | mkSl (zero : PV) (bytes : Nat)
  | app (bytes : Nat)
  | copyTo                  -- the new content of the first operand
  | copyN
  | ext (i : Nat)
  | load                    -- root, pointer
  | fptr (f : Nat)
  | aptr (n : Nat)
  | iptr (base : List Nat)
  | tup
  | idx (n : Nat)           -- the numbers of the operands
  deriving Inhabited

def idxs (n : Nat) : List PV := (List.range n).map fun i => .int .i64 (i : Nat)

def slV (lo hi : Bool) : List PV → Option PV
  | .str s :: bs =>
    (bound (if hi then bs[(if lo then 1 else 0)]? else none) s.length s.length).bind fun h =>
      (bound (if lo then bs[0]? else none) 0 h).map fun l => .str (sub s l h)
  | .slice nl xs :: bs =>
    (bound (if hi then bs[(if lo then 1 else 0)]? else none) xs.length xs.length).bind fun h =>
      (bound (if lo then bs[0]? else none) 0 h).map fun l => .slice nl (sub xs l h)
  | _ => none

def sl3V (lo : Bool) : List PV → Option PV
  | .slice nl xs :: bs =>
    (bs[(if lo then 1 else 0)]?).bind fun h => (bs[(if lo then 2 else 1)]?).bind fun m => (intOf h).bind fun h' => (intOf m).bind fun m' =>
      if h' = m' then (bound (some (.int .i64 h')) 0 xs.length).bind fun h =>
        (bound (if lo then bs[0]? else none) 0 h).map fun l => .slice nl (sub xs l h)
      else none
  | _ => none

def lenV : PV → Option PV
  | .str s => some (.int .i64 s.length)
  | .slice _ xs => some (.int .i64 xs.length)
  | .agg xs => some (.int .i64 xs.length)
  | _ => none

def indexV : PV → PV → Option PV
  | .agg xs, .int _ i => if 0 ≤ i then xs[i.toNat]? else none
  | .str s, .int _ i => if 0 ≤ i then (s[i.toNat]?).map fun b => .int .u8 b.toNat else none
  | _, _ => none

def mkSlV (zero : PV) (bytes : Nat) : PV → PV → Option PV
  | .int _ l, .int _ c =>
    if 0 ≤ l ∧ l ≤ c ∧ c ≤ 9223372036854775807 ∧ c.toNat * bytes ≤ 140737488355328 then some (.slice false (List.replicate l.toNat zero)) else none
  | _, _ => none

def appV (bytes : Nat) : PV → PV → Option PV
  | .slice nl xs, .slice _ ys =>
    if (xs.length + ys.length) * bytes ≤ 140737488355328 then some (.slice (nl && ys.isEmpty) (xs ++ ys)) else none
  | .slice nl xs, .str s =>
    if (xs.length + s.length) * bytes ≤ 140737488355328 then some (.slice (nl && s.isEmpty) (xs ++ bytesPV s)) else none
  | _, _ => none

def aptrV (n : Nat) : PV → PV → Option PV
  | .ptr p, .int _ i => if 0 ≤ i ∧ i < n then some (.ptr (p ++ [i.toNat])) else none
  | _, _ => none

def iptrV (base : List Nat) : PV → PV → Option PV
  | .slice _ xs, .int _ i => if 0 ≤ i ∧ i < xs.length then some (.ptr (base ++ [i.toNat])) else none
  | _, _ => none

def one (f : PV → Option PV) : List PV → Option PV
  | [x] => f x
  | _ => none

def two (f : PV → PV → Option PV) : List PV → Option PV
  | [x, y] => f x y
  | _ => none

def Prim.run : Prim → List PV → Option PV
  | .mov => one some
  | .bin op => two (Vm.bin op)
  | .eqv neg z => two fun x y => if fits z x && fits z y then (eqP x y).map fun b => .bool (b != neg) else none
  | .isNil neg => one fun | .slice nl _ => some (.bool (nl != neg)) | _ => none
  | .un op => one (Vm.un op)
  | .toInt k => one fun | .int _ n => some (.int k (k.wrap n)) | _ => none
  | .toBytes => one fun | .str s => some (.slice false (bytesPV s)) | _ => none
  | .toStr => one fun | .slice _ xs => (unbytes xs).map .str | .str s => some (.str s) | _ => none
  | .len => one lenV
  | .minI => two fun | .int k a, .int _ b => some (.int k (if b < a then b else a)) | _, _ => none
  | .maxI => two fun | .int k a, .int _ b => some (.int k (if a < b then b else a)) | _, _ => none
  | .sl lo hi => slV lo hi
  | .sl3 lo => sl3V lo
  | .field i => one fun | .agg xs => xs[i]? | _ => none
  | .index => two indexV
  | .build zero is => fun xs => if is.length = xs.length then (setAll zero (is.zip xs)).map .agg else none
  | .buildSl zero n is => fun xs => if is.length = xs.length then (setAll (List.replicate n zero) (is.zip xs)).map (.slice false) else none
  | .mkSl zero bytes => two (mkSlV zero bytes)
  | .app bytes => two (appV bytes)
  | .copyTo => two fun | .slice nl xs, .slice _ ys => some (.slice nl (ys.take xs.length ++ xs.drop ys.length)) | _, _ => none
  | .copyN => two fun | .slice _ xs, .slice _ ys => some (.int .i64 (min ys.length xs.length)) | _, _ => none
  | .ext i => one fun | .tup xs => xs[i]? | _ => none
  | .load => two fun | x, .ptr p => getP p x | _, _ => none
  | .fptr f => one fun | .ptr p => some (.ptr (p ++ [f])) | _ => none
  | .aptr n => two (aptrV n)
  | .iptr base => two (iptrV base)
  | .tup => fun xs => some (.tup xs)
  | .idx n => fun xs => if xs.length = n then some (.agg (idxs n)) else none

/-- An operand. -/
inductive VX where
  | tmp (t : Nat)
  | const (v : PV)
  | deref (root : Nat) (ptr : Option Nat)
  deriving Inhabited

inductive VRhs where
  | prim (p : Prim) (xs : List VX)
  | pick (c x y : VX)
  | store (root : Nat) (ptr : Option Nat) (x : VX)
  | call (f : Nat) (nres : Nat) (xs : List VX) (refs : List (Nat × Option Nat))
  | copy (root : Nat) (x y : VX)      -- copy(x, y), x the whole content of the root
  | storeM (l : List (Nat × List (Option (List Nat)))) (p x : VX)      -- a store through one of several pointers: for each root the paths
  deriving Inhabited

structure VOp where
  dst : Option Nat
  guard : Option (Nat × Bool)
  rhs : VRhs
  deriving Inhabited

inductive VCode where
  | skip
  | region (ops : List VOp) (kill : List Nat)
  | seq (a b : VCode)
  | cond (c : VX) (a b : VCode)
  | block (id : Nat) (c : VCode)
  | loop (kill : List Nat) (c : VCode)
  | exit (id : Nat)
  | ret
  deriving Inhabited

inductive VExit where
  | normal
  | exit (id : Nat)
  | ret
  deriving Inhabited

abbrev St := List PV

def get (s : St) (t : Nat) : PV := (s[t]?).getD .undef

def pathAt (s : St) : Option Nat → Option (List Nat)
  | none => some []
  | some t => match get s t with
    | .ptr p => some p
    | _ => none

/-- the content of a temporary that is defined -/
def have? (s : St) (t : Nat) : Option PV := match get s t with
  | .undef => none
  | x => some x

def VX.eval (s : St) : VX → Option PV
  | .tmp t => have? s t
  | .const v => some v
  | .deref r p => (pathAt s p).bind fun q => (have? s r).bind (getP q)

def evals (s : St) : List VX → Option (List PV)
  | [] => some []
  | x :: xs => (x.eval s).bind fun v => (evals s xs).map (v :: ·)

def setOpt (s : St) (d : Option Nat) (v : PV) : St :=
  match d with
  | some d => s.set d v
  | none => s

/-- the values at the pointers `refs` are replaced -/
def setRefs (s : St) : List (Nat × Option Nat) → List PV → Option St
  | [], [] => some s
  | (r, p) :: rs, y :: ys => (pathAt s p).bind fun q => (have? s r).bind fun x => (setP q x y).bind fun z => setRefs (s.set r z) rs ys
  | _, _ => none

def resultOf (n : Nat) (l : List PV) : PV :=
  match n, l with
  | 1, x :: _ => x
  | n, l => .tup (l.take n)

/-- the content of a root behind a store through pointer number `j` -/
def pickM (ps : List (Option (List Nat))) (j y v : PV) : Option PV :=
  match j with
  | .int _ j => (match ps[j.toNat]? with
    | some (some q) => setP q y v
    | some none => some y
    | none => none)
  | _ => none

def updM (j v : PV) : List (Nat × List (Option (List Nat))) → St → Option St
  | [], s => some s
  | (r, ps) :: l, s => (have? s r).bind fun y => (pickM ps j y v).bind fun z => updM j v l (s.set r z)

abbrev Env := Nat → List PV → Option (List PV)

def VRhs.run (C : Env) (s : St) (d : Option Nat) : VRhs → Option St
  | .prim p xs => (evals s xs).bind fun vs => (p.run vs).map fun v => setOpt s d v
  | .pick c x y => match c.eval s with
    | some (.bool b) => ((if b then x else y).eval s).map fun v => setOpt s d v
    | _ => none
  | .store r p x => (x.eval s).bind fun v => (pathAt s p).bind fun q => (have? s r).bind fun y => (setP q y v).map fun z => s.set r z
  | .call f n xs refs => (evals s xs).bind fun vs => (C f vs).bind fun rs =>
      (setRefs s refs (rs.drop n)).map fun s => setOpt s d (resultOf n rs)
  | .copy r x y => (x.eval s).bind fun u => (y.eval s).bind fun v => (Prim.copyTo.run [u, v]).bind fun z => (Prim.copyN.run [u, v]).map fun n => setOpt (s.set r z) d n
  | .storeM l p x => (x.eval s).bind fun v => (p.eval s).bind fun j => updM j v l s

def VOp.run (C : Env) (o : VOp) (s : St) : Option St :=
  match o.guard with
  | none => o.rhs.run C s o.dst
  | some (g, want) => match get s g with
    | .bool b => if b = want then o.rhs.run C s o.dst else some (setOpt s o.dst .undef)
    | .undef => some (setOpt s o.dst .undef)
    | _ => none

def runOps (C : Env) : List VOp → St → Option St
  | [], s => some s
  | o :: os, s => (o.run C s).bind (runOps C os)

def killAll (s : St) : List Nat → St
  | [] => s
  | d :: ds => killAll (s.set d .undef) ds

def iter (f : St → Option (VExit × St)) : Nat → St → Option (VExit × St)
  | 0, _ => none
  | n + 1, s => (f s).bind fun r => match r with
    | (.normal, s') => iter f n s'
    | r => some r

/-- The meaning of code: `C` the functions, `n` the bound on the rounds of each loop. -/
def den (C : Env) (n : Nat) : VCode → St → Option (VExit × St)
  | .skip, s => some (.normal, s)
  | .region ops kill, s => (runOps C ops s).map fun s' => (.normal, killAll s' kill)
  | .seq a b, s => (den C n a s).bind fun r => match r with
    | (.normal, s') => den C n b s'
    | r => some r
  | .cond c a b, s => match c.eval s with
    | some (.bool true) => den C n a s
    | some (.bool false) => den C n b s
    | _ => none
  | .block id c, s => (den C n c s).map fun r => match r with
    | (.exit id', s') => if id' = id then (.normal, s') else r
    | r => r
  | .loop kill c, s => iter (fun s => den C n c (killAll s kill)) n s
  | .exit id, s => some (.exit id, s)
  | .ret, s => some (.ret, s)

structure VFunc where
  n : Nat
  body : VCode
  results : List Nat
  refs : List Nat
  deriving Inhabited

def allDef : List PV → Option (List PV)
  | [] => some []
  | .undef :: _ => none
  | x :: xs => (allDef xs).map (x :: ·)

def VFunc.run (C : Env) (n : Nat) (F : VFunc) (xs : List PV) : Option (List PV) :=
  (den C n F.body (xs ++ List.replicate (F.n - xs.length) .undef)).bind fun r => match r with
    | (.exit _, _) => none
    | (_, s) => allDef ((F.results ++ F.refs).map (get s))

/-- The functions of a table, `k` calls deep, loops of at most `k` rounds. -/
def call (T : Nat → Option VFunc) : Nat → Env
  | 0, _, _ => none
  | k + 1, f, xs => (T f).bind fun F => F.run (call T k) k xs

end Go.Vm

/-
  The static side: types with ownership, what is known of each temporary, and the translation of a function into the value language.
  Conditions: none; definitions alone.
-/
namespace Go.Vm

/-- How a slice is held: shared (never written), shared with no spare room, owned, or not to be looked at. -/
inductive Md where
  | sh | full | own | dead
  deriving DecidableEq, Inhabited, Repr

inductive Ty where
  | sc
  | agg (l : List Ty)
  | sl (m : Md) (e : Ty)
  deriving Inhabited, Repr

mutual
def Ty.beq : Ty → Ty → Bool
  | .sc, .sc => true
  | .agg l, .agg l' => Ty.beqs l l'
  | .sl m e, .sl m' e' => decide (m = m') && Ty.beq e e'
  | _, _ => false
def Ty.beqs : List Ty → List Ty → Bool
  | [], [] => true
  | x :: xs, y :: ys => Ty.beq x y && Ty.beqs xs ys
  | _, _ => false
end

mutual
def Ty.size : Ty → Nat
  | .sc => 1
  | .agg l => Ty.sizes l
  | .sl _ _ => 1
def Ty.sizes : List Ty → Nat
  | [] => 0
  | t :: ts => t.size + Ty.sizes ts
end

mutual
/-- Each slice's mode turned by its place among the cells. -/
def Ty.modAt (f : Nat → Md → Md) : Nat → Ty → Ty
  | _, .sc => .sc
  | p, .agg l => .agg (Ty.modsAt f p l)
  | p, .sl m e => .sl (f p m) e
def Ty.modsAt (f : Nat → Md → Md) : Nat → List Ty → List Ty
  | _, [] => []
  | p, t :: ts => Ty.modAt f p t :: Ty.modsAt f (p + t.size) ts
end

def toSh : Md → Md
  | .dead => .dead
  | _ => .sh

/-- all owned or full slices shared -/
def Ty.sh (t : Ty) : Ty := t.modAt (fun _ m => toSh m) 0

/-- every mode shared: the bare shape -/
def Ty.er (t : Ty) : Ty := t.modAt (fun _ _ => .sh) 0

mutual
def Ty.all (f : Md → Bool) : Ty → Bool
  | .sc => true
  | .agg l => Ty.alls f l
  | .sl m _ => f m
def Ty.alls (f : Md → Bool) : List Ty → Bool
  | [] => true
  | t :: ts => t.all f && Ty.alls f ts
end
def Ty.noOwn (t : Ty) : Bool := t.all fun m => m == .sh || m == .full
def Ty.noDead (t : Ty) : Bool := t.all fun m => m != .dead
def Ty.isSh (t : Ty) : Bool := t.all fun m => m == .sh
def Ty.flat (t : Ty) : Bool := t.all fun _ => false

def Ty.isAgg : Ty → Bool
  | .agg _ => true
  | _ => false

/-- the part at a path through aggregates, and its place -/
def Ty.at : List Nat → Ty → Option (Ty × Nat)
  | [], t => some (t, 0)
  | i :: p, .agg l => (l[i]?).bind fun t => (Ty.at p t).map fun (u, o) => (u, Ty.sizes (l.take i) + o)
  | _ :: _, _ => none

def Ty.put : List Nat → Ty → Ty → Option Ty
  | [], _, u => some u
  | i :: p, .agg l, u => (l[i]?).bind fun t => (Ty.put p t u).map fun t' => .agg (l.set i t')
  | _ :: _, _, _ => none

/-- the part at a path in which `none` is an index that is not known; all elements of an array are alike -/
def Ty.atAny : List (Option Nat) → Ty → Option Ty
  | [], t => some t
  | some i :: p, .agg l => (l[i]?).bind (Ty.atAny p)
  | none :: p, .agg (t :: ts) => if ts.all (Ty.beq t) then Ty.atAny p t else none
  | _ :: _, _ => none

def static : List (Option Nat) → Option (List Nat)
  | [] => some []
  | some i :: p => (static p).map (i :: ·)
  | none :: _ => none

/-- a slice of pointers, a pointer to one of its elements, one of the pointers -/
inductive MK where
  | sl | el | pt
  deriving DecidableEq, Inhabited, Repr

/-- What is known of a temporary. The last number of a reference is its root's version at which it was made. -/
inductive AV where
  | dead
  | val (ty : Ty)
  | tup (tys : List Ty)
  | alias (ty : Ty) (root pos : Nat) (path : Option (List Nat)) (c : Nat)
  | box (ty : Ty)
  /-- a pointer into a box, or (`k`) a function value that holds it alone -/
  | bptr (root : Nat) (path : List (Option Nat)) (d : Nat) (k : Option (Nat × Bool))
  | eptr (root : Nat) (hp : List Nat) (path : List (Option Nat)) (h : Nat)
  /-- pointers into boxes: root, path, the root's definition -/
  | mp (k : MK) (ts : List (Nat × List Nat × Nat))
  deriving Inhabited, Repr

/-- `c` counts the changes of its content, `h` those of its slice headers, `d` its definitions -/
structure En where
  av : AV
  c : Nat
  h : Nat
  d : Nat
  deriving Repr

instance : Inhabited En := ⟨⟨.dead, 0, 0, 0⟩⟩

abbrev Vw := Nat → En

/-- what an operation does to a root: its new description, and whether a header changed -/
structure Up where
  root : Nat
  av : AV
  header : Bool
  deriving Repr, Inhabited

/-! ### types of the program -/
mutual
def matchCells : PV → List Value → Option (List Value)
  | .bool b, .bool c :: r => if b == c then some r else none
  | .int k n, .int k' n' :: r => if k = k' ∧ n = n' then some r else none
  | .str [], .string s :: r => if s.data.toList.isEmpty then some r else none
  | .slice true [], .slice none 0 0 :: r => some r
  | .agg xs, r => matchCellss xs r
  | _, _ => none
def matchCellss : List PV → List Value → Option (List Value)
  | [], r => some r
  | x :: xs, r => (matchCells x r).bind (matchCellss xs)
end

/-- type and zero value; the layout is looked at -/
def tyz (P : Program) : Nat → TypeId → Option (Ty × PV)
  | 0, _ => none
  | k + 1, t => match P.info? t, P.underlying t with
    | some i, some u =>
      let r : Option (Ty × PV) := match u with
        | .bool => some (.sc, .bool false)
        | .int kk => some (.sc, .int kk 0)
        | .string => some (.sc, .str [])
        | .slice e => (tyz P k e).bind fun (te, _) => if 0 < te.size then some (.sl .sh te, .slice true []) else none
        | .array n e => (tyz P k e).map fun (te, z) => (.agg (List.replicate n te), .agg (List.replicate n z))
        | .struct fs =>
          (fs.toList.foldl (fun acc f => acc.bind fun (ts, zs) => (tyz P k f.type).bind fun (tf, z) =>
            if f.offset = Ty.sizes ts then some (ts ++ [tf], zs ++ [z]) else none) (some ([], []))).map fun (ts, zs) => (.agg ts, .agg zs)
        | _ => none
      r.bind fun (ty, z) => if i.size = ty.size then
          (match i.zero with
           | some v => (matchCells z v.cells.toList).bind fun rest => if rest.isEmpty then some (ty, z) else none
           | none => none)
        else none
    | _, _ => none

def depth : Nat := 12
def tyOf (P : Program) (t : TypeId) : Option Ty := (tyz P depth t).map (·.1)
def bytesOf (P : Program) (t : TypeId) : Option Nat := (P.info? t).map (·.bytes)

def constPV : Value → Option PV
  | .bool b => some (.bool b)
  | .int k n => some (.int k n)
  | .string s => some (.str s.data.toList)
  | .slice none 0 0 => some (.slice true [])
  | _ => none

/-- modes of a function's parameters -/
inductive PM where
  | val (ty : Ty)
  | ref (tin tout : Ty)
  deriving Inhabited, Repr

structure Sig where
  params : List PM
  results : List Ty
  /-- a hint for the function's own text: several results of a call are taken as shared -/
  shTup : Bool := false
  deriving Inhabited, Repr

abbrev Sigs := Nat → Option Sig

/-- where a value that is read lies: root, place, path -/
abbrev Org := Option (Nat × Nat × Option (List Nat))

def alive (e : En) : Bool := match e.av with
  | .dead => false
  | _ => true

def rd (P : Program) (S : Vw) (t : TypeId) : Operand → Option (VX × Ty × Org)
  | .tmp i => match (S i).av with
    | .val ty => if ty.noDead then some (.tmp i, ty, some (i, 0, some [])) else none
    | .alias ty ρ pos p c => if ty.noDead && (S ρ).c == c && alive (S ρ) then some (.tmp i, ty, some (ρ, pos, p)) else none
    | _ => none
  | .const v => (constPV v).bind fun x => match x with
    | .slice _ _ => (tyOf P t).bind fun ty => match ty with
      | .sl _ e => some (.const x, .sl .own e, none)
      | _ => none
    | _ => some (.const x, .sc, none)
  | _ => none

inductive Pk where
  | b (path : List (Option Nat))
  | e (hp : List Nat) (path : List (Option Nat))
  deriving Inhabited

/-- a pointer: root, what kind, and the temporary that holds the path (`none`: the box itself) -/
def rdP (S : Vw) : Operand → Option (Nat × Pk × Option Nat)
  | .tmp i => match (S i).av with
    | .box _ => some (i, .b [], none)
    | .bptr r p d k => if k.isNone && ((S r).d == d && alive (S r)) then some (r, .b p, some i) else none
    | .eptr r hp p h => if (S r).h == h && alive (S r) then some (r, .e hp p, some i) else none
    | _ => none
  | _ => none

def ptrX : Option Nat → VX
  | none => .const (.ptr [])
  | some i => .tmp i

/-- the type of a root's content -/
def rootTy (S : Vw) (r : Nat) : Option Ty := match (S r).av with
  | .box ty => some ty
  | .val ty => some ty
  | .alias ty _ _ _ _ => some ty
  | _ => none

/-- an alias is not out of date -/
def fresh (S : Vw) (r : Nat) : Bool := match (S r).av with
  | .alias _ ρ _ _ c => (S ρ).c == c && alive (S ρ)
  | _ => true

/-- the type at a pointer -/
def ptrTy (S : Vw) (r : Nat) : Pk → Option Ty
  | .b p => match (S r).av with
    | .box ty => Ty.atAny p ty
    | _ => none
  | .e h p => if fresh S r then (rootTy S r).bind fun ty => (Ty.at h ty).bind fun (t, _) => match t with
    | .sl m e => if m == .dead then none else Ty.atAny p e
    | _ => none else none

def inRange (pos n p : Nat) : Bool := pos ≤ p && p < pos + n

def ownTo (pos n : Nat) (m : Md) : Nat → Md → Md := fun p x => if inRange pos n p && x == .own then m else x

/-- the owned slices at `[pos, pos + n)` of root `r` become `m` -/
def setOwn (S : Vw) (r pos n : Nat) (m : Md) : Option Up :=
  match (S r).av with
  | .val ty => some ⟨r, .val (ty.modAt (ownTo pos n m) 0), m == .dead⟩
  | .box ty => some ⟨r, .box (ty.modAt (ownTo pos n m) 0), m == .dead⟩
  | .tup tys => some ⟨r, .tup (Ty.modsAt (ownTo pos n m) 0 tys), m == .dead⟩
  | _ => none

/-- The value is taken into a new place, of root `d`: what becomes of its root, and the type that it has there. -/
def take (S : Vw) (d : Option Nat) (keep : Nat → Bool) (ty : Ty) (org : Org) : Option (List Up × Ty) :=
  if ty.noOwn then some ([], ty.sh) else
  match org with
  | none => some ([], ty)
  | some (r, pos, _) =>
    if some r = d && pos == 0 then some ([], ty)
    else if keep r then (setOwn S r pos ty.size .sh).map fun u => ([u], ty.sh)
    else (setOwn S r pos ty.size .dead).map fun u => ([u], ty)

/-- The value becomes shared, wherever it lies. -/
def share (S : Vw) (ty : Ty) (org : Org) : Option (List Up) :=
  if ty.noOwn then some [] else
  match org with
  | none => some []
  | some (r, pos, _) => (setOwn S r pos ty.size .sh).map fun u => [u]

def putUp (S : Vw) (u : Up) : Vw := fun i => if i = u.root then ⟨u.av, (S i).c + 1, (if u.header then (S i).h + 1 else (S i).h), (S i).d⟩ else S i
def putUps (S : Vw) : List Up → Vw
  | [] => S
  | u :: us => putUps (putUp S u) us

/-- what an operation comes to: its form, what its temporary is then, what becomes of the roots that it changes -/
abbrev Chk := VRhs × AV × List Up

def prim1 (p : Prim) (xs : List VX) (a : AV) : Chk := (.prim p xs, a, [])

/-- parts of an aggregate or a slice literal: each taken or shared -/
def parts (P : Program) (keep : Nat → Bool) (shared : Bool) : Vw → List (Operand × TypeId) → Option (List VX × List Ty × List Up)
  | _, [] => some ([], [], [])
  | S, (x, t) :: l => (rd P S t x).bind fun (v, ty, org) =>
    (if shared then (share S ty org).map fun e => (e, ty.sh) else take S none keep ty org).bind fun (e, ty') =>
      (parts P keep shared (putUps S e) l).map fun (vs, ts, e') => (v :: vs, ty' :: ts, e ++ e')

def isArray (P : Program) (t : TypeId) : Option (Nat × TypeId) := match P.underlying t with
  | some (.array n e) => some (n, e)
  | _ => none
def isSlice (P : Program) (t : TypeId) : Option TypeId := match P.underlying t with
  | some (.slice e) => some e
  | _ => none
def isString (P : Program) (t : TypeId) : Bool := match P.underlying t with
  | some .string => true
  | _ => false
def isInt (P : Program) (t : TypeId) : Option IntKind := match P.underlying t with
  | some (.int k) => some k
  | _ => none
def isBool (P : Program) (t : TypeId) : Bool := match P.underlying t with
  | some .bool => true
  | _ => false
def isStruct (P : Program) (t : TypeId) : Bool := match P.underlying t with
  | some (.struct _) => true
  | _ => false

def setPos (l : List Ty) : List (Nat × Ty) → Option (List Ty)
  | [] => some l
  | (i, t) :: r => if ((l[i]?).map fun u => u.sh.beq t.sh) == some true then setPos (l.set i t) r else none

/-- `==` of two aggregates: the type has only comparable parts that the model compares -/
def eqTy (P : Program) : Nat → TypeId → Bool
  | 0, _ => false
  | k + 1, t => match P.underlying t with
    | some .bool | some (.int _) | some .string => true
    | some (.array _ e) => eqTy P k e
    | some (.struct fs) => !(P.stoodInHeld t) && fs.toList.all fun f => f.name != "_" && eqTy P k f.type
    | _ => false

def matchesTy (P : Program) (t : TypeId) (ty : Ty) : Bool := ((tyOf P t).map fun u => ty.sh.beq u) == some true

/-- arguments of a call: values, pointers (root, temporary, path, type behind the call), owned roots that are looked at, roots that give away -/
def argsOf (P : Program) : Vw → List (Operand × TypeId × PM) → Option (List VX × List (Nat × Option Nat × Ty) × List (Nat × Nat × Nat) × List Up)
  | _, [] => some ([], [], [], [])
  | S, (x, t, .val ty) :: l => (rd P S t x).bind fun (v, ty', org) => if ty'.sh.beq ty.sh then
      (if ty.isSh then
        (argsOf P S l).map fun (vs, rs, os, us) => (v :: vs, rs, (match org with | some (r, pos, _) => if ty'.noOwn then os else (r, pos, ty'.size) :: os | none => os), us)
       else if ty'.beq ty then (match org with
        | none => some []
        | some (r, pos, _) => (setOwn S r pos ty'.size .dead).map fun u => [u]).bind fun e =>
          (argsOf P (putUps S e) l).map fun (vs, rs, os, us) => (v :: vs, rs, os, e ++ us)
       else none) else none
  | S, (x, _, .ref tin tout) :: l => (rdP S x).bind fun (r, k, i) => match k with
    | .b [] => match (S r).av with
      | .box ty => if ty.beq tin && tin.er.beq tout.er && tin.noDead then (argsOf P S l).map fun (vs, rs, os, us) => (.deref r i :: vs, (r, i, tout) :: rs, os, us) else none
      | _ => none
    | _ => none

def outRefs : List (Nat × Option Nat × Ty) → List Up
  | [] => []
  | (r, _, tout) :: l => ⟨r, .box tout, true⟩ :: outRefs l

def shareAll (S : Vw) : List (Nat × Nat × Nat) → Option (List Up)
  | [] => some []
  | (r, pos, n) :: l => (setOwn S r pos n .sh).bind fun u => (shareAll (putUp S u) l).map (u :: ·)

mutual
def Ty.noSl : Ty → Bool
  | .sc => true
  | .agg l => Ty.noSls l
  | .sl _ _ => false
def Ty.noSls : List Ty → Bool
  | [] => true
  | t :: ts => t.noSl && Ty.noSls ts
end
mutual
/-- nothing of it is shared with anybody -/
def Ty.lone : Ty → Bool
  | .sc => true
  | .agg l => Ty.lones l
  | .sl m e => m == .own && e.noSl
def Ty.lones : List Ty → Bool
  | [] => true
  | t :: ts => t.lone && Ty.lones ts
end
def noShare (l : List Ty) : Bool := l.all Ty.lone

def nodupN : List Nat → Bool
  | [] => true
  | a :: l => !l.contains a && nodupN l

def hasBody (P : Program) (f : FuncId) : Bool := match P.funcs[f]? with
  | some fn => fn.body.isSome && fn.name != "runtime.NumGoroutine"
  | none => false

def chkFunc (P : Program) (sg : Sigs) (sh : Bool) (S : Vw) (f : FuncId) (c : Call) : Option Chk :=
  (sg f).bind fun g =>
    if c.args.toList.length = g.params.length ∧ c.argTypes.toList.length = g.params.length ∧ hasBody P f = true then
      (argsOf P S (c.args.toList.zip (c.argTypes.toList.zip g.params))).bind fun (vs, rs, os, us) =>
        let roots := rs.map (·.1)
        if nodupN roots && os.all (fun o => !roots.contains o.1 && us.all fun u => u.root != o.1) && us.all (fun u => !roots.contains u.root) then
          (if os.isEmpty || (noShare g.results && rs.all fun r => r.2.2.lone) then some [] else shareAll (putUps S us) os).map fun e1 =>
              let d : AV := match g.results with
                | [t] => .val t
                | ts => .tup (if sh then ts.map Ty.sh else ts)
              (.call f g.results.length vs (rs.map fun r => (r.1, r.2.1)), d, us ++ e1 ++ outRefs rs)
        else none
    else none

def sameElems : Ty → Ty → Bool
  | .sl _ a, .sl _ b => a.beq b
  | _, _ => false
def isOwnSl : Ty → Bool
  | .sl .own _ => true
  | _ => false

def chkAppend (P : Program) (S : Vw) (x y : Operand) (t t' : TypeId) : Option Chk :=
  (isSlice P t).bind fun e => (bytesOf P e).bind fun bytes => (rd P S t x).bind fun (v, ty, org) => (rd P S t' y).bind fun (u, ty', _) =>
    if (if isString P t' then isInt P e == some .u8
        else (isSlice P t').isSome && sameElems ty ty') && matchesTy P t ty && matchesTy P t' ty' && decide (0 < bytes) then
      match ty with
      | .sl .full e' => some (prim1 (.app bytes) [v, u] (.val (.sl .sh e')))
      | .sl .own e' => match org with
        | none => some (prim1 (.app bytes) [v, u] (.val (.sl .own e')))
        | some (r, pos, _) => (setOwn S r pos 1 .dead).map fun w => (.prim (.app bytes) [v, u], .val (.sl .own e'), [w])
      | _ => none
    else none

def chkCopy (P : Program) (S : Vw) (x y : Operand) (t t' : TypeId) : Option Chk :=
  (rd P S t x).bind fun (v, ty, org) => (rd P S t' y).bind fun (u, ty', _) =>
    if (isSlice P t').isSome && matchesTy P t ty && matchesTy P t' ty' && isOwnSl ty && sameElems ty ty' then
      match org with
      | some (r, 0, some []) => (match (S r).av with
        | .val tr => if isOwnSl tr then some (.copy r v u, .val .sc, [⟨r, .val tr, false⟩]) else none
        | _ => none)
      | _ => none
    else none

/-- a function value is handed on -/
def chkClo (S : Vw) (i : Nat) : Option Chk :=
  match (S i).av with
  | .bptr r p d k => if (S r).d == d && alive (S r) then some (prim1 .mov [.tmp i] (.bptr r p d k)) else none
  | .mp k ts => some (prim1 .mov [.tmp i] (.mp k ts))
  | _ => none
def isClo : AV → Bool
  | .bptr _ _ _ k => k.isSome
  | .mp _ _ => true
  | _ => false
/-- pointers to several places -/
def mpOf (S : Vw) : Operand → Option (Nat × MK × List (Nat × List Nat × Nat))
  | .tmp i => match (S i).av with
    | .mp k ts => some (i, k, ts)
    | _ => none
  | _ => none
def isPtrTy (P : Program) (t : TypeId) : Bool := match P.underlying t with
  | some (.pointer _) => true
  | _ => false
/-- the place that an operand points to -/
def ptrAt (S : Vw) : Operand → Option (Nat × List Nat × Nat)
  | .tmp i => match (S i).av with
    | .bptr r p d k => if k.isNone && ((S r).d == d && alive (S r)) then (static p).map fun q => (r, q, d) else none
    | .box _ => some (i, [], (S i).d)
    | _ => none
  | _ => none
def ptrsAt (S : Vw) : List Operand → Option (List (Nat × List Nat × Nat))
  | [] => some []
  | x :: l => (ptrAt S x).bind fun t => (ptrsAt S l).map (t :: ·)
def tmpX : Operand → VX
  | .tmp i => .tmp i
  | _ => .const .undef
def chkBuildSliceM (P : Program) (S : Vw) (t : TypeId) (n : Nat) (ps : List (Nat × Operand)) : Option Chk :=
  (isSlice P t).bind fun e => if isPtrTy P e && ((P.info? e).map (·.size) == some 1) && (match (P.info? e).bind (·.zero) with | some v => v.cells.size == 1 | none => false) && ps.map (·.1) == List.range n && decide (n ≤ 1000) && decide (0 < n) then
    (ptrsAt S (ps.map (·.2))).map fun ts => prim1 (.idx n) ((ps.map (·.2)).map tmpX) (.mp .sl ts) else none
def chkIndexAddrM (P : Program) (S : Vw) (t : TypeId) (i : Nat) (ts : List (Nat × List Nat × Nat)) (ix : Operand) : Option Chk :=
  (isSlice P t).bind fun e => if (P.info? e).map (·.size) == some 1 then
    (rd P S 0 ix).bind fun (u, ti, _) => match ti with
      | .sc => some (prim1 .index [.tmp i, u] (.mp .el ts))
      | _ => none
    else none
def rootsM : List (Nat × List Nat × Nat) → List Nat
  | [] => []
  | t :: ts => if (rootsM ts).contains t.1 then rootsM ts else t.1 :: rootsM ts
def okTgt (S : Vw) (t : Nat × List Nat × Nat) : Bool := (S t.1).d == t.2.2 && (match (S t.1).av with
  | .box ty => (match Ty.at t.2.1 ty with | some (.sc, _) => true | _ => false)
  | _ => false)
def chkStoreM (P : Program) (S : Vw) (t : TypeId) (i : Nat) (ts : List (Nat × List Nat × Nat)) (y : Operand) : Option Chk :=
  (rd P S t y).bind fun (v, ty, _) => match ty with
    | .sc => if matchesTy P t .sc && ts.all (okTgt S) then
        some (.storeM ((rootsM ts).map fun r => (r, ts.map fun x => if x.1 = r then some x.2.1 else none)) (.tmp i) v, .dead, (rootsM ts).map fun r => ⟨r, (S r).av, true⟩)
      else none
    | _ => none
def isDeref (r : Nat) : VX → Bool
  | .deref r' p => r' == r && p.isNone
  | _ => false
/-- the box of a function value is looked at through that value -/
def viaX (r i : Nat) (x : VX) : VX := if isDeref r x then .deref r (some i) else x
def viaRhs (r i : Nat) : VRhs → Option VRhs
  | .call f n xs refs => if xs.any (isDeref r) then some (.call f n (xs.map (viaX r i)) refs) else none
  | _ => none
/-- a call of a function value, as a call of the function -/
def cloCall (c : Call) (f : Nat) (b : Bool) (r : Nat) : Call :=
  if b then { c with callee := .value (.func f), args := #[.tmp r] ++ c.args, argTypes := #[0] ++ c.argTypes }
  else { c with callee := .value (.func f), args := c.args.push (.tmp r), argTypes := c.argTypes.push 0 }

def chkCall (P : Program) (sg : Sigs) (sh : Bool) (S : Vw) (c : Call) : Option Chk :=
  match c.callee with
  | .value (.func f) => chkFunc P sg sh S f c
  | .value (.tmp i) => match (S i).av with
    | .bptr r p d k => if p.isEmpty && ((S r).d == d && alive (S r)) then k.bind fun fb => (chkFunc P sg sh S fb.1 (cloCall c fb.1 fb.2 r)).bind fun x => (viaRhs r i x.1).map fun y => (y, x.2) else none
    | _ => none
  | .builtin b => match b, c.args.toList, c.argTypes.toList with
    | .len, [x], [t] => if (mpOf S x).isSome then (mpOf S x).bind fun (i, k, _) => if k = .sl && (isSlice P t).isSome then some (prim1 .len [.tmp i] (.val .sc)) else none else (rd P S t x).bind fun (v, ty, _) => if (isString P t || (isSlice P t).isSome || (isArray P t).isSome) && matchesTy P t ty then some (prim1 .len [v] (.val .sc)) else none
    | .min, [x, y], [t, t'] => (rd P S t x).bind fun (v, _, _) => (rd P S t' y).bind fun (u, _, _) => if (isInt P t).isSome && isInt P t == isInt P t' then some (prim1 .minI [v, u] (.val .sc)) else none
    | .max, [x, y], [t, t'] => (rd P S t x).bind fun (v, _, _) => (rd P S t' y).bind fun (u, _, _) => if (isInt P t).isSome && isInt P t == isInt P t' then some (prim1 .maxI [v, u] (.val .sc)) else none
    | .append, [x, y], [t, t'] => chkAppend P S x y t t'
    | .copy, [x, y], [t, t'] => chkCopy P S x y t t'
    | _, _, _ => none
  | _ => none

def rdO (P : Program) (S : Vw) : Option Operand → Option (List VX)
  | none => some []
  | some b => (rd P S 0 b).map fun (u, _, _) => [u]

/-- a pointer is handed on -/
def chkPtr (S : Vw) (i : Nat) : Option Chk :=
  match (S i).av with
  | .box _ => some (prim1 .mov [.const (.ptr [])] (.bptr i [] (S i).d none))
  | .bptr r p d k => if k.isNone && ((S r).d == d && alive (S r)) then some (prim1 .mov [.tmp i] (.bptr r p d none)) else none
  | .eptr r hp p h => if (S r).h == h && alive (S r) then some (prim1 .mov [.tmp i] (.eptr r hp p h)) else none
  | _ => none

/-- the box whose pointer an operand is -/
def boxRoot (S : Vw) : Operand → Option (Nat × Option Nat)
  | .tmp i => match (S i).av with
    | .box _ => some (i, none)
    | .bptr r p d k => if (k.isNone && p.isEmpty) && ((S r).d == d && alive (S r)) then some (r, some i) else none
    | _ => none
  | _ => none
def chkMakeFunc (S : Vw) (fn : Fn) (first caps : List Operand) : Option Chk := match fn, first, caps with
  | .func f, [x], [] => (boxRoot S x).map fun (r, i) => prim1 .mov [ptrX i] (.bptr r [] (S r).d (some (f, true)))
  | .func f, [], [x] => (boxRoot S x).map fun (r, i) => prim1 .mov [ptrX i] (.bptr r [] (S r).d (some (f, false)))
  | _, _, _ => none

def isPtr : AV → Bool
  | .box _ | .eptr .. => true
  | .bptr _ _ _ k => k.isNone
  | _ => false

/-- what a temporary is that is handed a value as it is read -/
def readAV (S : Vw) (ty : Ty) (org : Org) : AV := if ty.noOwn then .val ty else match org with
  | some (r, pos, p) => .alias ty r pos p (S r).c
  | none => .val ty

def chkMove (P : Program) (S : Vw) (t : TypeId) (x : Operand) : Option Chk :=
  match x with
  | .tmp i => if isPtr (S i).av then chkPtr S i else if isClo (S i).av then chkClo S i else match (S i).av with
    | .tup ts => if ts.all Ty.noOwn then some (prim1 .mov [.tmp i] (.tup ts)) else (setOwn S i 0 (Ty.sizes ts) .dead).map fun u => (.prim .mov [.tmp i], .tup ts, [u])
    | _ => (rd P S t x).map fun (v, ty, org) => prim1 .mov [v] (readAV S ty org)
  | x => (rd P S t x).map fun (v, ty, _) => prim1 .mov [v] (.val ty)

def chkAssign (P : Program) (S : Vw) (keep : Nat → Bool) (d : Option Nat) (t : TypeId) (x : Operand) : Option Chk :=
  match x with
  | .tmp i => if isPtr (S i).av then chkPtr S i else if isClo (S i).av then chkClo S i else
    (rd P S t x).bind fun (v, ty, org) => (take S d keep ty org).map fun (e, ty') => (.prim .mov [v], .val ty', e)
  | x => (rd P S t x).map fun (v, ty, _) => prim1 .mov [v] (.val ty)

def chkLoad (P : Program) (S : Vw) (t : TypeId) (x : Operand) : Option Chk :=
  (rdP S x).bind fun (r, k, i) => (ptrTy S r k).bind fun ty => if ty.noDead && matchesTy P t ty then
      match k with
        | .e _ _ => if ty.isSh then some (prim1 .load [.tmp r, ptrX i] (.val ty)) else none
        | .b p => if ty.noOwn then some (prim1 .load [.tmp r, ptrX i] (.val ty)) else (static p).bind fun p => match (S r).av with
          | .box tb => (Ty.at p tb).map fun (_, pos) => prim1 .load [.tmp r, ptrX i] (.alias ty r pos (some p) (S r).c)
          | _ => none
    else none

def chkStore (P : Program) (S : Vw) (keep : Nat → Bool) (t : TypeId) (x y : Operand) : Option Chk :=
  (rdP S x).bind fun (r, k, i) => (rd P S t y).bind fun (v, ty, org) => if matchesTy P t ty && ((ptrTy S r k).map fun u => u.er.beq ty.er) == some true then
    match k with
    | .b p => (match static p with
      | some p => (take S none keep ty org).bind fun (e, ty') => match (putUps S e r).av with
        | .box tb => (Ty.put p tb ty').map fun tb' => (.store r i v, .dead, e ++ [⟨r, .box tb', true⟩])
        | _ => none
      | none => (share S ty org).bind fun e => match (putUps S e r).av with
        | .box tb => if (Ty.atAny p tb).any (Ty.isSh ·) then some (.store r i v, .dead, e ++ [⟨r, .box tb, true⟩]) else none
        | _ => none)
    | .e h _ => (share S ty org).bind fun e => (rootTy (putUps S e) r).bind fun tr => match Ty.at h tr, (putUps S e r).av with
      | some (.sl .own _, _), .val tv => some (.store r i v, .dead, e ++ [⟨r, .val tv, false⟩])
      | some (.sl .own _, _), .box tv => some (.store r i v, .dead, e ++ [⟨r, .box tv, false⟩])
      | _, _ => none
  else none

def chkBin (P : Program) (S : Vw) (op : BinOp) (t : TypeId) (x y : Operand) (t' : TypeId) : Option Chk :=
  (rd P S t x).bind fun (v, tx, _) => (rd P S t' y).bind fun (u, ty, _) =>
    if isShift op then (if (isInt P t).isSome && (isInt P t').isSome then some (prim1 (.bin op) [v, u] (.val .sc)) else none)
    else if (isInt P t).isSome || isString P t then some (prim1 (.bin op) [v, u] (.val .sc))
    else if op == .eql || op == .neq then
      (if eqTy P depth t then (if !P.eqGuardType P.depth t && matchesTy P t tx && matchesTy P t ty then (tyz P depth t).map fun (_, z) => prim1 (.eqv (op == .neq) z) [v, u] (.val .sc) else none)
       else if (isSlice P t).isSome then (match x, y with
         | _, .const (.slice none 0 0) => some (prim1 (.isNil (op == .neq)) [v] (.val .sc))
         | .const (.slice none 0 0), _ => some (prim1 (.isNil (op == .neq)) [u] (.val .sc))
         | _, _ => none)
       else none)
    else none

def chkConvert (P : Program) (S : Vw) (s d : TypeId) (x : Operand) : Option Chk :=
  (rd P S s x).bind fun (v, ty, _) =>
      if (isInt P s).isSome then (isInt P d).map fun k => prim1 (.toInt k) [v] (.val .sc)
      else if !matchesTy P s ty then none
      else if isString P s && isString P d then some (prim1 .toStr [v] (.val .sc))
      else if isString P s then (isSlice P d).bind fun e => if isInt P e == some .u8 then some (prim1 .toBytes [v] (.val (.sl .own .sc))) else none
      else if isString P d then (isSlice P s).bind fun e => if isInt P e == some .u8 then some (prim1 .toStr [v] (.val .sc)) else none
      else none

def isZero : Option Operand → Bool
  | some (.const (.int _ n)) => n == 0
  | _ => false

/-- a part of a slice that is owned elsewhere -/
def readInexact (S : Vw) (ty : Ty) (org : Org) : AV := match org with
  | some (r, pos, _) => .alias ty r pos none (S r).c
  | none => .val ty

def chkSlice (P : Program) (S : Vw) (t : TypeId) (x : Operand) (lo hi mx : Option Operand) : Option Chk :=
  (rd P S t x).bind fun (v, ty, org) => (rdO P S lo).bind fun l1 => (rdO P S hi).bind fun l2 => (rdO P S mx).bind fun l3 =>
    let p : Prim := if mx.isSome then .sl3 lo.isSome else .sl lo.isSome hi.isSome
    if matchesTy P t ty then
      if isString P t then (if mx.isSome then none else some (prim1 p (v :: (l1 ++ l2)) (.val .sc)))
      else if (isSlice P t).isSome && (hi.isSome || mx.isNone) then
        (match ty with
         | .sl .own e => some (prim1 p (v :: (l1 ++ (l2 ++ l3))) (readInexact S (.sl .own e) org))
         | .sl _ e =>
           some (prim1 p (v :: (l1 ++ (l2 ++ l3))) (.val (.sl (if isZero mx then .own else if mx.isSome then .full else .sh) e)))
         | _ => none)
      else none
    else none

def chkFieldAddr (P : Program) (S : Vw) (s : TypeId) (x : Operand) (f : Nat) : Option Chk :=
  (rdP S x).bind fun (r, k, i) => (ptrTy S r k).bind fun ty => match ty, tyOf P s with
    | .agg l, some (.agg l0) => if isStruct P s && (match l[f]? with | some tf => decide (0 < tf.size) | none => false) && Ty.beqs (Ty.modsAt (fun _ _ => .sh) 0 l) l0 then
        (match k with
         | .b p => some (prim1 (.fptr f) [ptrX i] (.bptr r (p ++ [some f]) (S r).d none))
         | .e h p => some (prim1 (.fptr f) [ptrX i] (.eptr r h (p ++ [some f]) (S r).h)))
      else none
    | _, _ => none

def chkField (P : Program) (S : Vw) (s : TypeId) (x : Operand) (f : Nat) : Option Chk :=
  (rd P S s x).bind fun (v, ty, org) => if isStruct P s && matchesTy P s ty then
      (Ty.at [f] ty).bind fun (tf, off) => if tf.noOwn then some (prim1 (.field f) [v] (.val tf)) else match org with
        | some (r, pos, _) => some (prim1 (.field f) [v] (.alias tf r (pos + off) none (S r).c))
        | none => none
      else none

def chkIndexAddr (P : Program) (S : Vw) (t : TypeId) (x ix : Operand) : Option Chk :=
  (rd P S 0 ix).bind fun (u, ti, _) => match ti with
    | .sc => (match isArray P t with
      | some (n, _) => (rdP S x).bind fun (r, k, i) => (ptrTy S r k).bind fun ty => if matchesTy P t ty then
          (match k with
           | .b p => some (prim1 (.aptr n) [ptrX i, u] (.bptr r (p ++ [none]) (S r).d none))
           | .e h p => some (prim1 (.aptr n) [ptrX i, u] (.eptr r h (p ++ [none]) (S r).h)))
        else none
      | none => match x with
        | .tmp i => (rd P S t x).bind fun (v, ty, org) => if (isSlice P t).isSome && matchesTy P t ty then
          (match org with
           | some (r, _, some p) => some (prim1 (.iptr p) [v, u] (.eptr r p [] (S r).h))
           | _ => some (prim1 (.iptr []) [v, u] (.eptr i [] [] (S i).h)))
          else none
        | _ => none)
    | _ => none

def chkIndex (P : Program) (S : Vw) (t : TypeId) (x ix : Operand) : Option Chk :=
  (rd P S t x).bind fun (v, ty, _) => (rd P S 0 ix).bind fun (u, ti, _) => match ti with
    | .sc =>
      if isString P t then (if matchesTy P t ty then some (prim1 .index [v, u] (.val .sc)) else none) else
      if (isArray P t).isSome && matchesTy P t ty then (Ty.atAny [none] ty).bind fun te => if te.isSh then some (prim1 .index [v, u] (.val te)) else none else none
    | _ => none

def fieldType (fs : Array Field) (i : Nat) : TypeId := match fs[i]? with
  | some f => f.type
  | none => 0
def partTypes (P : Program) (t : TypeId) (ps : List (Nat × Operand)) : Option (List (Operand × TypeId)) :=
  match P.underlying t with
  | some (.struct fs) => some (ps.map fun p => (p.2, fieldType fs p.1))
  | some (.array _ e) => some (ps.map fun p => (p.2, e))
  | _ => none

def chkBuild (P : Program) (S : Vw) (keep : Nat → Bool) (d : Option Nat) (t : TypeId) (ps : List (Nat × Operand)) : Option Chk :=
  (tyz P depth t).bind fun (ty, z) => match ty, z with
    | .agg l, .agg zs => (partTypes P t ps).bind fun xs =>
      (parts P keep false S xs).bind fun (vs, ts, e) =>
        if e.all (fun u => some u.root != d) then (setPos l ((ps.map (·.1)).zip ts)).map fun l' => (.prim (.build zs (ps.map (·.1))) vs, .val (.agg l'), e) else none
    | _, _ => none

def chkBuildSlice (P : Program) (S : Vw) (keep : Nat → Bool) (t : TypeId) (n : Nat) (ps : List (Nat × Operand)) : Option Chk :=
  (isSlice P t).bind fun e => (tyz P depth e).bind fun (te, z) =>
      if decide (n * te.size ≤ 16777216) && ps.all (fun p => p.1 < n) && decide (0 < te.size) then
        (parts P keep true S (ps.map fun (_, x) => (x, e))).bind fun (vs, ts, ef) =>
          if ts.all fun u => u.sh.beq te then some (.prim (.buildSl z n (ps.map (·.1))) vs, .val (.sl .own te), ef) else none
      else none

mutual
/-- all slices of it are nil -/
def nilV : PV → Bool
  | .agg xs => nilVs xs
  | .slice nl xs => nl && xs.isEmpty
  | _ => true
def nilVs : List PV → Bool
  | [] => true
  | x :: xs => nilV x && nilVs xs
end
/-- a new variable owns its slices -/
def newTy (z : PV) (ty : Ty) : Ty := if nilV z then ty.modAt (fun _ _ => .own) 0 else ty

def chkOp (P : Program) (sg : Sigs) (sh : Bool) (S : Vw) (keep : Nat → Bool) (o : Oper) : Option Chk :=
  match o.op with
  | .move x => chkMove P S o.type x
  | .assign x => chkAssign P S keep o.dst o.type x
  | .nilCheck (.tmp i) => if isPtr (S i).av then chkPtr S i else (mpOf S (.tmp i)).bind fun (_, k, ts) => if k = .pt then some (prim1 .mov [.tmp i] (.mp .pt ts)) else none
  | .pick c a b => (rd P S o.type c).bind fun (vc, tc, _) => (rd P S o.type a).bind fun (va, ta, _) => (rd P S o.type b).bind fun (vb, tb, _) =>
      match tc, ta, tb with
      | .sc, .sc, .sc => some (.pick vc va vb, .val .sc, [])
      | _, _, _ => none
  | .alloc t => (tyz P depth t).map fun (ty, z) => prim1 .mov [.const z] (.box (newTy z ty))
  | .box t x => (rd P S t x).bind fun (v, ty, org) => if matchesTy P t ty then (take S none keep ty org).map fun (e, ty') => (.prim .mov [v], .box ty', e) else none
  | .load t x => if (mpOf S x).isSome then (mpOf S x).bind fun (i, k, ts) => if k = .el && isPtrTy P t then some (prim1 .mov [.tmp i] (.mp .pt ts)) else none else chkLoad P S t x
  | .store t x y => if (mpOf S x).isSome then (mpOf S x).bind fun (i, k, ts) => if k = .pt then chkStoreM P S t i ts y else none else chkStore P S keep t x y
  | .binOp op t x y t' => chkBin P S op t x y t'
  | .unOp op t x => (rd P S t x).bind fun (v, _, _) => if isBool P t || (isInt P t).isSome then some (prim1 (.un op) [v] (.val .sc)) else none
  | .convert s d x => chkConvert P S s d x
  | .slice t x lo hi mx => chkSlice P S t x lo hi mx
  | .fieldAddr s x f => chkFieldAddr P S s x f
  | .field s x f => chkField P S s x f
  | .indexAddr t x ix => if (mpOf S x).isSome then (mpOf S x).bind fun (i, k, ts) => if k = .sl then chkIndexAddrM P S t i ts ix else none else chkIndexAddr P S t x ix
  | .index t x ix => chkIndex P S t x ix
  | .build t ps => chkBuild P S keep o.dst t ps.toList
  | .buildSlice t n ps => if ((isSlice P t).map (isPtrTy P)) == some true then chkBuildSliceM P S t n ps.toList else chkBuildSlice P S keep t n ps.toList
  | .makeSlice t l c => (isSlice P t).bind fun e => (tyz P depth e).bind fun (te, z) => (bytesOf P e).bind fun bytes =>
      (rd P S 0 l).bind fun (v, _, _) => (rd P S 0 c).bind fun (u, _, _) => if 0 < te.size then some (prim1 (.mkSl z bytes) [v, u] (.val (.sl .own te))) else none
  | .extract (.tmp i) k => match (S i).av with
    | .tup ts => (ts[k]?).bind fun t => if t.noDead then
        (if t.noOwn then some (prim1 (.ext k) [.tmp i] (.val t))
         else some (prim1 (.ext k) [.tmp i] (.alias t i (Ty.sizes (ts.take k)) none (S i).c))) else none
    | _ => none
  | .makeFunc fn first caps => chkMakeFunc S fn first.toList caps.toList
  | .call c => chkCall P sg sh S c
  | _ => none

abbrev Sg := List AV
def av (S : Sg) (i : Nat) : AV := (S[i]?).getD .dead

/-! ### liveness (a hint; nothing hangs on it) -/
def useX : Operand → Nat
  | .tmp t => 1 <<< t
  | _ => 0
def useOp (ops : List Oper) (o : Oper) : Nat :=
  (o.op.operands.toList.foldl (fun m x => m ||| useX x) 0) ||| (match o.guard with | some (j, _) => (match (ops[j]?).bind (·.dst) with | some d => 1 <<< d | none => 0) | none => 0)
def without (m d : Nat) : Nat := if m.testBit d then m - (1 <<< d) else m
def liveOp (ops : List Oper) (o : Oper) (out : Nat) : Nat :=
  (match o.dst, o.guard with | some d, none => without out d | _, _ => out) ||| useOp ops o
def liveOps (all : List Oper) : List Oper → Nat → Nat
  | [], out => out
  | o :: os, out => liveOp all o (liveOps all os out)
def lookupN (l : List (Nat × Nat)) (i : Nat) : Nat := ((l.find? (·.1 == i)).map (·.2)).getD 0
def settleN (f : Nat → Nat) : Nat → Nat → Nat
  | 0, x => x
  | n + 1, x => let y := x ||| f x; if y == x then x else settleN f n y
def liveC (ret : Nat) : Code → Nat → List (Nat × Nat) → Nat
  | .region _ ops _, out, _ => liveOps ops.toList ops.toList out
  | .seq a b, out, ex => liveC ret a (liveC ret b out ex) ex
  | .cond c a b, out, ex => liveC ret a out ex ||| liveC ret b out ex ||| useX c
  | .block id c, out, ex => liveC ret c out ((id, out) :: ex)
  | .loop c, _, ex => settleN (fun x => liveC ret c x ex) 8 0
  | .exit id, _, ex => lookupN ex id
  | .ret, _, _ => ret
  | _, out, _ => out

/-! ### joining -/
def joinMd (a b : Md) : Md :=
  if a = b then a else if a = .dead ∨ b = .dead then .dead else .sh
mutual
def joinTy : Ty → Ty → Option Ty
  | .sc, .sc => some .sc
  | .agg l, .agg k => (joinTys l k).map .agg
  | .sl m e, .sl m' e' => if e.beq e' then some (.sl (joinMd m m') e) else none
  | _, _ => none
def joinTys : List Ty → List Ty → Option (List Ty)
  | [], [] => some []
  | a :: l, b :: k => (joinTy a b).bind fun c => (joinTys l k).map (c :: ·)
  | _, _ => none
end
def eqOpt (a b : Option (List Nat)) : Bool := a == b
def joinAV : AV → AV → AV
  | .val a, .val b => ((joinTy a b).map AV.val).getD .dead
  | .tup a, .tup b => ((joinTys a b).map AV.tup).getD .dead
  | .box a, .box b => ((joinTy a b).map AV.box).getD .dead
  | .alias a r p q c, .alias b r' p' q' c' => if a.beq b && r == r' && p == p' && eqOpt q q' && c == c' then .alias a r p q c else .dead
  | .bptr r p d k, .bptr r' p' d' k' => if r == r' && p == p' && d == d' && k == k' then .bptr r p d k else .dead
  | .eptr r h p d, .eptr r' h' p' d' => if r == r' && h == h' && p == p' && d == d' then .eptr r h p d else .dead
  | .mp k ts, .mp k' ts' => if k = k' && ts == ts' then .mp k ts else .dead
  | _, _ => .dead
def joinL : Sg → Sg → Sg
  | a :: l, b :: k => joinAV a b :: joinL l k
  | _, _ => []
def AV.beq : AV → AV → Bool
  | .dead, .dead => true
  | .val a, .val b => a.beq b
  | .tup a, .tup b => Ty.beqs a b
  | .box a, .box b => a.beq b
  | .alias a r p q c, .alias b r' p' q' c' => a.beq b && r == r' && p == p' && eqOpt q q' && c == c'
  | .bptr r p d k, .bptr r' p' d' k' => r == r' && p == p' && d == d' && k == k'
  | .eptr r h p d, .eptr r' h' p' d' => r == r' && h == h' && p == p' && d == d'
  | .mp k ts, .mp k' ts' => decide (k = k') && ts == ts'
  | _, _ => false
/-- the temporaries that a reference leans on -/
def rootsOf : AV → List Nat
  | .alias _ r _ _ _ => [r]
  | .bptr r _ _ _ => [r]
  | .eptr r _ _ _ => [r]
  | .mp _ ts => ts.map (·.1)
  | _ => []
def rootOfAV : AV → Option Nat
  | .alias _ r _ _ _ => some r
  | .bptr r _ _ _ => some r
  | .eptr r _ _ _ => some r
  | _ => none
def isBoxAV : AV → Bool
  | .box _ => true
  | _ => false
/-- references die where their root changed; a pointer into a box lives while the box does -/
def settleAl (S T : Sg) : Sg := T.map fun a => if (match a with | .mp _ ts => ts.any fun t => !isBoxAV (av T t.1) | _ => false) then .dead else match rootOfAV a with
  | some r => if (av S r).beq (av T r) then a else (match a with | .bptr .. => if isBoxAV (av T r) then a else .dead | _ => .dead)
  | none => a
def join (S T : Sg) : Sg := let J := joinL S T; settleAl T (settleAl S J)
def beqL : Sg → Sg → Bool
  | [], [] => true
  | a :: l, b :: k => a.beq b && beqL l k
  | _, _ => false

/-- may a slice held as `m` be held as `m'` -/
def leMd : Md → Md → Bool
  | _, .dead => true
  | .own, .own | .own, .sh => true
  | .full, .full | .full, .sh => true
  | .sh, .sh => true
  | _, _ => false
mutual
def leT : Ty → Ty → Bool
  | .sc, .sc => true
  | .agg l, .agg k => leTs l k
  | .sl m e, .sl m' e' => leMd m m' && e.beq e'
  | _, _ => false
def leTs : List Ty → List Ty → Bool
  | [], [] => true
  | a :: l, b :: k => leT a b && leTs l k
  | _, _ => false
end
def isDeadAV : AV → Bool
  | .dead => true
  | _ => false
/-- is what is known by `S'` known by `S` (which is at least as exact); checked at every join -/
def leAV (S S' : Sg) : AV → AV → Bool
  | _, .dead => true
  | .val a, .val b => leT a b
  | .tup a, .tup b => leTs a b
  | .box a, .box b => leT a b
  | .alias t r p q c, b => (AV.alias t r p q c).beq b && (av S r).beq (av S' r) && !isDeadAV (av S' r)
  | .bptr r p d k, b => (AV.bptr r p d k).beq b && isBoxAV (av S' r)
  | .eptr r h p d, b => (AV.eptr r h p d).beq b && (av S r).beq (av S' r) && !isDeadAV (av S' r)
  | .mp k ts, b => (AV.mp k ts).beq b && ts.all fun t => isBoxAV (av S' t.1)
  | _, _ => false
def leList (S S' : Sg) : Sg → Sg → Bool
  | [], [] => true
  | a :: l, b :: k => leAV S S' a b && leList S S' l k
  | _, _ => false
def leSg (S S' : Sg) : Bool := leList S S' S S'

/-! ### code -/
structure Out where
  norm : Option Sg
  exits : List (Nat × Sg)
  rets : List Sg
  deriving Inhabited

def refersTo (a : AV) (r : Nat) : Bool := (rootsOf a).contains r
/-- is `r` looked at behind this point: itself, or through a live reference -/
def liveRoot (S : Sg) (live : Nat) (r : Nat) : Bool := live.testBit r || (List.range S.length).any fun i => live.testBit i && refersTo (av S i) r

def guardOf (ops : List Oper) (o : Oper) : Option (Option (Nat × Bool)) :=
  match o.guard with
  | none => some none
  | some (j, want) => ((ops[j]?).bind (·.dst)).map fun d => some (d, want)

abbrev Es := List En
def en (S : Es) : Vw := fun i => (S[i]?).getD default

def bit (i : Nat) : Nat := 1 <<< i
def tmpsOf (o : Oper) : List Nat := o.op.operands.toList.filterMap fun x => match x with
  | .tmp t => some t
  | _ => none
def bitsOf : List Nat → Nat
  | [] => 0
  | i :: l => bit i ||| bitsOf l
def rootBits (S : Vw) (i : Nat) : Nat := bitsOf ((rootsOf (S i).av).flatMap fun r => r :: rootsOf (S r).av)
/-- the temporaries that an operation looks at: those that it names, and their roots -/
def readMask (S : Vw) (o : Oper) (g : Option (Nat × Bool)) : Nat :=
  let l := tmpsOf o ++ o.dst.toList ++ (g.map (·.1)).toList
  l.foldl (fun m i => m ||| bit i ||| rootBits S i) 0
def restrict (S : Vw) (m : Nat) : Vw := fun i => if m.testBit i then S i else default

def VX.mask : VX → Nat
  | .tmp t => bit t
  | .const _ => 0
  | .deref r p => bit r ||| (match p with | some p => bit p | none => 0)
def VX.masks : List VX → Nat
  | [] => 0
  | x :: xs => x.mask ||| VX.masks xs
def refMasks : List (Nat × Option Nat) → Nat
  | [] => 0
  | (r, p) :: l => bit r ||| (match p with | some p => bit p | none => 0) ||| refMasks l
def rootMasks : List (Nat × Option Nat) → Nat
  | [] => 0
  | (r, _) :: l => bit r ||| rootMasks l
def VRhs.reads : VRhs → Nat
  | .prim _ xs => VX.masks xs
  | .pick c x y => c.mask ||| x.mask ||| y.mask
  | .store r p x => bit r ||| (match p with | some p => bit p | none => 0) ||| x.mask
  | .call _ _ xs refs => VX.masks xs ||| refMasks refs
  | .copy r x y => bit r ||| x.mask ||| y.mask
  | .storeM l p x => bitsOf (l.map (·.1)) ||| p.mask ||| x.mask
def VRhs.writes : VRhs → Nat
  | .prim _ _ => 0
  | .pick _ _ _ => 0
  | .store r _ _ => bit r
  | .call _ _ _ refs => rootMasks refs
  | .copy r _ _ => bit r
  | .storeM l _ _ => bitsOf (l.map (·.1))

def upMask : List Up → Nat
  | [] => 0
  | u :: us => bit u.root ||| upMask us

def within (a b : Nat) : Bool := a &&& b == a
def apart (a b : Nat) : Bool := a &&& b == 0

def setEn (S : Es) (u : Up) : Es :=
  let e := en S u.root
  S.set u.root ⟨u.av, e.c + 1, (if u.header then e.h + 1 else e.h), e.d⟩
def setEns (S : Es) : List Up → Es
  | [] => S
  | u :: us => setEns (setEn S u) us
def defEn (S : Es) (d : Option Nat) (a : AV) : Es := match d with
  | none => S
  | some d => let e := en S d; S.set d ⟨a, e.c + 1, e.h + 1, e.d + 1⟩

/-- a reference bears no version of the future -/
def versB (S : Vw) : AV → Bool
  | .alias _ r _ _ c => decide (c ≤ (S r).c)
  | .bptr r _ d _ => decide (d ≤ (S r).d)
  | .eptr r _ _ h => decide (h ≤ (S r).h)
  | .mp _ ts => ts.all fun t => decide (t.2.2 ≤ (S t.1).d)
  | _ => true

/-- neither a store nor a copy nor a call of a function -/
def plainOp (o : Oper) : Bool := match o.op with
  | .store _ _ _ => false
  | .call c => (match c.callee with
    | .value _ => false
    | .builtin .copy => false
    | _ => true)
  | _ => true
def okDst (o : Oper) : Bool := if plainOp o then o.dst.isSome else match o.op with
  | .store _ _ _ => o.dst.isNone
  | _ => true

/-- `shapes`: the boxes of which only the shape is looked at; `dsts`: what is defined -/
structure Step where
  op : VOp
  reads : Nat
  shapes : Nat
  writes : Nat
  dsts : Nat
  st : Es

def dstBit (o : Oper) : Nat := match o.dst with | some d => bit d | none => 0
/-- the new description of a root is of the shape of the old one -/
def sameShape : AV → AV → Bool
  | .box a, .box b => a.er.beq b.er
  | .box _, _ => false
  | _, .box _ => false
  | _, _ => true

/-- one operation: its value form, what it reads and writes, the state behind it -/
def stepOp0 (P : Program) (sg : Sigs) (sh : Bool) (ops : List Oper) (S : Es) (liveAfter : Nat) (o : Oper) : Option Step :=
  (guardOf ops o).bind fun g =>
  let R := readMask (en S) o g
  (chkOp P sg sh (restrict (en S) R) (fun r => (match o.dst with | some d => without liveAfter d | none => liveAfter).testBit r) o).bind fun (rhs, a, us) =>
    let W := upMask us ||| (match o.dst with | some d => bit d | none => 0)
    if within (rhs.reads ||| (match g with | some (t, _) => bit t | none => 0)) R && within rhs.writes (upMask us) && within W R &&
       (match g with
        | none => true
        | some (t, _) => us.isEmpty && o.dst.isSome && (!isBoxAV a && versB (restrict (en S) R) a) && (match (restrict (en S) R t).av with | .val .sc => decide (0 < (restrict (en S) R t).d) | _ => false)) &&
       okDst o && us.all (fun u => u.root < S.length) && (match o.dst with | some d => decide (d < S.length) | none => true) && us.all (fun u => sameShape (en S u.root).av u.av) then
      some ⟨⟨o.dst, g, rhs⟩, R, 0, W, dstBit o, defEn (setEns S us) o.dst a⟩
    else none

/-- an operation that hands a pointer on -/
def ptrArg : Op → Option Nat
  | .move (.tmp i) => some i
  | .nilCheck (.tmp i) => some i
  | .fieldAddr _ (.tmp i) _ => some i
  | _ => none
/-- what such an operation looks at, and the box of which it sees the shape alone -/
def ptrR (S : Vw) (o : Oper) : Option (Nat × Nat × Nat) :=
  match o.guard, o.dst, ptrArg o.op with
  | none, some d, some i => match (S i).av with
    | .bptr r p _ none => if (static p).isSome && (r != i && (r != d && i != d)) then some (d, bit i ||| bit d, bit r) else none
    | .box _ => if i != d then some (d, bit d, bit i) else none
    | _ => none
  | _, _, _ => none
def shapeEn (e : En) : En := match e.av with
  | .box ty => ⟨.box ty.er, 0, 0, e.d⟩
  | _ => default
def restrict2 (S : Vw) (R RS : Nat) : Vw := fun i => if R.testBit i then S i else if RS.testBit i then shapeEn (S i) else default

def ptrStep (P : Program) (sg : Sigs) (sh : Bool) (S : Es) (o : Oper) (d R RS : Nat) : Option Step :=
  (chkOp P sg sh (restrict2 (en S) R RS) (fun _ => false) o).bind fun (rhs, a, us) =>
    if us.isEmpty && within rhs.reads R && rhs.writes == 0 && okDst o && decide (d < S.length) then some ⟨⟨some d, none, rhs⟩, R, RS, bit d, bit d, defEn S (some d) a⟩ else none

/-- one operation: its value form, what it reads and writes, the state behind it -/
def stepOp (P : Program) (sg : Sigs) (sh : Bool) (ops : List Oper) (S : Es) (liveAfter : Nat) (o : Oper) : Option Step :=
  match ptrR (en S) o with
  | some (d, R, RS) => ptrStep P sg sh S o d R RS
  | none => stepOp0 P sg sh ops S liveAfter o

/-- operation number `i` may stand in any order with those before it that it does not wait for -/
def freeOf (before : Nat) (R RS W D : Nat) : Nat → List (Nat × Nat × Nat × Nat) → Bool
  | _, [] => true
  | j, (r, rs, w, d) :: l => (before.testBit j || ((apart w R && apart W r) && (apart d RS && apart D rs))) && freeOf before R RS W D (j + 1) l

/-- what an operation waits for -/
def waits (b : Array Nat) : List Edge → Nat
  | [] => 0
  | e :: l => (if Region.binds .any e then bit e.on ||| b.getD e.on 0 else 0) ||| waits b l

/-- operation number `i` may be drawn -/
def okDraw (b : Array Nat) (i : Nat) (o : Oper) (s : Step) (seen : List (Nat × Nat × Nat × Nat)) : Bool :=
  freeOf (b.getD i 0) s.reads s.shapes s.writes s.dsts 0 seen && o.after.toList.all (fun e => !Region.binds .any e || decide (e.on < i)) && within (b.getD i 0) (waits b o.after.toList)

def stepOps (P : Program) (sg : Sigs) (sh : Bool) (all : List Oper) (before : Option (Array Nat)) (liveOut : Nat) : Nat → List (Nat × Nat × Nat × Nat) → List Oper → Es → Option (List VOp × Es)
  | _, _, [], S => some ([], S)
  | i, seen, o :: os, S =>
    (stepOp P sg sh all S (liveOps all os liveOut) o).bind fun s =>
      if (match before with | none => true | some b => okDraw b i o s seen) then
        (stepOps P sg sh all before liveOut (i + 1) (seen ++ [(s.reads, s.shapes, s.writes, s.dsts)]) os s.st).map fun (vs, S'') => (s.op :: vs, S'')
      else none

def freshEs (S : Sg) : Es := S.map fun a => ⟨a, 0, 0, 0⟩
/-- behind a region: what is out of date dies, the versions begin anew -/
def settleEn (S : Es) (e : En) : AV := match e.av with
  | .alias ty r p q c => if (en S r).c == c then .alias ty r p q 0 else .dead
  | .bptr r p d k => if (en S r).d == d then .bptr r p 0 k else .dead
  | .eptr r h p v => if (en S r).h == v then .eptr r h p 0 else .dead
  | .mp k ts => if ts.all (fun t => (en S t.1).d == t.2.2) then .mp k (ts.map fun t => (t.1, t.2.1, 0)) else .dead
  | a => a
def settleEs (S : Es) : Sg := S.map (settleEn S)

def deadAt (S : Sg) (ks : List Nat) : Sg := ks.foldl (fun S k => S.set k .dead) S

def killable (S : Sg) (live : Nat) : List Nat := (List.range S.length).filter fun i => !(match av S i with | .dead => true | _ => false) && !liveRoot S live i

def deads (S : Sg) : List Nat := (List.range S.length).filter fun i => match av S i with | .dead => true | _ => false

/-- a state that is weaker than all of these; it is looked at, not believed -/
def joined : List Sg → Option (Option Sg)
  | [] => some none
  | s :: l => let J := l.foldl join s
    if (s :: l).all (leSg · J) then some (some J) else none

/-- the state behind a region, versions away; it is looked at -/
def okSettle (E : Es) (S : Sg) : Sg → Es → Bool
  | [], [] => true
  | a :: l, e :: es => (isDeadAV a || (a.beq (settleEn E e) && (rootsOf a).all fun r => !isDeadAV (av S r))) && okSettle E S l es
  | _, _ => false

def loopInv (f : Sg → Option Sg) : Nat → Sg → Option Sg
  | 0, _ => none
  | n + 1, S => (f S).bind fun S' => if beqL S' S then some S else loopInv f n S'

/-- temporaries that are not live lose their names at the start of a loop and at an exit -/
def trim (S : Sg) (live : Nat) : Sg := deadAt S (killable S live)

/-- code that has no answer -/
def failC : VCode := .region [⟨none, none, .prim .mov []⟩] []
/-- what cannot be translated has no answer -/
def orFail : Option (VCode × Out) → Option (VCode × Out)
  | some x => some x
  | none => some (failC, ⟨none, [], []⟩)

def comp (P : Program) (sg : Sigs) (sh : Bool) (ret : Nat) : Code → Sg → Nat → List (Nat × Nat) → Option (VCode × Out)
  | .skip, S, _, _ => some (.skip, ⟨some S, [], []⟩)
  | .region _ ops draw, S, out, _ => orFail <|
    (stepOps P sg sh ops.toList (if draw then some (Region.before ops) else none) out 0 [] ops.toList (freshEs S)).bind fun (vs, E) =>
      let S1 := settleEs E
      let S2 := S1.map fun a => if (rootsOf a).any fun r => isDeadAV (av S1 r) then .dead else a
      let ks := killable S2 out
      let S3 := deadAt S2 ks
      if okSettle E S3 S3 E && ks.all (fun k => isDeadAV (av S3 k)) then some (.region vs ks, ⟨some S3, [], []⟩) else none
  | .seq a b, S, out, ex =>
    (comp P sg sh ret a S (liveC ret b out ex) ex).bind fun (va, oa) => match oa.norm with
      | none => some (.seq va .skip, oa)
      | some S' => (comp P sg sh ret b S' out ex).map fun (vb, ob) => (.seq va vb, ⟨ob.norm, oa.exits ++ ob.exits, oa.rets ++ ob.rets⟩)
  | .cond c a b, S, out, ex => (rd P (en (freshEs S)) 0 c).bind fun (v, tc, _) => match tc with
    | .sc => (comp P sg sh ret a S out ex).bind fun (va, oa) => (comp P sg sh ret b S out ex).bind fun (vb, ob) =>
        (joined (oa.norm.toList ++ ob.norm.toList)).map fun J => (.cond v va vb, ⟨J, oa.exits ++ ob.exits, oa.rets ++ ob.rets⟩)
    | _ => none
  | .block id c, S, out, ex => (comp P sg sh ret c S out ((id, out) :: ex)).bind fun (vc, oc) =>
      (joined (oc.norm.toList ++ (oc.exits.filter (·.1 == id)).map (·.2))).map fun J => (.block id vc, ⟨J, oc.exits.filter (·.1 != id), oc.rets⟩)
  | .loop c, S, _, ex =>
    let live := settleN (fun x => liveC ret c x ex) 8 0
    let S0 := trim S live
    (loopInv (fun T => (comp P sg sh ret c T live ex).map fun (_, o) => match o.norm with | some T' => trim (join T T') live | none => T) 6 S0).bind fun T =>
      (comp P sg sh ret c T live ex).bind fun (vc, oc) =>
        if leSg S T && (match oc.norm with | some T' => leSg T' T | none => true) then some (.loop (deads T) vc, ⟨none, oc.exits, oc.rets⟩) else none
  | .exit id, S, _, ex => let S' := trim S (lookupN ex id)
    if leSg S S' then some (.seq (.region [] (deads S')) (.exit id), ⟨none, [(id, S')], []⟩) else none
  | .ret, S, _, _ => some (.ret, ⟨none, [], [S]⟩)
  | _, _, _, _ => none

def startAV : PM → AV
  | .val ty => .val ty
  | .ref tin _ => .box tin

def resTmp : ResultVar → Nat
  | .tmp t => t
  | .cell t _ => t

def resAV (P : Program) (S : Sg) : ResultVar → Option Ty
  | .tmp t => match av S t with
    | .val ty => some ty
    | _ => none
  | .cell t τ => match av S t with
    | .box ty => if matchesTy P τ ty then some ty else none
    | _ => none

def resTys (P : Program) (S : Sg) : List ResultVar → Option (List Ty)
  | [] => some []
  | r :: l => (resAV P S r).bind fun t => (resTys P S l).map (t :: ·)

/-- can a value of type `a` be handed on as one of type `b` -/
def leTy (a b : Ty) : Bool := leT a b && b.noDead

def refTys (S : Sg) : Nat → List PM → Option (List (Ty × Ty))
  | _, [] => some []
  | i, .val _ :: l => refTys S (i + 1) l
  | i, .ref _ tout :: l => match av S i with
    | .box ty => (refTys S (i + 1) l).map ((ty, tout) :: ·)
    | _ => none

def okRet (P : Program) (fn : Func) (g : Sig) (S : Sg) : Bool :=
  (match resTys P S fn.results.toList with
   | some ts => ts.length == g.results.length && (ts.zip g.results).all fun (a, b) => leTy a b
   | none => false) &&
  (match refTys S 0 g.params with
   | some l => l.all fun (a, b) => leTy a b
   | none => false)

def refIdx : Nat → List PM → List Nat
  | _, [] => []
  | i, .val _ :: l => refIdx (i + 1) l
  | i, .ref _ _ :: l => i :: refIdx (i + 1) l

def retMask (fn : Func) (g : Sig) : Nat := (fn.results.toList.foldl (fun m r => m ||| (1 <<< resTmp r)) 0) ||| ((refIdx 0 g.params).foldl (fun m r => m ||| (1 <<< r)) 0)

def refMask : Nat → List PM → Nat
  | _, [] => 0
  | i, .val _ :: l => refMask (i + 1) l
  | i, .ref _ _ :: l => bit i ||| refMask (i + 1) l

/-- no operation defines a temporary of the mask -/
def noDst (pm : Nat) : Code → Bool
  | .region _ ops _ => ops.toList.all fun o => match o.dst with | some d => !pm.testBit d | none => true
  | .seq a b => noDst pm a && noDst pm b
  | .cond _ a b => noDst pm a && noDst pm b
  | .block _ c => noDst pm c
  | .loop c => noDst pm c
  | _ => true

def compile (P : Program) (sg : Sigs) (f : Nat) : Option VFunc :=
  (P.funcs[f]?).bind fun fn => (sg f).bind fun g => fn.body.bind fun c =>
    if g.params.length ≤ fn.ntmps then
      let S : Sg := g.params.map startAV ++ List.replicate (fn.ntmps - g.params.length) .dead
      (comp P sg g.shTup (retMask fn g) c S (retMask fn g) []).bind fun (v, o) =>
        if o.exits.isEmpty && nodupN (fn.results.toList.map resTmp ++ refIdx 0 g.params) && o.rets.all (okRet P fn g) && (match o.norm with | some S => okRet P fn g S | none => true) && noDst (refMask 0 g.params) c then
          some ⟨fn.ntmps, v, fn.results.toList.map resTmp, refIdx 0 g.params⟩
        else none
    else none

end Go.Vm

/-
  What it means that cells of memory hold a pure value; how this outlives changes of the memory elsewhere; parts and their replacement.
  Conditions: none.
-/
set_option linter.unusedVariables false
set_option linter.unusedSimpArgs false
namespace Go.Vm

inductive Lab where
  | foreign
  | own (root : Option Nat) (pos : Nat)
  | box (root : Nat)
  deriving DecidableEq, Inhabited

abbrev OMap := Nat → Option Lab

def ScRep : PV → List Value → Prop
  | .bool b, cs => cs = [.bool b]
  | .int k n, cs => cs = [.int k n]
  | .str s, cs => cs = [.string ⟨s.toArray⟩]
  | _, _ => False

def cellsAt (c : Array Value) (o n : Nat) : List Value := (c.toList.drop o).take n

def Free (fr : Nat × Nat) (n : Nat) : Prop := ∀ j, j < n → ¬(fr.1 ≤ j ∧ j < fr.2)

mutual
/-- shared: nothing of it is written any more -/
def RepSh (w : World) (O : OMap) : Ty → PV → List Value → Prop
  | .sc, x, cs => ScRep x cs
  | .agg l, x, cs => ∃ xs, x = .agg xs ∧ RepShs w O l xs cs
  | .sl _ e, x, cs => ∃ nl xs, x = .slice nl xs ∧
      ((nl = true ∧ xs = [] ∧ cs = [.slice none 0 0]) ∨
       (nl = false ∧ ∃ a cap, cs = [.slice (some a) xs.length cap] ∧ a.spot = none ∧ xs.length ≤ cap ∧
         (xs = [] ∨ (O a.block = none ∧ ∃ c el fr, w.heap[a.block]? = some (.cells c el fr) ∧ a.off + xs.length * e.size ≤ c.size ∧
           ∀ i y, xs[i]? = some y → RepSh w O e y (cellsAt c (a.off + i * e.size) e.size)))))
def RepShs (w : World) (O : OMap) : List Ty → List PV → List Value → Prop
  | [], xs, cs => xs = [] ∧ cs = []
  | t :: ts, xs, cs => ∃ y ys c1 c2, xs = y :: ys ∧ cs = c1 ++ c2 ∧ RepSh w O t y c1 ∧ RepShs w O ts ys c2
end

/-- an owned slice: the whole of its block from its start on, by its capacity, is its own -/
def OwnSl (w : World) (O : OMap) (ρ : Option Nat) (e : Ty) (p : Nat) (x : PV) (cs : List Value) : Prop :=
  ∃ nl xs, x = .slice nl xs ∧
      ((nl = true ∧ xs = [] ∧ cs = [.slice none 0 0]) ∨
       (nl = false ∧ ∃ a cap, cs = [.slice (some a) xs.length cap] ∧ a.spot = none ∧ xs.length ≤ cap ∧
         (cap = 0 ∨ (O a.block = some (.own ρ p) ∧ ∃ c el fr, w.heap[a.block]? = some (.cells c el fr) ∧ a.off + cap * e.size ≤ c.size ∧ Free fr c.size ∧
           ∀ i y, xs[i]? = some y → RepSh w O e y (cellsAt c (a.off + i * e.size) e.size)))))

def SlRep (w : World) (O : OMap) (ρ : Option Nat) (m : Md) (e : Ty) (p : Nat) (x : PV) (cs : List Value) : Prop :=
  match m with
  | .dead => cs.length = 1
  | .sh => RepSh w O (.sl .sh e) x cs
  | .full => RepSh w O (.sl .sh e) x cs ∧ ∀ a len cap, cs = [.slice a len cap] → cap = len
  | .own => OwnSl w O ρ e p x cs

mutual
def Rep (w : World) (O : OMap) (ρ : Option Nat) : Ty → Nat → PV → List Value → Prop
  | .sc, _, x, cs => ScRep x cs
  | .agg l, p, x, cs => ∃ xs, x = .agg xs ∧ Reps w O ρ l p xs cs
  | .sl m e, p, x, cs => SlRep w O ρ m e p x cs
def Reps (w : World) (O : OMap) (ρ : Option Nat) : List Ty → Nat → List PV → List Value → Prop
  | [], _, xs, cs => xs = [] ∧ cs = []
  | t :: ts, p, xs, cs => ∃ y ys c1 c2, xs = y :: ys ∧ cs = c1 ++ c2 ∧ Rep w O ρ t p y c1 ∧ Reps w O ρ ts (p + t.size) ys c2
end

/-! ### lengths -/
theorem ScRep.length {x : PV} {cs : List Value} (h : ScRep x cs) : cs.length = 1 := by
  cases x <;> simp only [ScRep] at h <;> first | exact h.elim | (subst h; rfl)

mutual
theorem RepSh.length {w : World} {O : OMap} : ∀ {t : Ty} {x : PV} {cs : List Value}, RepSh w O t x cs → cs.length = t.size
  | .sc, x, cs, h => by simp only [RepSh] at h; simpa [Ty.size] using h.length
  | .agg l, x, cs, h => by
    simp only [RepSh] at h
    obtain ⟨xs, _, h⟩ := h
    simpa [Ty.size] using RepShs.length h
  | .sl m e, x, cs, h => by
    simp only [RepSh] at h
    obtain ⟨nl, xs, _, h⟩ := h
    rcases h with ⟨_, _, rfl⟩ | ⟨_, a, cap, rfl, _⟩ <;> simp [Ty.size]
theorem RepShs.length {w : World} {O : OMap} : ∀ {l : List Ty} {xs : List PV} {cs : List Value}, RepShs w O l xs cs → cs.length = Ty.sizes l
  | [], xs, cs, h => by simp only [RepShs] at h; simp [h.2, Ty.sizes]
  | t :: ts, xs, cs, h => by
    simp only [RepShs] at h
    obtain ⟨y, ys, c1, c2, _, rfl, h1, h2⟩ := h
    simp [Ty.sizes, RepSh.length h1, RepShs.length h2]
end

theorem SlRep.length {w : World} {O : OMap} {ρ : Option Nat} {m : Md} {e : Ty} {p : Nat} {x : PV} {cs : List Value} (h : SlRep w O ρ m e p x cs) : cs.length = 1 := by
  cases m with
  | dead => exact h
  | sh => have := RepSh.length h; simpa [Ty.size] using this
  | full => have := RepSh.length h.1; simpa [Ty.size] using this
  | own =>
    obtain ⟨nl, xs, _, h⟩ := h
    rcases h with ⟨_, _, rfl⟩ | ⟨_, a, cap, rfl, _⟩ <;> rfl

mutual
theorem Rep.length {w : World} {O : OMap} {ρ : Option Nat} : ∀ {t : Ty} {p : Nat} {x : PV} {cs : List Value}, Rep w O ρ t p x cs → cs.length = t.size
  | .sc, p, x, cs, h => by simp only [Rep] at h; simpa [Ty.size] using h.length
  | .agg l, p, x, cs, h => by
    simp only [Rep] at h
    obtain ⟨xs, _, h⟩ := h
    simpa [Ty.size] using Reps.length h
  | .sl m e, p, x, cs, h => by simp only [Rep] at h; simpa [Ty.size] using h.length
theorem Reps.length {w : World} {O : OMap} {ρ : Option Nat} : ∀ {l : List Ty} {p : Nat} {xs : List PV} {cs : List Value}, Reps w O ρ l p xs cs → cs.length = Ty.sizes l
  | [], p, xs, cs, h => by simp only [Reps] at h; simp [h.2, Ty.sizes]
  | t :: ts, p, xs, cs, h => by
    simp only [Reps] at h
    obtain ⟨y, ys, c1, c2, _, rfl, h1, h2⟩ := h
    simp [Ty.sizes, Rep.length h1, Reps.length h2]
end

/-! ### other worlds -/
/-- what is shared stays -/
def Keeps (w : World) (O : OMap) (w' : World) (O' : OMap) : Prop := ∀ b, O b = none → O' b = none ∧ w'.heap[b]? = w.heap[b]?

mutual
theorem RepSh.keep {w w' : World} {O O' : OMap} (k : Keeps w O w' O') : ∀ {t : Ty} {x : PV} {cs : List Value}, RepSh w O t x cs → RepSh w' O' t x cs
  | .sc, x, cs, h => by simpa only [RepSh] using h
  | .agg l, x, cs, h => by
    simp only [RepSh] at h ⊢
    obtain ⟨xs, hx, h⟩ := h
    exact ⟨xs, hx, RepShs.keep k h⟩
  | .sl m e, x, cs, h => by
    simp only [RepSh] at h ⊢
    obtain ⟨nl, xs, hx, h⟩ := h
    refine ⟨nl, xs, hx, ?_⟩
    rcases h with h | ⟨h0, a, cap, h1, h2, h3, h4⟩
    · exact .inl h
    · refine .inr ⟨h0, a, cap, h1, h2, h3, ?_⟩
      rcases h4 with h4 | ⟨ho, c, el, fr, hc, hl, hr⟩
      · exact .inl h4
      · exact .inr ⟨(k _ ho).1, c, el, fr, (k _ ho).2.trans hc, hl, fun i y hy => RepSh.keep k (hr i y hy)⟩
theorem RepShs.keep {w w' : World} {O O' : OMap} (k : Keeps w O w' O') : ∀ {l : List Ty} {xs : List PV} {cs : List Value}, RepShs w O l xs cs → RepShs w' O' l xs cs
  | [], xs, cs, h => by simpa only [RepShs] using h
  | t :: ts, xs, cs, h => by
    simp only [RepShs] at h ⊢
    obtain ⟨y, ys, c1, c2, hx, hc, h1, h2⟩ := h
    exact ⟨y, ys, c1, c2, hx, hc, RepSh.keep k h1, RepShs.keep k h2⟩
end

/-- what becomes of an owned slice at a place when its mode there turns to `m` -/
def Turns (w : World) (O : OMap) (ρ : Option Nat) (w' : World) (O' : OMap) (ρ' : Option Nat) (p p' : Nat) (m : Md) : Prop :=
  match m with
  | .dead => True
  | .own => ∀ b, O b = some (.own ρ p) → O' b = some (.own ρ' p') ∧ w'.heap[b]? = w.heap[b]?
  | _ => ∀ b, O b = some (.own ρ p) → O' b = none ∧ w'.heap[b]? = w.heap[b]?

theorem RepSh.mode {w : World} {O : OMap} {m m' : Md} {e : Ty} {x : PV} {cs : List Value} (h : RepSh w O (.sl m e) x cs) : RepSh w O (.sl m' e) x cs := by
  simpa only [RepSh] using h

theorem OwnSl.turn {w w' : World} {O O' : OMap} {ρ ρ' : Option Nat} {e : Ty} {p p' : Nat} {x : PV} {cs : List Value} (k : Keeps w O w' O')
    (t : ∀ b, O b = some (.own ρ p) → O' b = some (.own ρ' p') ∧ w'.heap[b]? = w.heap[b]?) (h : OwnSl w O ρ e p x cs) : OwnSl w' O' ρ' e p' x cs := by
  obtain ⟨nl, xs, hx, h⟩ := h
  refine ⟨nl, xs, hx, ?_⟩
  rcases h with h | ⟨h0, a, cap, h1, h2, h3, h4⟩
  · exact .inl h
  · refine .inr ⟨h0, a, cap, h1, h2, h3, ?_⟩
    rcases h4 with h4 | ⟨ho, c, el, fr, hc, hl, hf, hr⟩
    · exact .inl h4
    · exact .inr ⟨(t _ ho).1, c, el, fr, (t _ ho).2.trans hc, hl, hf, fun i y hy => RepSh.keep k (hr i y hy)⟩

theorem OwnSl.share {w w' : World} {O O' : OMap} {ρ : Option Nat} {e : Ty} {p : Nat} {x : PV} {cs : List Value} {m : Md} (k : Keeps w O w' O')
    (t : ∀ b, O b = some (.own ρ p) → O' b = none ∧ w'.heap[b]? = w.heap[b]?) (h : OwnSl w O ρ e p x cs) : RepSh w' O' (.sl m e) x cs := by
  simp only [RepSh]
  obtain ⟨nl, xs, hx, h⟩ := h
  refine ⟨nl, xs, hx, ?_⟩
  rcases h with h | ⟨h0, a, cap, h1, h2, h3, h4⟩
  · exact .inl h
  · refine .inr ⟨h0, a, cap, h1, h2, h3, ?_⟩
    rcases h4 with h4 | ⟨ho, c, el, fr, hc, hl, hf, hr⟩
    · left
      have : xs.length = 0 := by omega
      exact List.length_eq_zero_iff.1 this
    · refine .inr ⟨(t _ ho).1, c, el, fr, (t _ ho).2.trans hc, ?_, fun i y hy => RepSh.keep k (hr i y hy)⟩
      have : xs.length * e.size ≤ cap * e.size := Nat.mul_le_mul_right _ h3
      omega

theorem SlRep.turn {w w' : World} {O O' : OMap} {ρ ρ' : Option Nat} {m m' : Md} {e : Ty} {p p' : Nat} {x : PV} {cs : List Value} (k : Keeps w O w' O')
    (hm : leMd m m' = true) (t : m = .own → Turns w O ρ w' O' ρ' p p' m') (h : SlRep w O ρ m e p x cs) : SlRep w' O' ρ' m' e p' x cs := by
  have hl := h.length
  cases m' with
  | dead => exact hl
  | own =>
    cases m <;> simp [leMd] at hm
    exact OwnSl.turn k (t rfl) h
  | sh =>
    cases m <;> simp [leMd] at hm
    · exact RepSh.keep k h
    · exact RepSh.keep k h.1
    · exact OwnSl.share (m := .sh) k (t rfl) h
  | full =>
    cases m <;> simp [leMd] at hm
    exact ⟨RepSh.keep k h.1, h.2⟩

/-- `t'` is `t` with modes turned, slot by slot as `T place mode'` allows -/
inductive LeTy (T : Nat → Md → Prop) : Nat → Ty → Ty → Prop
  | sc (p) : LeTy T p .sc .sc
  | sl (p m m' e) : leMd m m' = true → (m = .own → T p m') → LeTy T p (.sl m e) (.sl m' e)
  | nil (p) : LeTy T p (.agg []) (.agg [])
  | cons (p t t' l l') : LeTy T p t t' → LeTy T (p + t.size) (.agg l) (.agg l') → t'.size = t.size → LeTy T p (.agg (t :: l)) (.agg (t' :: l'))

theorem Rep.turn {w w' : World} {O O' : OMap} {ρ ρ' : Option Nat} (k : Keeps w O w' O') (δ : Nat → Nat) (hδ : ∀ a b, δ (a + b) = δ a + b)
    {p : Nat} {t t' : Ty} (hle : LeTy (fun q m => Turns w O ρ w' O' ρ' q (δ q) m) p t t') :
    ∀ {x : PV} {cs : List Value}, Rep w O ρ t p x cs → Rep w' O' ρ' t' (δ p) x cs := by
  induction hle with
  | sc p => intro x cs h; simpa only [Rep] using h
  | sl p m m' e hm ht =>
    intro x cs h
    simp only [Rep] at h ⊢
    exact SlRep.turn k hm ht h
  | nil p => intro x cs h; simpa only [Rep, Reps] using h
  | cons p t t' l l' h1 h2 hsz ih1 ih2 =>
    intro x cs h
    simp only [Rep, Reps] at h ⊢
    obtain ⟨xs, rfl, y, ys, c1, c2, rfl, rfl, r1, r2⟩ := h
    have := @ih2 (.agg ys) c2 (by simp only [Rep]; exact ⟨ys, rfl, r2⟩)
    simp only [Rep] at this
    obtain ⟨ys', hys, r2'⟩ := this
    cases hys
    refine ⟨_, rfl, y, ys, c1, c2, rfl, rfl, ih1 r1, ?_⟩
    rw [hsz, ← hδ]
    exact r2'

mutual
theorem modAt_size (f : Nat → Md → Md) : ∀ (t : Ty) (p : Nat), (t.modAt f p).size = t.size
  | .sc, p => by simp [Ty.modAt]
  | .agg l, p => by simp only [Ty.modAt, Ty.size]; exact modsAt_sizes f l p
  | .sl m e, p => by simp [Ty.modAt, Ty.size]
theorem modsAt_sizes (f : Nat → Md → Md) : ∀ (l : List Ty) (p : Nat), Ty.sizes (Ty.modsAt f p l) = Ty.sizes l
  | [], p => by simp [Ty.modsAt]
  | t :: ts, p => by simp only [Ty.modsAt, Ty.sizes]; rw [modAt_size f t p, modsAt_sizes f ts]
end

mutual
/-- the modes of `t` that starts at `p` are turned by `f` -/
theorem LeTy.modAt {T : Nat → Md → Prop} (f : Nat → Md → Md) (hf : ∀ q m, leMd m (f q m) = true) :
    ∀ (t : Ty) (p : Nat), (∀ q, p ≤ q → q < p + t.size → T q (f q .own)) → LeTy T p t (t.modAt f p)
  | .sc, p, _ => by simpa only [Ty.modAt] using LeTy.sc p
  | .agg l, p, h => by simpa only [Ty.modAt] using LeTy.modsAt f hf l p (by simpa only [Ty.size] using h)
  | .sl m e, p, h => by
    simp only [Ty.modAt]
    exact LeTy.sl p m _ e (hf p m) fun hm => by subst hm; exact h p (Nat.le_refl _) (by simp [Ty.size])
theorem LeTy.modsAt {T : Nat → Md → Prop} (f : Nat → Md → Md) (hf : ∀ q m, leMd m (f q m) = true) :
    ∀ (l : List Ty) (p : Nat), (∀ q, p ≤ q → q < p + Ty.sizes l → T q (f q .own)) → LeTy T p (.agg l) (.agg (Ty.modsAt f p l))
  | [], p, _ => by simpa only [Ty.modsAt] using LeTy.nil p
  | t :: ts, p, h => by
    simp only [Ty.modsAt]
    refine LeTy.cons p t _ ts _ (LeTy.modAt f hf t p fun q h1 h2 => h q h1 ?_) (LeTy.modsAt f hf ts (p + t.size) fun q h1 h2 => h q ?_ ?_) (modAt_size f t p)
    · simp only [Ty.sizes]; omega
    · omega
    · simp only [Ty.sizes]; omega
end

theorem Ty.modAt_id : ∀ (t : Ty) (p : Nat), t.modAt (fun _ m => m) p = t
  | .sc, p => by simp [Ty.modAt]
  | .agg l, p => by simp only [Ty.modAt]; rw [modsAt_id l p]
  | .sl m e, p => by simp [Ty.modAt]
where modsAt_id : ∀ (l : List Ty) (p : Nat), Ty.modsAt (fun _ m => m) p l = l
  | [], p => by simp [Ty.modsAt]
  | t :: ts, p => by simp only [Ty.modsAt]; rw [Ty.modAt_id t p, modsAt_id ts]

theorem leMd_refl (m : Md) : leMd m m = true := by cases m <;> rfl
theorem leMd_toSh (m : Md) : leMd m (toSh m) = true := by cases m <;> rfl

theorem LeTy.same {T : Nat → Md → Prop} (t : Ty) (p : Nat) (h : ∀ q, p ≤ q → q < p + t.size → T q .own) : LeTy T p t t := by
  have := LeTy.modAt (T := T) (fun _ m => m) (fun _ m => leMd_refl m) t p h
  rwa [Ty.modAt_id] at this

theorem Rep.shift {w w' : World} {O O' : OMap} {ρ ρ' : Option Nat} {p p' : Nat} (k : Keeps w O w' O') {o : Nat} {t t' : Ty}
    (hle : LeTy (fun q m => Turns w O ρ w' O' ρ' (p + q) (p' + q) m) o t t') : ∀ {x : PV} {cs : List Value}, Rep w O ρ t (p + o) x cs → Rep w' O' ρ' t' (p' + o) x cs := by
  induction hle with
  | sc o => intro x cs h; simpa only [Rep] using h
  | sl o m m' e hm ht =>
    intro x cs h
    simp only [Rep] at h ⊢
    exact SlRep.turn k hm ht h
  | nil o => intro x cs h; simpa only [Rep, Reps] using h
  | cons o t t' l l' h1 h2 hsz ih1 ih2 =>
    intro x cs h
    simp only [Rep, Reps] at h ⊢
    obtain ⟨xs, rfl, y, ys, c1, c2, rfl, rfl, r1, r2⟩ := h
    have := @ih2 (.agg ys) c2 (by simp only [Rep]; exact ⟨ys, rfl, by rw [← Nat.add_assoc]; exact r2⟩)
    simp only [Rep] at this
    obtain ⟨ys', hys, r2'⟩ := this
    cases hys
    refine ⟨_, rfl, y, ys, c1, c2, rfl, rfl, ih1 r1, ?_⟩
    rw [hsz, Nat.add_assoc]
    exact r2'

/-- turned by a function of the place inside the value -/
theorem Rep.turnAt {w w' : World} {O O' : OMap} {ρ ρ' : Option Nat} {t : Ty} {p p' : Nat} {x : PV} {cs : List Value} (k : Keeps w O w' O') (f : Nat → Md → Md)
    (hf : ∀ q m, leMd m (f q m) = true) (ht : ∀ q, q < t.size → Turns w O ρ w' O' ρ' (p + q) (p' + q) (f q .own)) (h : Rep w O ρ t p x cs) :
    Rep w' O' ρ' (t.modAt f 0) p' x cs :=
  Rep.shift (o := 0) k (LeTy.modAt f hf t 0 fun q _ h2 => ht q (by omega)) h

/-- the same value, elsewhere labelled -/
theorem Rep.move {w w' : World} {O O' : OMap} {ρ ρ' : Option Nat} {t : Ty} {p p' : Nat} {x : PV} {cs : List Value} (k : Keeps w O w' O')
    (ht : ∀ q b, q < t.size → O b = some (.own ρ (p + q)) → O' b = some (.own ρ' (p' + q)) ∧ w'.heap[b]? = w.heap[b]?) (h : Rep w O ρ t p x cs) : Rep w' O' ρ' t p' x cs := by
  have := Rep.turnAt k (fun _ m => m) (fun _ m => leMd_refl m) (fun q hq b hb => ht q b hq hb) h
  rwa [Ty.modAt_id] at this

/-- the value becomes shared -/
theorem Rep.toSh {w w' : World} {O O' : OMap} {ρ : Option Nat} (ρ' : Option Nat) {t : Ty} {p : Nat} (p' : Nat) {x : PV} {cs : List Value} (k : Keeps w O w' O')
    (ht : ∀ q b, q < t.size → O b = some (.own ρ (p + q)) → O' b = none ∧ w'.heap[b]? = w.heap[b]?) (h : Rep w O ρ t p x cs) : Rep w' O' ρ' t.sh p' x cs :=
  Rep.turnAt k (fun _ m => Vm.toSh m) (fun _ m => leMd_toSh m) (fun q hq b hb => ht q b hq hb) h

/-! ### modes -/
mutual
theorem Ty.all_mono {f g : Md → Bool} (hfg : ∀ m, f m = true → g m = true) : ∀ {t : Ty}, t.all f = true → t.all g = true
  | .sc, _ => rfl
  | .agg l, h => by simp only [Ty.all] at h ⊢; exact Ty.alls_mono hfg h
  | .sl m e, h => by simp only [Ty.all] at h ⊢; exact hfg _ h
theorem Ty.alls_mono {f g : Md → Bool} (hfg : ∀ m, f m = true → g m = true) : ∀ {l : List Ty}, Ty.alls f l = true → Ty.alls g l = true
  | [], _ => rfl
  | t :: ts, h => by simp only [Ty.alls, Bool.and_eq_true] at h ⊢; exact ⟨Ty.all_mono hfg h.1, Ty.alls_mono hfg h.2⟩
end

mutual
theorem Ty.modAt_all {f : Nat → Md → Md} {g : Md → Bool} (hfg : ∀ p m, g (f p m) = true) : ∀ (t : Ty) (p : Nat), (t.modAt f p).all g = true
  | .sc, _ => rfl
  | .agg l, p => by simp only [Ty.modAt, Ty.all]; exact Ty.modsAt_alls hfg l p
  | .sl m e, p => by simp only [Ty.modAt, Ty.all]; exact hfg p m
theorem Ty.modsAt_alls {f : Nat → Md → Md} {g : Md → Bool} (hfg : ∀ p m, g (f p m) = true) : ∀ (l : List Ty) (p : Nat), Ty.alls g (Ty.modsAt f p l) = true
  | [], _ => rfl
  | t :: ts, p => by simp only [Ty.modsAt, Ty.alls, Bool.and_eq_true]; exact ⟨Ty.modAt_all hfg t p, Ty.modsAt_alls hfg ts _⟩
end

mutual
theorem Ty.modAt_of_all {f : Nat → Md → Md} {g : Md → Bool} (hfg : ∀ p m, g m = true → f p m = m) : ∀ {t : Ty} (p : Nat), t.all g = true → t.modAt f p = t
  | .sc, _, _ => rfl
  | .agg l, p, h => by simp only [Ty.modAt]; rw [Ty.modsAt_of_all hfg p (by simpa only [Ty.all] using h)]
  | .sl m e, p, h => by simp only [Ty.modAt]; rw [hfg p m (by simpa only [Ty.all] using h)]
theorem Ty.modsAt_of_all {f : Nat → Md → Md} {g : Md → Bool} (hfg : ∀ p m, g m = true → f p m = m) : ∀ {l : List Ty} (p : Nat), Ty.alls g l = true → Ty.modsAt f p l = l
  | [], _, _ => rfl
  | t :: ts, p, h => by
    simp only [Ty.alls, Bool.and_eq_true] at h
    simp only [Ty.modsAt]; rw [Ty.modAt_of_all hfg p h.1, Ty.modsAt_of_all hfg _ h.2]
end

theorem Ty.sh_of_isSh {t : Ty} (h : t.isSh = true) : t.sh = t :=
  Ty.modAt_of_all (g := fun m => m == .sh) (fun p m hm => by cases m <;> simp at hm <;> rfl) 0 h

mutual
theorem Ty.sh_isSh : ∀ {t : Ty} (p : Nat), t.noDead = true → (t.modAt (fun _ m => toSh m) p).isSh = true
  | .sc, _, _ => rfl
  | .agg l, p, h => by
    simp only [Ty.modAt, Ty.isSh, Ty.all]; exact Ty.shs_isSh p (by simpa only [Ty.noDead, Ty.all] using h)
  | .sl m e, p, h => by
    simp only [Ty.noDead, Ty.all] at h
    simp only [Ty.modAt, Ty.isSh, Ty.all]
    cases m <;> simp_all [toSh]
theorem Ty.shs_isSh : ∀ {l : List Ty} (p : Nat), Ty.alls (fun m => m != .dead) l = true → Ty.alls (fun m => m == .sh) (Ty.modsAt (fun _ m => toSh m) p l) = true
  | [], _, _ => rfl
  | t :: ts, p, h => by
    simp only [Ty.alls, Bool.and_eq_true] at h
    simp only [Ty.modsAt, Ty.alls, Bool.and_eq_true]
    exact ⟨Ty.sh_isSh p h.1, Ty.shs_isSh _ h.2⟩
end

mutual
theorem RepSh.rep {w : World} {O : OMap} (ρ : Option Nat) : ∀ {t : Ty} (p : Nat) {x : PV} {cs : List Value}, t.isSh = true → (RepSh w O t x cs ↔ Rep w O ρ t p x cs)
  | .sc, p, x, cs, _ => by simp only [RepSh, Rep]
  | .agg l, p, x, cs, h => by
    simp only [Rep]; unfold RepSh
    constructor
    · rintro ⟨xs, hx, h'⟩; exact ⟨xs, hx, (RepShs.reps ρ p (by simpa only [Ty.isSh, Ty.all] using h)).1 h'⟩
    · rintro ⟨xs, hx, h'⟩; exact ⟨xs, hx, (RepShs.reps ρ p (by simpa only [Ty.isSh, Ty.all] using h)).2 h'⟩
  | .sl m e, p, x, cs, h => by
    simp only [Ty.isSh, Ty.all] at h
    cases m <;> simp at h
    simp only [Rep, SlRep]
theorem RepShs.reps {w : World} {O : OMap} (ρ : Option Nat) : ∀ {l : List Ty} (p : Nat) {xs : List PV} {cs : List Value}, Ty.alls (fun m => m == .sh) l = true →
    (RepShs w O l xs cs ↔ Reps w O ρ l p xs cs)
  | [], p, xs, cs, _ => by simp only [RepShs, Reps]
  | t :: ts, p, xs, cs, h => by
    simp only [Ty.alls, Bool.and_eq_true] at h
    simp only [Reps]; unfold RepShs
    constructor
    · rintro ⟨y, ys, c1, c2, h1, h2, h3, h4⟩; exact ⟨y, ys, c1, c2, h1, h2, (RepSh.rep ρ p h.1).1 h3, (RepShs.reps ρ _ h.2).1 h4⟩
    · rintro ⟨y, ys, c1, c2, h1, h2, h3, h4⟩; exact ⟨y, ys, c1, c2, h1, h2, (RepSh.rep ρ p h.1).2 h3, (RepShs.reps ρ _ h.2).2 h4⟩
end

/-! ### parts -/
theorem Reps.get {w : World} {O : OMap} {ρ : Option Nat} : ∀ {l : List Ty} {p : Nat} {xs : List PV} {cs : List Value}, Reps w O ρ l p xs cs → ∀ {i : Nat} {t : Ty}, l[i]? = some t →
    ∃ y, xs[i]? = some y ∧ Rep w O ρ t (p + Ty.sizes (l.take i)) y ((cs.drop (Ty.sizes (l.take i))).take t.size) ∧ Ty.sizes (l.take i) + t.size ≤ Ty.sizes l
  | [], p, xs, cs, _, i, t, hi => by simp at hi
  | u :: us, p, xs, cs, h, i, t, hi => by
    simp only [Reps] at h
    obtain ⟨y, ys, c1, c2, rfl, rfl, h1, h2⟩ := h
    have hl := Rep.length h1
    cases i with
    | zero =>
      simp at hi; subst hi
      refine ⟨y, rfl, ?_, by simp [Ty.sizes]⟩
      simpa [Ty.sizes, ← hl] using h1
    | succ i =>
      simp only [List.getElem?_cons_succ] at hi
      obtain ⟨z, hz, hr, hs⟩ := Reps.get h2 hi
      refine ⟨z, by simpa using hz, ?_, by simp only [List.take_succ_cons, Ty.sizes]; omega⟩
      simp only [List.take_succ_cons, Ty.sizes]
      rw [← Nat.add_assoc]
      have : (c1 ++ c2).drop (u.size + Ty.sizes (us.take i)) = c2.drop (Ty.sizes (us.take i)) := by
        rw [← hl, List.drop_append, List.drop_eq_nil_of_le (by omega)]; simp
      rw [this]
      exact hr

theorem Reps.set {w : World} {O : OMap} {ρ : Option Nat} : ∀ {l : List Ty} {p : Nat} {xs : List PV} {cs : List Value}, Reps w O ρ l p xs cs → ∀ {i : Nat} {t t' : Ty} {y' : PV} {c' : List Value}, l[i]? = some t →
    t'.size = t.size → Rep w O ρ t' (p + Ty.sizes (l.take i)) y' c' →
    Reps w O ρ (l.set i t') p (xs.set i y') (cs.take (Ty.sizes (l.take i)) ++ (c' ++ cs.drop (Ty.sizes (l.take i) + t.size)))
  | [], p, xs, cs, _, i, t, t', y', c', hi, _, _ => by simp at hi
  | u :: us, p, xs, cs, h, i, t, t', y', c', hi, hs, h' => by
    simp only [Reps] at h
    obtain ⟨y, ys, c1, c2, rfl, rfl, h1, h2⟩ := h
    have hl := Rep.length h1
    cases i with
    | zero =>
      simp at hi; subst hi
      simp only [List.set_cons_zero, List.take_zero, Ty.sizes, Nat.zero_add, List.nil_append, Reps]
      refine ⟨y', ys, c', c2, rfl, ?_, by simpa [Ty.sizes] using h', by rw [hs]; exact h2⟩
      rw [← hl]; simp
    | succ i =>
      simp only [List.getElem?_cons_succ] at hi
      simp only [List.take_succ_cons, Ty.sizes] at h'
      rw [← Nat.add_assoc] at h'
      have := Reps.set h2 hi hs h'
      simp only [List.set_cons_succ, List.take_succ_cons, Ty.sizes, Reps]
      refine ⟨y, ys.set i y', c1, _, rfl, ?_, h1, this⟩
      have e1 : (c1 ++ c2).take (u.size + Ty.sizes (us.take i)) = c1 ++ c2.take (Ty.sizes (us.take i)) := by
        rw [← hl, List.take_append, List.take_of_length_le (by omega)]; simp
      have e2 : (c1 ++ c2).drop (u.size + Ty.sizes (us.take i) + t.size) = c2.drop (Ty.sizes (us.take i) + t.size) := by
        rw [← hl, List.drop_append, List.drop_eq_nil_of_le (by omega)]; simp [Nat.add_assoc]
      rw [e1, e2]; simp

/-- the part of a value at a path through aggregates -/
theorem Rep.part {w : World} {O : OMap} {ρ : Option Nat} : ∀ (q : List Nat) {t u : Ty} {o p : Nat} {x : PV} {cs : List Value}, Ty.at q t = some (u, o) → Rep w O ρ t p x cs →
    ∃ y, getP q x = some y ∧ Rep w O ρ u (p + o) y ((cs.drop o).take u.size) ∧ o + u.size ≤ t.size
  | [], t, u, o, p, x, cs, ha, h => by
    simp [Ty.at] at ha
    obtain ⟨rfl, rfl⟩ := ha
    refine ⟨x, rfl, ?_, by omega⟩
    have := Rep.length h
    simpa [← this] using h
  | i :: q, .agg l, u, o, p, x, cs, ha, h => by
    simp only [Ty.at, Option.bind_eq_some_iff, Option.map_eq_some_iff] at ha
    obtain ⟨t, ht, ⟨u', o'⟩, ha, he⟩ := ha
    cases he
    simp only [Rep] at h
    obtain ⟨xs, rfl, h⟩ := h
    obtain ⟨y, hy, hr, hs⟩ := Reps.get h ht
    obtain ⟨z, hz, hr', hs'⟩ := Rep.part q ha hr
    refine ⟨z, by simp [getP, hy, hz], ?_, by simp only [Ty.size]; omega⟩
    rw [← Nat.add_assoc]
    have : (((cs.drop (Ty.sizes (l.take i))).take t.size).drop o').take u'.size = (cs.drop (Ty.sizes (l.take i) + o')).take u'.size := by
      rw [List.drop_take, List.take_take, List.drop_drop, Nat.min_eq_left (by omega)]
    rw [← this]
    exact hr'
  | _ :: _, .sc, _, _, _, _, _, ha, _ => by simp [Ty.at] at ha
  | _ :: _, .sl _ _, _, _, _, _, _, ha, _ => by simp [Ty.at] at ha

/-- a part is replaced -/
theorem Rep.put {w : World} {O : OMap} {ρ : Option Nat} : ∀ (q : List Nat) {t u u' t' : Ty} {o p : Nat} {x y' : PV} {cs c' : List Value}, Ty.at q t = some (u, o) → Ty.put q t u' = some t' →
    u'.size = u.size → Rep w O ρ t p x cs → Rep w O ρ u' (p + o) y' c' →
    ∃ x', setP q x y' = some x' ∧ Rep w O ρ t' p x' (cs.take o ++ (c' ++ cs.drop (o + u.size))) ∧ t'.size = t.size
  | [], t, u, u', t', o, p, x, y', cs, c', ha, hp, hs, h, h' => by
    simp [Ty.at] at ha; simp [Ty.put] at hp
    obtain ⟨rfl, rfl⟩ := ha; subst hp
    refine ⟨y', rfl, ?_, hs⟩
    have := Rep.length h
    simpa [← this] using h'
  | i :: q, .agg l, u, u', t', o, p, x, y', cs, c', ha, hp, hs, h, h' => by
    simp only [Ty.at, Option.bind_eq_some_iff, Option.map_eq_some_iff] at ha
    obtain ⟨t, ht, ⟨u2, o'⟩, ha, he⟩ := ha
    cases he
    simp only [Ty.put, Option.bind_eq_some_iff, Option.map_eq_some_iff] at hp
    obtain ⟨t2, ht2, t3, hp, rfl⟩ := hp
    rw [ht] at ht2; cases ht2
    simp only [Rep] at h
    obtain ⟨xs, rfl, h⟩ := h
    obtain ⟨y, hy, hr, hsz⟩ := Reps.get h ht
    have hle : o' + u2.size ≤ t.size := (Rep.part q ha hr).choose_spec.2.2
    rw [← Nat.add_assoc] at h'
    obtain ⟨y2, hy2, hr2, hs2⟩ := Rep.put q ha hp hs hr h'
    refine ⟨.agg (xs.set i y2), by simp [setP, hy, hy2], ?_, ?_⟩
    · simp only [Rep]
      refine ⟨_, rfl, ?_⟩
      have := Reps.set h ht hs2 hr2
      have hlen := Reps.length h
      have e : cs.take (Ty.sizes (l.take i)) ++ ((List.take o' ((cs.drop (Ty.sizes (l.take i))).take t.size) ++ (c' ++ List.drop (o' + u2.size) ((cs.drop (Ty.sizes (l.take i))).take t.size))) ++ cs.drop (Ty.sizes (l.take i) + t.size)) =
          cs.take (Ty.sizes (l.take i) + o') ++ (c' ++ cs.drop (Ty.sizes (l.take i) + o' + u2.size)) := by
        generalize Ty.sizes (l.take i) = n at *
        have e1 : cs.take (n + o') = cs.take n ++ (cs.drop n).take o' := by rw [List.take_add]
        have e2 : List.take o' ((cs.drop n).take t.size) = (cs.drop n).take o' := by rw [List.take_take, Nat.min_eq_left (by omega)]
        have e3 : List.drop (o' + u2.size) ((cs.drop n).take t.size) = ((cs.drop (n + o' + u2.size)).take (t.size - (o' + u2.size))) := by
          rw [List.drop_take, List.drop_drop, Nat.add_assoc]
        have e4 : cs.drop (n + o' + u2.size) = (cs.drop (n + o' + u2.size)).take (t.size - (o' + u2.size)) ++ cs.drop (n + t.size) := by
          conv => lhs; rw [← List.take_append_drop (t.size - (o' + u2.size)) (cs.drop (n + o' + u2.size))]
          rw [List.drop_drop]
          congr 2; omega
        rw [e1, e2, e3]
        conv => rhs; rw [e4]
        simp [List.append_assoc]
      rw [e] at this
      exact this
    · simp only [Ty.size]
      exact sizes_set l i ht hs2
  | _ :: _, .sc, _, _, _, _, _, _, _, _, _, ha, _, _, _, _ => by simp [Ty.at] at ha
  | _ :: _, .sl _ _, _, _, _, _, _, _, _, _, _, ha, _, _, _, _ => by simp [Ty.at] at ha
where
  sizes_set : ∀ (l : List Ty) (i : Nat) {t t' : Ty}, l[i]? = some t → t'.size = t.size → Ty.sizes (l.set i t') = Ty.sizes l
    | [], i, _, _, h, _ => by simp at h
    | u :: us, 0, _, _, h, hs => by simp at h; subst h; simp [Ty.sizes, hs]
    | u :: us, i + 1, _, _, h, hs => by simp only [List.getElem?_cons_succ] at h; simp [Ty.sizes, sizes_set us i h hs]

end Go.Vm

/-
  The invariant between a state of the value language and a frame and memory of the machine.
  Conditions: none.
-/
set_option linter.unusedVariables false
set_option linter.unusedSimpArgs false
namespace Go.Vm

def val (a : Act) (i : Nat) : Value := a.tmps.getD i undef

/-- the cells of a value of type `ty` -/
def Wrap (ty : Ty) (v : Value) (cs : List Value) : Prop := match ty with
  | .agg _ => v = .agg cs.toArray
  | _ => cs = [v]

def BoxAt (w : World) (b o n : Nat) (cs : List Value) : Prop :=
  ∃ c el fr, w.heap[b]? = some (.cells c el fr) ∧ o + n ≤ c.size ∧ Free fr c.size ∧ cs = cellsAt c o n

/-- the cells of a root's content -/
def CellsOf (a : Act) (w : World) (S : Vw) (r : Nat) (cs : List Value) : Prop :=
  match (S r).av with
  | .box ty => ∃ b o, val a r = .pointer (some ⟨b, o, none⟩) ∧ BoxAt w b o ty.size cs
  | .val ty => Wrap ty (val a r) cs
  | .alias ty _ _ _ _ => Wrap ty (val a r) cs
  | _ => False

inductive MatchP : List (Option Nat) → List Nat → Prop
  | nil : MatchP [] []
  | some (i p q) : MatchP p q → MatchP (some i :: p) (i :: q)
  | none (i p q) : MatchP p q → MatchP (none :: p) (i :: q)

def Tups (w : World) (O : OMap) (ρ : Option Nat) : List Ty → Nat → List PV → List Value → Prop
  | [], _, xs, vs => xs = [] ∧ vs = []
  | t :: ts, p, xs, vs => ∃ y ys v us cs, xs = y :: ys ∧ vs = v :: us ∧ Wrap t v cs ∧ Rep w O ρ t p y cs ∧ Tups w O ρ ts (p + t.size) ys us

/-- a pointer, or a function value that holds it -/
def wrapC : Option (Nat × Bool) → Value → Value
  | none, v => v
  | some (f, true), v => .func (.func f) #[v] #[]
  | some (f, false), v => .func (.func f) #[] #[v]

/-- a pointer to a place of a box -/
def Tgt (S : Vw) (s : St) (a : Act) (t : Nat × List Nat × Nat) (v : Value) : Prop :=
  (S t.1).d = t.2.2 → ∃ b o ty u off, (S t.1).av = .box ty ∧ get s t.1 ≠ .undef ∧ val a t.1 = .pointer (some ⟨b, o, none⟩) ∧ Ty.at t.2.1 ty = some (u, off) ∧ v = .pointer (some ⟨b, o + off, none⟩)

def idx (j : Nat) : PV := .int .i64 (j : Int)

/-- pointers to places of boxes, in a row that is not written any more -/
def Row (O : OMap) (w : World) (F : Nat × List Nat × Nat → Value → Prop) (ts : List (Nat × List Nat × Nat)) (ad : Addr) : Prop :=
  ad.spot = none ∧ O ad.block = none ∧ ∃ c el fr, w.heap[ad.block]? = some (.cells c el fr) ∧ ∀ (j : Nat) t, ts[j]? = some t → ∃ v, c[ad.off + j]? = some v ∧ F t v ∧ ∃ x, v = .pointer (some x)

def MpOK (O : OMap) (w : World) (F : Nat × List Nat × Nat → Value → Prop) (k : MK) (ts : List (Nat × List Nat × Nat)) (x : PV) (v : Value) : Prop :=
  match k with
  | .pt => ∃ (j : Nat) (t : Nat × List Nat × Nat), x = idx j ∧ ts[j]? = some t ∧ F t v ∧ ∃ y, v = .pointer (some y)
  | .el => ∃ (j : Nat) (ad : Addr), x = idx j ∧ j < ts.length ∧ v = .pointer (some ⟨ad.block, ad.off + j, none⟩) ∧ Row O w F ts ad
  | .sl => x = .agg (idxs ts.length) ∧ ∃ ad, v = .slice (some ad) ts.length ts.length ∧ Row O w F ts ad

theorem Row.mono {O O' : OMap} {w w' : World} {F F' : Nat × List Nat × Nat → Value → Prop} {ts : List (Nat × List Nat × Nat)} {ad : Addr} (k : Keeps w O w' O') (h : ∀ t ∈ ts, ∀ v, F t v → F' t v) (hr : Row O w F ts ad) : Row O' w' F' ts ad := by
  obtain ⟨h1, h2, c, el, fr, h3, h4⟩ := hr
  refine ⟨h1, (k _ h2).1, c, el, fr, (k _ h2).2.trans h3, fun j t ht => ?_⟩
  obtain ⟨v, g1, g2, g3⟩ := h4 j t ht
  exact ⟨v, g1, h t (List.mem_of_getElem? ht) v g2, g3⟩

theorem MpOK.mono {O O' : OMap} {w w' : World} {F F' : Nat × List Nat × Nat → Value → Prop} {k : MK} {ts : List (Nat × List Nat × Nat)} {x : PV} {v : Value} (hk : Keeps w O w' O') (h : ∀ t ∈ ts, ∀ v, F t v → F' t v) (hr : MpOK O w F k ts x v) : MpOK O' w' F' k ts x v := by
  cases k with
  | pt => obtain ⟨j, t, h1, h2, h3, h4⟩ := hr; exact ⟨j, t, h1, h2, h t (List.mem_of_getElem? h2) v h3, h4⟩
  | el => obtain ⟨j, ad, h1, h2, h3, h4⟩ := hr; exact ⟨j, ad, h1, h2, h3, h4.mono hk h⟩
  | sl => obtain ⟨h1, ad, h2, h3⟩ := hr; exact ⟨h1, ad, h2, h3.mono hk h⟩

/-- the places renamed -/
theorem MpOK.map {O : OMap} {w : World} {F F' : Nat × List Nat × Nat → Value → Prop} {k : MK} {ts : List (Nat × List Nat × Nat)} {g : Nat × List Nat × Nat → Nat × List Nat × Nat} {x : PV} {v : Value} (h : ∀ t ∈ ts, ∀ v, F t v → F' (g t) v) (hr : MpOK O w F k ts x v) : MpOK O w F' k (ts.map g) x v := by
  have row : ∀ ad, Row O w F ts ad → Row O w F' (ts.map g) ad := fun ad hr => by
    obtain ⟨h1, h2, c, el, fr, h3, h4⟩ := hr
    refine ⟨h1, h2, c, el, fr, h3, fun j t ht => ?_⟩
    simp only [List.getElem?_map, Option.map_eq_some_iff] at ht
    obtain ⟨t0, ht, rfl⟩ := ht
    obtain ⟨v, g1, g2, g3⟩ := h4 j t0 ht
    exact ⟨v, g1, h t0 (List.mem_of_getElem? ht) v g2, g3⟩
  cases k with
  | pt => obtain ⟨j, t, h1, h2, h3, h4⟩ := hr; exact ⟨j, g t, h1, by simp [h2], h t (List.mem_of_getElem? h2) v h3, h4⟩
  | el => obtain ⟨j, ad, h1, h2, h3, h4⟩ := hr; exact ⟨j, ad, h1, by simpa using h2, h3, row ad h4⟩
  | sl => obtain ⟨h1, ad, h2, h3⟩ := hr; exact ⟨by simpa using h1, ad, by simpa using h2, row ad h3⟩

def CellOK (S : Vw) (s : St) (O : OMap) (a : Act) (w : World) (i : Nat) : Prop :=
  match (S i).av with
  | .dead => True
  | .val ty => ∃ cs, Wrap ty (val a i) cs ∧ Rep w O (some i) ty 0 (get s i) cs
  | .tup tys => ∃ xs vs, get s i = .tup xs ∧ val a i = .tuple vs.toArray ∧ Tups w O (some i) tys 0 xs vs
  | .alias ty r pos p c => (S r).c = c → ∃ cs, Wrap ty (val a i) cs ∧ Rep w O (some r) ty pos (get s i) cs ∧
      (∀ q, p = some q → get s r ≠ .undef ∧ ∃ tyr csr ty0, rootTy S r = some tyr ∧ CellsOf a w S r csr ∧ getP q (get s r) = some (get s i) ∧ Ty.at q tyr = some (ty0, pos) ∧ ty0.er = ty.er ∧ (csr.drop pos).take ty.size = cs)
  | .box ty => ∃ b o cs, val a i = .pointer (some ⟨b, o, none⟩) ∧ O b = some (.box i) ∧ BoxAt w b o ty.size cs ∧ Rep w O (some i) ty 0 (get s i) cs
  | .bptr r path d k => (S r).d = d → ∃ q b o ty u off, get s i = .ptr q ∧ MatchP path q ∧ (S r).av = .box ty ∧ get s r ≠ .undef ∧
      val a r = .pointer (some ⟨b, o, none⟩) ∧ Ty.at q ty = some (u, off) ∧ val a i = wrapC k (.pointer (some ⟨b, o + off, none⟩))
  | .eptr r hp path h => (S r).h = h → ∃ j ip tyr csr m e pos ad len cap u off, get s i = .ptr (hp ++ j :: ip) ∧ MatchP path ip ∧ get s r ≠ .undef ∧
      rootTy S r = some tyr ∧ CellsOf a w S r csr ∧ Ty.at hp tyr = some (.sl m e, pos) ∧ csr[pos]? = some (.slice (some ad) len cap) ∧ ad.spot = none ∧ j < len ∧
      Ty.at ip e = some (u, off) ∧ val a i = .pointer (some ⟨ad.block, ad.off + (j * e.size + off), none⟩)
  | .mp k ts => MpOK O w (Tgt S s a) k ts (get s i) (val a i)

/-- versions that a reference bears are none of the future -/
def VersOK (S : Vw) (i : Nat) : Prop :=
  match (S i).av with
  | .alias _ r _ _ c => c ≤ (S r).c
  | .bptr r _ d _ => d ≤ (S r).d
  | .eptr r _ _ h => h ≤ (S r).h
  | .mp _ ts => ∀ t ∈ ts, t.2.2 ≤ (S t.1).d
  | _ => True

structure Frame0 (w0 : World) (O0 : OMap) (w : World) (O : OMap) : Prop where
  os : w.os = w0.os
  output : w.output = w0.output
  tape : w.tape = w0.tape
  size : w0.heap.size ≤ w.heap.size
  heap : ∀ b, b < w0.heap.size → (O0 b = none ∨ O0 b = some .foreign) → w.heap[b]? = w0.heap[b]? ∧ O b = O0 b
  alloc : ∀ b, w.heap.size ≤ b → O b = some .foreign

structure Inv (S : Vw) (s : St) (n : Nat) (w0 : World) (O0 : OMap) (a : Act) (w : World) (O : OMap) : Prop where
  size : a.tmps.size = n
  slen : s.length = n
  defers : a.defers = []
  frame : Frame0 w0 O0 w O
  vers : ∀ i, VersOK S i
  out : ∀ i, n ≤ i → (S i).av = .dead
  boxes : ∀ i ty, (S i).av = .box ty → get s i ≠ .undef
  cell : ∀ i, i < n → get s i = .undef ∨ CellOK S s O a w i
  /-- a scalar that this region passed over -/
  und : ∀ i, (S i).av = .val .sc → 0 < (S i).d → get s i = .undef → val a i = undef

/-! ### shapes -/
mutual
theorem modAt_modAt (f g : Nat → Md → Md) : ∀ (t : Ty) (p : Nat), (t.modAt f p).modAt g p = t.modAt (fun q m => g q (f q m)) p
  | .sc, _ => rfl
  | .agg l, p => by simp only [Ty.modAt]; rw [modsAt_modsAt f g l p]
  | .sl m e, p => rfl
theorem modsAt_modsAt (f g : Nat → Md → Md) : ∀ (l : List Ty) (p : Nat), Ty.modsAt g p (Ty.modsAt f p l) = Ty.modsAt (fun q m => g q (f q m)) p l
  | [], _ => rfl
  | t :: ts, p => by simp only [Ty.modsAt]; rw [modAt_modAt f g t p, modAt_size, modsAt_modsAt f g ts _]
end

theorem Ty.er_modAt (f : Nat → Md → Md) (t : Ty) : (t.modAt f 0).er = t.er := by
  unfold Ty.er; rw [modAt_modAt]

mutual
theorem modAt_const (m : Md) : ∀ (t : Ty) (p q : Nat), t.modAt (fun _ _ => m) p = t.modAt (fun _ _ => m) q
  | .sc, _, _ => rfl
  | .agg l, p, q => by simp only [Ty.modAt]; rw [modsAt_const m l p q]
  | .sl _ e, _, _ => rfl
theorem modsAt_const (m : Md) : ∀ (l : List Ty) (p q : Nat), Ty.modsAt (fun _ _ => m) p l = Ty.modsAt (fun _ _ => m) q l
  | [], _, _ => rfl
  | t :: ts, p, q => by simp only [Ty.modsAt]; rw [modAt_const m t p q, modsAt_const m ts _ (q + t.size)]
end

theorem Ty.er_modAt' (f : Nat → Md → Md) (t : Ty) (p : Nat) : (t.modAt f p).er = t.er := by
  unfold Ty.er
  rw [modAt_const .sh (t.modAt f p) 0 p, modAt_modAt]
  exact modAt_const .sh t p 0

def ers (l : List Ty) : List Ty := l.map Ty.er

theorem modsAt_ers (l : List Ty) (p : Nat) : Ty.modsAt (fun _ _ => .sh) p l = ers l := by
  induction l generalizing p with
  | nil => rfl
  | cons t ts ih => simp only [Ty.modsAt, ers, List.map_cons]; rw [ih]; rw [modAt_const .sh t p 0]; rfl

theorem Ty.er_agg (l : List Ty) : (Ty.agg l).er = .agg (ers l) := by
  show Ty.agg (Ty.modsAt _ 0 l) = _
  rw [modsAt_ers]

theorem Ty.er_size (t : Ty) : t.er.size = t.size := modAt_size _ t 0
theorem Ty.size_of_er {t u : Ty} (h : t.er = u.er) : t.size = u.size := by rw [← Ty.er_size t, h, Ty.er_size]

theorem sizes_ers (l : List Ty) : Ty.sizes (ers l) = Ty.sizes l := by
  rw [← modsAt_ers l 0]; exact modsAt_sizes _ l 0

/-- a path leads to the same place in types of one shape -/
theorem Ty.at_er : ∀ (q : List Nat) {t u t' : Ty} {o : Nat}, t.er = t'.er → Ty.at q t = some (u, o) → ∃ u', Ty.at q t' = some (u', o) ∧ u.er = u'.er
  | [], t, u, t', o, he, h => by
    simp [Ty.at] at h; obtain ⟨rfl, rfl⟩ := h
    exact ⟨t', rfl, he⟩
  | i :: q, .agg l, u, t', o, he, h => by
    cases t' with
    | sc => simp [Ty.er, Ty.modAt] at he
    | sl m e => simp [Ty.er, Ty.modAt] at he
    | agg l' =>
      rw [Ty.er_agg, Ty.er_agg] at he
      injection he with he
      simp only [Ty.at, Option.bind_eq_some_iff, Option.map_eq_some_iff] at h
      obtain ⟨t, ht, ⟨u2, o2⟩, ha, hh⟩ := h
      cases hh
      have hi : (ers l)[i]? = some t.er := by simp [ers, ht]
      rw [he] at hi
      simp only [ers, List.getElem?_map, Option.map_eq_some_iff] at hi
      obtain ⟨t2, ht2, he2⟩ := hi
      obtain ⟨u', ha', hu⟩ := Ty.at_er q he2.symm ha
      have hsz : Ty.sizes (l.take i) = Ty.sizes (l'.take i) := by
        have e1 : ers (l.take i) = (ers l).take i := by simp [ers]
        have e2 : ers (l'.take i) = (ers l').take i := by simp [ers]
        have e3 := sizes_ers (l.take i)
        have e4 := sizes_ers (l'.take i)
        rw [e1, he, ← e2, e4] at e3
        exact e3.symm
      exact ⟨u', by simp [Ty.at, ht2, ha', hsz], hu⟩
  | _ :: _, .sc, _, _, _, _, h => by simp [Ty.at] at h
  | _ :: _, .sl _ _, _, _, _, _, h => by simp [Ty.at] at h

theorem Ty.er_sl {m m' : Md} {e : Ty} {t : Ty} (h : (Ty.sl m e).er = t.er) : ∃ m', t = .sl m' e := by
  cases t with
  | sc => simp [Ty.er, Ty.modAt] at h
  | agg l => simp [Ty.er, Ty.modAt] at h
  | sl m2 e2 =>
    simp [Ty.er, Ty.modAt] at h
    exact ⟨m2, by rw [h]⟩

theorem Wrap.er {t t' : Ty} {v : Value} {cs : List Value} (h : t.er = t'.er) (hw : Wrap t v cs) : Wrap t' v cs := by
  cases t <;> cases t' <;> simp [Ty.er, Ty.modAt] at h <;> exact hw

theorem Wrap.unique {t : Ty} {v : Value} {cs cs' : List Value} (h : Wrap t v cs) (h' : Wrap t v cs') : cs = cs' := by
  cases t with
  | agg l =>
    simp only [Wrap] at h h'
    subst h; injection h' with h'
    have := congrArg Array.toList h'
    simpa using this
  | sc => simp only [Wrap] at h h'; rw [h, h']
  | sl => simp only [Wrap] at h h'; rw [h, h']

/-! ### what a change leaves -/
/-- The change from one state to the next: `T` are the temporaries that it touches. -/
structure Ch (S S' : Vw) (s s' : St) (O O' : OMap) (a a' : Act) (w w' : World) (T : Nat → Prop) : Prop where
  none : Keeps w O w' O'
  own : ∀ b r p, O b = some (.own (some r) p) → ¬T r → O' b = O b ∧ w'.heap[b]? = w.heap[b]?
  box : ∀ b r, O b = some (.box r) → ¬T r → O' b = O b ∧ w'.heap[b]? = w.heap[b]?
  same : ∀ i, ¬T i → S' i = S i ∧ get s' i = get s i ∧ val a' i = val a i
  vers : ∀ i, T i → (S i).c < (S' i).c ∧ (S i).h ≤ (S' i).h ∧ (S i).d ≤ (S' i).d
  bp : ∀ i, T i → (S' i).d = (S i).d → ∀ ty, (S i).av = .box ty → get s i ≠ .undef → ∃ ty', (S' i).av = .box ty' ∧ ty.er = ty'.er ∧ get s' i ≠ .undef ∧ val a' i = val a i
  ep : ∀ i, T i → (S' i).h = (S i).h → ∀ csr tyr, CellsOf a w S i csr → rootTy S i = some tyr → get s i ≠ .undef →
    get s' i ≠ .undef ∧ ∃ tyr', CellsOf a' w' S' i csr ∧ rootTy S' i = some tyr' ∧ tyr.er = tyr'.er

theorem Ch.versOK {S S' : Vw} {s s' : St} {O O' : OMap} {a a' : Act} {w w' : World} {T : Nat → Prop} (ch : Ch S S' s s' O O' a a' w w' T) {i : Nat} (hi : ¬T i)
    (h : VersOK S i) : VersOK S' i := by
  unfold VersOK at *
  rw [(ch.same i hi).1]
  have key : ∀ r, (S r).c ≤ (S' r).c ∧ (S r).h ≤ (S' r).h ∧ (S r).d ≤ (S' r).d := fun r => by
    by_cases hr : T r
    · have := ch.vers r hr; exact ⟨by omega, this.2⟩
    · rw [(ch.same r hr).1]; exact ⟨Nat.le_refl _, Nat.le_refl _, Nat.le_refl _⟩
  revert h
  cases (S i).av <;> simp only [] <;> intro h <;> first | trivial | exact fun t ht => Nat.le_trans (h t ht) (key _).2.2 | exact Nat.le_trans h (key _).1 | exact Nat.le_trans h (key _).2.1 | exact Nat.le_trans h (key _).2.2

theorem Ch.rep {S S' : Vw} {s s' : St} {O O' : OMap} {a a' : Act} {w w' : World} {T : Nat → Prop} (ch : Ch S S' s s' O O' a a' w w' T) {r : Nat} (hr : ¬T r)
    {t : Ty} {p : Nat} {x : PV} {cs : List Value} (h : Rep w O (some r) t p x cs) : Rep w' O' (some r) t p x cs :=
  h.move ch.none fun q b _ hb => ⟨(ch.own b r _ hb hr).1.trans hb, (ch.own b r _ hb hr).2⟩

theorem Ch.tups {S S' : Vw} {s s' : St} {O O' : OMap} {a a' : Act} {w w' : World} {T : Nat → Prop} (ch : Ch S S' s s' O O' a a' w w' T) {r : Nat} (hr : ¬T r) :
    ∀ {ts : List Ty} {p : Nat} {xs : List PV} {vs : List Value}, Tups w O (some r) ts p xs vs → Tups w' O' (some r) ts p xs vs
  | [], _, _, _, h => by simpa only [Tups] using h
  | t :: ts, p, xs, vs, h => by
    simp only [Tups] at h ⊢
    obtain ⟨y, ys, v, us, cs, h1, h2, h3, h4, h5⟩ := h
    exact ⟨y, ys, v, us, cs, h1, h2, h3, ch.rep hr h4, ch.tups hr h5⟩

theorem BoxAt.keep {w w' : World} {b o n : Nat} {cs : List Value} (h : w'.heap[b]? = w.heap[b]?) (hb : BoxAt w b o n cs) : BoxAt w' b o n cs := by
  obtain ⟨c, el, fr, h1, h2⟩ := hb
  exact ⟨c, el, fr, h.trans h1, h2⟩

/-- the content of a root that is not touched -/
theorem Ch.cellsOf {S S' : Vw} {s s' : St} {O O' : OMap} {a a' : Act} {w w' : World} {T : Nat → Prop} (ch : Ch S S' s s' O O' a a' w w' T) {r : Nat} (hr : ¬T r)
    (hok : CellOK S s O a w r) {cs : List Value} (h : CellsOf a w S r cs) : CellsOf a' w' S' r cs := by
  unfold CellsOf CellOK at *
  rw [(ch.same r hr).1, (ch.same r hr).2.2]
  cases hav : (S r).av <;> rw [hav] at h hok <;> simp only [] at h hok ⊢ <;> first | exact h | skip
  obtain ⟨b, o, _, h1, h2, _⟩ := hok
  obtain ⟨b', o', h3, h4⟩ := h
  rw [h1] at h3; cases h3
  exact ⟨b, o, h1, h4.keep (ch.box b r h2 hr).2⟩

theorem lt_of_alive {S : Vw} {s : St} {n : Nat} {w0 : World} {O0 : OMap} {a : Act} {w : World} {O : OMap} (inv : Inv S s n w0 O0 a w O) {r : Nat}
    (h : (S r).av ≠ .dead) : r < n := by
  rcases Nat.lt_or_ge r n with h' | h'
  · exact h'
  · exact absurd (inv.out r h') h

theorem rootTy_alive {S : Vw} {r : Nat} {t : Ty} (h : rootTy S r = some t) : (S r).av ≠ .dead := by
  intro hd; simp [rootTy, hd] at h

theorem rootTy_eq {S S' : Vw} {r : Nat} (h : S' r = S r) : rootTy S' r = rootTy S r := by simp [rootTy, h]

theorem Ch.tgt {S S' : Vw} {s s' : St} {O O' : OMap} {a a' : Act} {w w' : World} {T : Nat → Prop} (ch : Ch S S' s s' O O' a a' w w' T) {t : Nat × List Nat × Nat} {v : Value} (hv : t.2.2 ≤ (S t.1).d)
    (h : Tgt S s a t v) : Tgt S' s' a' t v := by
  intro hd
  by_cases hr : T t.1
  · have h3 := (ch.vers t.1 hr).2.2
    have hde : (S t.1).d = t.2.2 := by omega
    obtain ⟨b, o, ty, u, off, h4, h5, h6, h7, h8⟩ := h hde
    obtain ⟨ty', e1, e2, e3, e4⟩ := ch.bp t.1 hr (by omega) ty h4 h5
    obtain ⟨u', h9, _⟩ := Ty.at_er t.2.1 e2 h7
    exact ⟨b, o, ty', u', off, e1, e3, e4.trans h6, h9, h8⟩
  · rw [(ch.same t.1 hr).1] at hd
    obtain ⟨b, o, ty, u, off, h4, h5, h6, h7, h8⟩ := h hd
    exact ⟨b, o, ty, u, off, by rw [(ch.same t.1 hr).1]; exact h4, by rw [(ch.same t.1 hr).2.1]; exact h5, by rw [(ch.same t.1 hr).2.2]; exact h6, h7, h8⟩

/-- **What is not touched is as it was.** -/
theorem Ch.cell {S S' : Vw} {s s' : St} {O O' : OMap} {a a' : Act} {w w' : World} {T : Nat → Prop} (ch : Ch S S' s s' O O' a a' w w' T)
    {n : Nat} {w0 : World} {O0 : OMap} (inv : Inv S s n w0 O0 a w O) {i : Nat} (hi : ¬T i) (h : CellOK S s O a w i) : CellOK S' s' O' a' w' i := by
  have hv := inv.vers i
  have hroot : ∀ r, (S r).av ≠ .dead → get s r ≠ .undef → CellOK S s O a w r := fun r h1 h2 => (inv.cell r (lt_of_alive inv h1)).resolve_left h2
  unfold CellOK at h ⊢
  unfold VersOK at hv
  rw [(ch.same i hi).1, (ch.same i hi).2.1, (ch.same i hi).2.2]
  cases hav : (S i).av <;> rw [hav] at h hv <;> simp only [] at h hv ⊢
  case val ty =>
    obtain ⟨cs, h1, h2⟩ := h
    exact ⟨cs, h1, ch.rep hi h2⟩
  case tup tys =>
    obtain ⟨xs, vs, h1, h2, h3⟩ := h
    exact ⟨xs, vs, h1, h2, ch.tups hi h3⟩
  case alias ty r pos p c =>
    intro hc
    by_cases hr : T r
    · have := (ch.vers r hr).1; omega
    · rw [(ch.same r hr).1] at hc
      obtain ⟨cs, h1, h2, h3⟩ := h hc
      refine ⟨cs, h1, ch.rep hr h2, fun q hq => ?_⟩
      obtain ⟨h4, tyr, csr, ty0, h5, h6, h7, h8, h9, h10⟩ := h3 q hq
      rw [(ch.same r hr).2.1]
      exact ⟨h4, tyr, csr, ty0, by rw [rootTy_eq (ch.same r hr).1]; exact h5, ch.cellsOf hr (hroot r (rootTy_alive h5) h4) h6, h7, h8, h9, h10⟩
  case box ty =>
    obtain ⟨b, o, cs, h1, h2, h3, h4⟩ := h
    have := ch.box b i h2 hi
    exact ⟨b, o, cs, h1, this.1.trans h2, h3.keep this.2, ch.rep hi h4⟩
  case bptr r path d k =>
    intro hd
    by_cases hr : T r
    · have h3 := (ch.vers r hr).2.2
      have hde : (S r).d = d := by omega
      obtain ⟨q, b, o, ty, u, off, h1, h2, h4, h5, h6, h7, h8⟩ := h hde
      obtain ⟨ty', e1, e2, e3, e4⟩ := ch.bp r hr (by omega) ty h4 h5
      obtain ⟨u', h9, _⟩ := Ty.at_er q e2 h7
      exact ⟨q, b, o, ty', u', off, h1, h2, e1, e3, e4.trans h6, h9, h8⟩
    · rw [(ch.same r hr).1] at hd
      obtain ⟨q, b, o, ty, u, off, h1, h2, h4, h5, h6, h7, h8⟩ := h hd
      exact ⟨q, b, o, ty, u, off, h1, h2, by rw [(ch.same r hr).1]; exact h4, by rw [(ch.same r hr).2.1]; exact h5, by rw [(ch.same r hr).2.2]; exact h6, h7, h8⟩
  case eptr r hp path h0 =>
    intro hh
    by_cases hr : T r
    · have h3 := (ch.vers r hr).2.1
      have hde : (S r).h = h0 := by omega
      obtain ⟨j, ip, tyr, csr, m, e, pos, ad, len, cap, u, off, g1, g2, g3, g4, g5, g6, g7, g8, g9, g10, g11⟩ := h hde
      obtain ⟨e3, tyr', e1, e2, e4⟩ := ch.ep r hr (by omega) csr tyr g5 g4 g3
      obtain ⟨u', k1, k2⟩ := Ty.at_er hp e4 g6
      obtain ⟨m', rfl⟩ := Ty.er_sl (m' := m) k2
      exact ⟨j, ip, tyr', csr, m', e, pos, ad, len, cap, u, off, g1, g2, e3, e2, e1, k1, g7, g8, g9, g10, g11⟩
    · rw [(ch.same r hr).1] at hh
      obtain ⟨j, ip, tyr, csr, m, e, pos, ad, len, cap, u, off, g1, g2, g3, g4, g5, g6, g7, g8, g9, g10, g11⟩ := h hh
      exact ⟨j, ip, tyr, csr, m, e, pos, ad, len, cap, u, off, g1, g2, by rw [(ch.same r hr).2.1]; exact g3, by rw [rootTy_eq (ch.same r hr).1]; exact g4,
        ch.cellsOf hr (hroot r (rootTy_alive g4) g3) g5, g6, g7, g8, g9, g10, g11⟩
  case mp k ts => exact h.mono ch.none fun t ht v hx => ch.tgt (hv t ht) hx

theorem Ch.inv {S S' : Vw} {s s' : St} {O O' : OMap} {a a' : Act} {w w' : World} {T : Nat → Prop} (ch : Ch S S' s s' O O' a a' w w' T)
    {n : Nat} {w0 : World} {O0 : OMap} (inv : Inv S s n w0 O0 a w O) (hn : ∀ i, T i → i < n) (hsz : a'.tmps.size = n) (hsl : s'.length = n) (hd : a'.defers = [])
    (hf : Frame0 w0 O0 w' O') (hv : ∀ i, T i → VersOK S' i) (hb : ∀ i, T i → ∀ ty, (S' i).av = .box ty → get s' i ≠ .undef) (hc : ∀ i, T i → get s' i = .undef ∨ CellOK S' s' O' a' w' i)
    (hu : ∀ i, T i → (S' i).av = .val .sc → 0 < (S' i).d → get s' i = .undef → val a' i = undef) : Inv S' s' n w0 O0 a' w' O' where
  size := hsz
  slen := hsl
  defers := hd
  frame := hf
  vers i := by
    by_cases hi : T i
    · exact hv i hi
    · exact ch.versOK hi (inv.vers i)
  out i hi := by
    have : ¬T i := fun h => by have := hn i h; omega
    rw [(ch.same i this).1]; exact inv.out i hi
  boxes i ty h := by
    by_cases ht : T i
    · exact hb i ht ty h
    · rw [(ch.same i ht).1] at h; rw [(ch.same i ht).2.1]; exact inv.boxes i ty h
  cell i hi := by
    by_cases ht : T i
    · exact hc i ht
    · rcases inv.cell i hi with h | h
      · left; rw [(ch.same i ht).2.1]; exact h
      · right; exact ch.cell inv ht h
  und i h1 h2 h3 := by
    by_cases ht : T i
    · exact hu i ht h1 h2 h3
    · rw [(ch.same i ht).1] at h1 h2; rw [(ch.same i ht).2.1] at h3; rw [(ch.same i ht).2.2]; exact inv.und i h1 h2 h3

end Go.Vm

/-
  Reading operands, and defining a temporary.
  Conditions: none.
-/
set_option linter.unusedVariables false
set_option linter.unusedSimpArgs false
namespace Go.Vm

theorem get_set (s : St) (d : Nat) (x : PV) (i : Nat) (h : d < s.length) : get (s.set d x) i = if i = d then x else get s i := by
  unfold get
  by_cases hi : i = d
  · subst hi; simp [h]
  · rw [if_neg hi, List.getElem?_set_ne (fun e => hi e.symm)]

theorem val_put (a : Act) (d : Nat) (v : Value) (i : Nat) (h : d < a.tmps.size) : val (a.put (some d) v) i = if i = d then v else val a i := by
  unfold val
  simp only [Act.put]
  by_cases hi : i = d
  · subst hi; simp [h]
  · have hi' : ¬d = i := fun e => hi e.symm
    rw [if_neg hi]; simp [Array.getElem?_setIfInBounds, hi']

def defV (S : Vw) (d : Nat) (av : AV) : Vw := fun i => if i = d then ⟨av, (S d).c + 1, (S d).h + 1, (S d).d + 1⟩ else S i

/-- the memory has grown, and what was there is as it was, but for what `d` owns -/
structure Grown (w w' : World) (O O' : OMap) (d : Nat) : Prop where
  os : w'.os = w.os
  output : w'.output = w.output
  tape : w'.tape = w.tape
  size : w.heap.size ≤ w'.heap.size
  lab : ∀ b, b < w.heap.size → (O' b = O b ∧ w'.heap[b]? = w.heap[b]?) ∨ (∃ p, O b = some (.own (some d) p)) ∨ O b = some (.box d)
  alloc : ∀ b, w'.heap.size ≤ b → O' b = some .foreign

theorem Frame0.grown {w0 : World} {O0 : OMap} {w w' : World} {O O' : OMap} {d : Nat} (h : Frame0 w0 O0 w O) (g : Grown w w' O O' d) : Frame0 w0 O0 w' O' where
  os := g.os.trans h.os
  output := g.output.trans h.output
  tape := g.tape.trans h.tape
  size := Nat.le_trans h.size g.size
  heap b hb ho := by
    have h1 := h.heap b hb ho
    have hb' : b < w.heap.size := Nat.lt_of_lt_of_le hb h.size
    rcases g.lab b hb' with h2 | ⟨p, h2⟩ | h2
    · exact ⟨h2.2.trans h1.1, h2.1.trans h1.2⟩
    · rw [h1.2] at h2; rcases ho with ho | ho <;> rw [ho] at h2 <;> cases h2
    · rw [h1.2] at h2; rcases ho with ho | ho <;> rw [ho] at h2 <;> cases h2
  alloc := g.alloc

theorem Grown.refl {w : World} {O : OMap} (d : Nat) (h : ∀ b, w.heap.size ≤ b → O b = some .foreign) : Grown w w O O d :=
  ⟨rfl, rfl, rfl, Nat.le_refl _, fun _ _ => .inl ⟨rfl, rfl⟩, h⟩

theorem label_lt {w : World} {O : OMap} (h : ∀ b, w.heap.size ≤ b → O b = some .foreign) {b : Nat} (hb : O b ≠ some .foreign) : b < w.heap.size := by
  rcases Nat.lt_or_ge b w.heap.size with h' | h'
  · exact h'
  · exact absurd (h b h') hb

theorem Grown.keeps {w w' : World} {O O' : OMap} {d : Nat} (g : Grown w w' O O' d) (h : ∀ b, w.heap.size ≤ b → O b = some .foreign) : Keeps w O w' O' := fun b hb => by
  have hlt := label_lt h (b := b) (by rw [hb]; simp)
  rcases g.lab b hlt with h2 | ⟨p, h2⟩ | h2
  · exact ⟨h2.1.trans hb, h2.2⟩
  · rw [hb] at h2; cases h2
  · rw [hb] at h2; cases h2

/-- **A temporary is defined**, in memory that may have grown. -/
theorem Inv.define {S : Vw} {s : St} {n : Nat} {w0 : World} {O0 : OMap} {a : Act} {w : World} {O : OMap} (inv : Inv S s n w0 O0 a w O)
    {d : Nat} (hd : d < n) {w' : World} {O' : OMap} (g : Grown w w' O O' d) (av : AV) (x : PV) (v : Value)
    (hv : VersOK (defV S d av) d) (hb : x = .undef → isBoxAV av = false) (hc : (x = .undef ∧ v = undef) ∨ CellOK (defV S d av) (s.set d x) O' (a.put (some d) v) w' d) :
    Inv (defV S d av) (s.set d x) n w0 O0 (a.put (some d) v) w' O' := by
  have hal := inv.frame.alloc
  have ch : Ch S (defV S d av) s (s.set d x) O O' a (a.put (some d) v) w w' (· = d) := by
    refine ⟨g.keeps hal, fun b r p hb hr => ?_, fun b r hb hr => ?_, fun i hi => ?_, fun i hi => ?_, fun i hi h => ?_, fun i hi h => ?_⟩
    · have hlt := label_lt hal (b := b) (by rw [hb]; simp)
      rcases g.lab b hlt with h2 | ⟨p', h2⟩ | h2
      · exact h2
      · rw [hb] at h2; cases h2; exact absurd rfl hr
      · rw [hb] at h2; cases h2
    · have hlt := label_lt hal (b := b) (by rw [hb]; simp)
      rcases g.lab b hlt with h2 | ⟨p', h2⟩ | h2
      · exact h2
      · rw [hb] at h2; cases h2
      · rw [hb] at h2; cases h2; exact absurd rfl hr
    · refine ⟨by simp [defV, hi], ?_, ?_⟩
      · rw [get_set _ _ _ _ (by rw [inv.slen]; exact hd), if_neg hi]
      · rw [val_put _ _ _ _ (by rw [inv.size]; exact hd), if_neg hi]
    · subst hi; simp [defV]
    · subst hi; simp [defV] at h
    · subst hi; simp [defV] at h
  refine ch.inv inv (fun i hi => by subst hi; exact hd) (by simp [Act.put, inv.size]) (by simp [inv.slen]) (by simp [Act.put, inv.defers]) (inv.frame.grown g) (fun i hi => by subst hi; exact hv) ?_ ?_ ?_
  · intro i hi ty ht
    subst hi
    rw [get_set _ _ _ _ (by rw [inv.slen]; exact hd), if_pos rfl]
    intro hx
    have := hb hx
    simp [defV] at ht
    rw [ht] at this; cases this
  · intro i hi
    subst hi
    rw [get_set _ _ _ _ (by rw [inv.slen]; exact hd), if_pos rfl]
    exact hc.imp And.left id
  · intro i hi hav _ hx
    subst hi
    rw [get_set _ _ _ _ (by rw [inv.slen]; exact hd), if_pos rfl] at hx
    rw [val_put _ _ _ _ (by rw [inv.size]; exact hd), if_pos rfl]
    rcases hc with hc | hc
    · exact hc.2
    · unfold CellOK at hc
      rw [hav] at hc
      simp only [] at hc
      obtain ⟨cs, _, h⟩ := hc
      rw [get_set _ _ _ _ (by rw [inv.slen]; exact hd), if_pos rfl, hx] at h
      simp [Rep, ScRep] at h

/-! ### views -/
/-- a view that hides some temporaries -/
def Sub (S0 S : Vw) : Prop := ∀ i, S0 i = S i ∨ S0 i = default

theorem Sub.alive {S0 S : Vw} (h : Sub S0 S) {i : Nat} (ha : (S0 i).av ≠ .dead) : S0 i = S i :=
  (h i).resolve_right fun e => ha (by rw [e]; rfl)

theorem alive_ne {e : En} (h : Vm.alive e = true) : e.av ≠ .dead := by
  intro hd; simp [Vm.alive, hd] at h

theorem restrict_sub (S : Vw) (m : Nat) : Sub (restrict S m) S := fun i => by
  unfold restrict; split
  · exact .inl rfl
  · exact .inr rfl

/-! ### operands -/
theorem eval_tmp (a : Act) (i : Nat) : a.eval (.tmp i) = val a i := rfl

/-- what a read operand gives: cells that hold the value, under the labels of its root -/
def OrgRep (w : World) (O : OMap) (org : Org) (ty : Ty) (x : PV) (cs : List Value) : Prop := match org with
  | some (r, pos, _) => Rep w O (some r) ty pos x cs
  | none => ∀ ρ p, Rep w O ρ ty p x cs

theorem constPV_rep {w : World} {O : OMap} {v : Value} {x : PV} (h : constPV v = some x) (hx : ∀ nl xs, x ≠ .slice nl xs) (ρ : Option Nat) (p : Nat) :
    Rep w O ρ .sc p x [v] ∧ Wrap .sc v [v] := by
  cases v <;> simp only [constPV] at h <;> try (first | cases h | skip)
  · simp [Rep, ScRep, Wrap]
  · simp [Rep, ScRep, Wrap]
  · simp [Rep, ScRep, Wrap]
  · rename_i a len cap
    cases a <;> cases len <;> cases cap <;> simp at h
    exact absurd h.symm (hx _ _)

theorem undef_ne {s : St} {i : Nat} {x : PV} (h : VX.eval s (.tmp i) = some x) : get s i ≠ .undef ∧ get s i = x := by
  simp only [VX.eval, have?] at h
  cases hg : get s i <;> rw [hg] at h <;> simp at h <;> exact ⟨by simp, h⟩

theorem rd_sound {P : Program} {S0 S : Vw} {s : St} {n : Nat} {w0 : World} {O0 : OMap} {a : Act} {w : World} {O : OMap} (hS : Sub S0 S) (inv : Inv S s n w0 O0 a w O)
    {t : TypeId} {x : Operand} {vx : VX} {ty : Ty} {org : Org} (h : rd P S0 t x = some (vx, ty, org)) {pv : PV} (he : vx.eval s = some pv) :
    ∃ cs, Wrap ty (a.eval x) cs ∧ OrgRep w O org ty pv cs ∧ ty.noDead = true := by
  cases x with
  | tmp i =>
    simp only [rd] at h
    have hal : (S0 i).av ≠ .dead := by intro hd; simp [hd] at h
    have hSi := hS.alive hal
    rw [hSi] at h
    have hlt := lt_of_alive inv (by rw [← hSi]; exact hal)
    cases hav : (S i).av <;> rw [hav] at h <;> simp at h
    case val ty0 =>
      obtain ⟨h0, rfl, rfl, rfl⟩ := h
      obtain ⟨h1, rfl⟩ := undef_ne he
      have := (inv.cell i hlt).resolve_left h1
      simp only [CellOK, hav] at this
      obtain ⟨cs, h2, h3⟩ := this
      exact ⟨cs, h2, h3, h0⟩
    case alias ty0 r pos p c =>
      obtain ⟨⟨⟨h0, h00⟩, h01⟩, rfl, rfl, rfl⟩ := h
      obtain ⟨h1, rfl⟩ := undef_ne he
      have hr := hS.alive (alive_ne h01)
      have := (inv.cell i hlt).resolve_left h1
      simp only [CellOK, hav] at this
      obtain ⟨cs, h2, h3, _⟩ := this (by rw [← hr]; exact h00)
      exact ⟨cs, h2, h3, h0⟩
  | const v =>
    simp only [rd, Option.bind_eq_some_iff] at h
    obtain ⟨x, hx, h⟩ := h
    cases x with
    | slice nl xs =>
      simp only [Option.bind_eq_some_iff] at h
      obtain ⟨ty0, _, h⟩ := h
      cases ty0 <;> simp at h
      obtain ⟨rfl, rfl, rfl⟩ := h
      simp only [VX.eval, Option.some.injEq] at he; subst he
      cases v <;> simp only [constPV] at hx <;> try (first | cases hx | skip)
      rename_i a len cap
      cases a <;> cases len <;> cases cap <;> simp at hx
      obtain ⟨rfl, rfl⟩ := hx
      refine ⟨[.slice none 0 0], rfl, fun ρ p => ?_, rfl⟩
      simp only [Rep, SlRep, OwnSl]
      exact ⟨true, [], rfl, .inl (by simp)⟩
    | _ =>
      simp at h
      obtain ⟨rfl, rfl, rfl⟩ := h
      simp only [VX.eval, Option.some.injEq] at he; subst he
      have := fun ρ p => constPV_rep (w := w) (O := O) hx (by simp) ρ p
      exact ⟨[v], (this none 0).2, fun ρ p => (this ρ p).1, rfl⟩
  | global g => simp [rd] at h
  | func f => simp [rd] at h

/-- a value that is held by anybody can be read as if held by the first -/
theorem OrgRep.some' {w : World} {O : OMap} {org : Org} {ty : Ty} {x : PV} {cs : List Value} (h : OrgRep w O org ty x cs) : ∃ ρ p, Rep w O ρ ty p x cs := by
  cases org with
  | none => exact ⟨none, 0, h none 0⟩
  | some o => obtain ⟨r, pos, q⟩ := o; exact ⟨_, _, h⟩

/-! ### scalars: the value tells the machine's -/
theorem Rep.int {w : World} {O : OMap} {ρ : Option Nat} {ty : Ty} {p : Nat} {k : IntKind} {m : Int} {cs : List Value} (hd : ty.noDead = true)
    (h : Rep w O ρ ty p (.int k m) cs) : ty = .sc ∧ cs = [.int k m] := by
  cases ty with
  | sc => exact ⟨rfl, by simpa only [Rep, ScRep] using h⟩
  | agg l => simp only [Rep] at h; obtain ⟨xs, h, _⟩ := h; cases h
  | sl md e =>
    simp only [Ty.noDead, Ty.all] at hd
    simp only [Rep] at h
    cases md <;> simp [SlRep, RepSh, OwnSl] at h hd

theorem Rep.bool {w : World} {O : OMap} {ρ : Option Nat} {ty : Ty} {p : Nat} {b : Bool} {cs : List Value} (hd : ty.noDead = true)
    (h : Rep w O ρ ty p (.bool b) cs) : ty = .sc ∧ cs = [.bool b] := by
  cases ty with
  | sc => exact ⟨rfl, by simpa only [Rep, ScRep] using h⟩
  | agg l => simp only [Rep] at h; obtain ⟨xs, h, _⟩ := h; cases h
  | sl md e =>
    simp only [Ty.noDead, Ty.all] at hd
    simp only [Rep] at h
    cases md <;> simp [SlRep, RepSh, OwnSl] at h hd

theorem Rep.str {w : World} {O : OMap} {ρ : Option Nat} {ty : Ty} {p : Nat} {b : List UInt8} {cs : List Value} (hd : ty.noDead = true)
    (h : Rep w O ρ ty p (.str b) cs) : ty = .sc ∧ cs = [.string ⟨b.toArray⟩] := by
  cases ty with
  | sc => exact ⟨rfl, by simpa only [Rep, ScRep] using h⟩
  | agg l => simp only [Rep] at h; obtain ⟨xs, h, _⟩ := h; cases h
  | sl md e =>
    simp only [Ty.noDead, Ty.all] at hd
    simp only [Rep] at h
    cases md <;> simp [SlRep, RepSh, OwnSl] at h hd

section
variable {P : Program} {S0 S : Vw} {s : St} {n : Nat} {w0 : World} {O0 : OMap} {a : Act} {w : World} {O : OMap} {t : TypeId} {x : Operand} {vx : VX} {ty : Ty} {org : Org}

theorem rd_int (hS : Sub S0 S) (inv : Inv S s n w0 O0 a w O) (h : rd P S0 t x = some (vx, ty, org)) {k : IntKind} {m : Int} (he : vx.eval s = some (.int k m)) : a.eval x = .int k m := by
  obtain ⟨cs, h1, h2, h3⟩ := rd_sound hS inv h he
  obtain ⟨ρ, p, h2⟩ := h2.some'
  obtain ⟨rfl, rfl⟩ := Rep.int h3 h2
  simp only [Wrap] at h1
  exact (List.cons.inj h1).1.symm

theorem rd_bool (hS : Sub S0 S) (inv : Inv S s n w0 O0 a w O) (h : rd P S0 t x = some (vx, ty, org)) {b : Bool} (he : vx.eval s = some (.bool b)) : a.eval x = .bool b := by
  obtain ⟨cs, h1, h2, h3⟩ := rd_sound hS inv h he
  obtain ⟨ρ, p, h2⟩ := h2.some'
  obtain ⟨rfl, rfl⟩ := Rep.bool h3 h2
  simp only [Wrap] at h1
  exact (List.cons.inj h1).1.symm

theorem rd_str (hS : Sub S0 S) (inv : Inv S s n w0 O0 a w O) (h : rd P S0 t x = some (vx, ty, org)) {b : List UInt8} (he : vx.eval s = some (.str b)) : a.eval x = .string ⟨b.toArray⟩ := by
  obtain ⟨cs, h1, h2, h3⟩ := rd_sound hS inv h he
  obtain ⟨ρ, p, h2⟩ := h2.some'
  obtain ⟨rfl, rfl⟩ := Rep.str h3 h2
  simp only [Wrap] at h1
  exact (List.cons.inj h1).1.symm
end

/-- a scalar is defined -/
theorem Inv.scalar {S : Vw} {s : St} {n : Nat} {w0 : World} {O0 : OMap} {a : Act} {w : World} {O : OMap} (inv : Inv S s n w0 O0 a w O) {d : Nat} (hd : d < n) {x : PV} {v : Value}
    (h : ScRep x [v]) : Inv (defV S d (.val .sc)) (s.set d x) n w0 O0 (a.put (some d) v) w O := by
  refine inv.define hd (Grown.refl d inv.frame.alloc) _ _ _ (by simp [VersOK, defV]) (fun _ => rfl) (.inr ?_)
  simp only [CellOK, defV, if_pos]
  refine ⟨[v], ?_, ?_⟩
  · rw [val_put _ _ _ _ (by rw [inv.size]; exact hd), if_pos rfl]; rfl
  · rw [get_set _ _ _ _ (by rw [inv.slen]; exact hd), if_pos rfl]; simpa only [Rep] using h

end Go.Vm

/-
  Types of the program and their shapes.
  Conditions: none.
-/
set_option linter.unusedVariables false
set_option linter.unusedSimpArgs false
namespace Go.Vm

theorem if_some {c : Prop} [Decidable c] {α : Type} {x : Option α} {y : α} (h : (if c then x else none) = some y) : c ∧ x = some y := by
  split at h
  · exact ⟨by assumption, h⟩
  · cases h

mutual
theorem Ty.beq_eq : ∀ {a b : Ty}, a.beq b = true → a = b
  | .sc, .sc, _ => rfl
  | .agg l, .agg k, h => by simp only [Ty.beq] at h; rw [Ty.beqs_eq h]
  | .sl m e, .sl m' e', h => by
    simp only [Ty.beq, Bool.and_eq_true, decide_eq_true_eq] at h
    rw [h.1, Ty.beq_eq h.2]
  | .sc, .agg _, h => by simp [Ty.beq] at h
  | .sc, .sl _ _, h => by simp [Ty.beq] at h
  | .agg _, .sc, h => by simp [Ty.beq] at h
  | .agg _, .sl _ _, h => by simp [Ty.beq] at h
  | .sl _ _, .sc, h => by simp [Ty.beq] at h
  | .sl _ _, .agg _, h => by simp [Ty.beq] at h
theorem Ty.beqs_eq : ∀ {a b : List Ty}, Ty.beqs a b = true → a = b
  | [], [], _ => rfl
  | x :: xs, y :: ys, h => by
    simp only [Ty.beqs, Bool.and_eq_true] at h
    rw [Ty.beq_eq h.1, Ty.beqs_eq h.2]
  | [], _ :: _, h => by simp [Ty.beqs] at h
  | _ :: _, [], h => by simp [Ty.beqs] at h
end

/-- what `tyz` says of a type, at the first level -/
inductive TyAt (P : Program) (k : Nat) (t : TypeId) (i : TypeInfo) : Ty → PV → Prop
  | bool : P.underlying t = some .bool → TyAt P k t i .sc (.bool false)
  | int (kk) : P.underlying t = some (.int kk) → TyAt P k t i .sc (.int kk 0)
  | str : P.underlying t = some .string → TyAt P k t i .sc (.str [])
  | slice (e te z) : P.underlying t = some (.slice e) → tyz P k e = some (te, z) → 0 < te.size → TyAt P k t i (.sl .sh te) (.slice true [])
  | array (m e te z) : P.underlying t = some (.array m e) → tyz P k e = some (te, z) → TyAt P k t i (.agg (List.replicate m te)) (.agg (List.replicate m z))
  | struct (fs ts zs) : P.underlying t = some (.struct fs) →
      (fs.toList.foldl (fun acc f => acc.bind fun (ts, zs) => (tyz P k f.type).bind fun (tf, z) =>
            if f.offset = Ty.sizes ts then some (ts ++ [tf], zs ++ [z]) else none) (some ([], []))) = some (ts, zs) → TyAt P k t i (.agg ts) (.agg zs)

theorem tyz_succ {P : Program} {k : Nat} {t : TypeId} {ty : Ty} {z : PV} (h : tyz P (k + 1) t = some (ty, z)) :
    ∃ i v, P.info? t = some i ∧ i.size = ty.size ∧ i.zero = some v ∧ matchCells z v.cells.toList = some [] ∧ TyAt P k t i ty z := by
  unfold tyz at h
  split at h
  case h_2 => cases h
  case h_1 i u hi hu =>
    simp only [Option.bind_eq_some_iff] at h
    obtain ⟨⟨ty', z'⟩, h1, h2⟩ := h
    split at h2
    case isFalse => cases h2
    case isTrue hsz =>
      split at h2
      case h_2 => cases h2
      case h_1 v hz =>
        simp only [Option.bind_eq_some_iff] at h2
        obtain ⟨rest, h3, h4⟩ := h2
        split at h4
        case isFalse => cases h4
        case isTrue hr =>
          cases h4
          have : rest = [] := by simpa using hr
          subst this
          refine ⟨i, v, hi, hsz, hz, h3, ?_⟩
          split at h1
          · cases h1; exact .bool hu
          · cases h1; exact .int _ hu
          · cases h1; exact .str hu
          · simp only [Option.bind_eq_some_iff] at h1
            obtain ⟨⟨te, z⟩, h5, h6⟩ := h1
            simp only [] at h6
            split at h6
            · cases h6; exact .slice _ te z hu h5 (by assumption)
            · cases h6
          · simp only [Option.map_eq_some_iff] at h1
            obtain ⟨⟨te, z⟩, h5, h6⟩ := h1
            cases h6
            exact .array _ _ te z hu h5
          · simp only [Option.map_eq_some_iff] at h1
            obtain ⟨⟨ts, zs⟩, h5, h6⟩ := h1
            cases h6
            exact .struct _ ts zs hu h5
          · cases h1

theorem tyOf_some {P : Program} {t : TypeId} {ty : Ty} (h : tyOf P t = some ty) : ∃ z, tyz P depth t = some (ty, z) := by
  simp only [tyOf, Option.map_eq_some_iff] at h
  obtain ⟨⟨ty', z⟩, h1, rfl⟩ := h
  exact ⟨z, h1⟩

theorem tyOf_at {P : Program} {t : TypeId} {ty : Ty} (h : tyOf P t = some ty) : ∃ i v z, P.info? t = some i ∧ i.size = ty.size ∧ i.zero = some v ∧ matchCells z v.cells.toList = some [] ∧ TyAt P 11 t i ty z := by
  obtain ⟨z, h⟩ := tyOf_some h
  obtain ⟨i, v, h⟩ := tyz_succ h
  exact ⟨i, v, z, h⟩

theorem matchesTy_some {P : Program} {t : TypeId} {ty : Ty} (h : matchesTy P t ty = true) : tyOf P t = some ty.sh := by
  unfold matchesTy at h
  cases hu : tyOf P t with
  | none => simp [hu] at h
  | some u =>
    simp [hu] at h
    rw [Ty.beq_eq h]

theorem isAgg_er {t u : Ty} (h : t.er = u.er) : t.isAgg = u.isAgg := by
  cases t <;> cases u <;> simp [Ty.er, Ty.modAt] at h <;> rfl

theorem sh_er (t : Ty) : t.sh.er = t.er := Ty.er_modAt _ t

theorem run_isAgg_ty {P : Program} {w : World} {t : TypeId} {ty : Ty} (h : tyOf P t = some ty) : (isAgg t).run P w = .ok ty.isAgg w := by
  obtain ⟨i, v, z, hi, hs, hz, hm, h⟩ := tyOf_at h
  unfold Go.isAgg
  cases h with
  | bool hu => simp [Sem.run_bind, run_underlying hu]; rfl
  | int k hu => simp [Sem.run_bind, run_underlying hu]; rfl
  | str hu => simp [Sem.run_bind, run_underlying hu]; rfl
  | slice e te z hu => simp [Sem.run_bind, run_underlying hu]; rfl
  | array m e te z hu => simp [Sem.run_bind, run_underlying hu]; rfl
  | struct fs ts zs hu => simp [Sem.run_bind, run_underlying hu]; rfl

theorem run_sizeOf_ty {P : Program} {w : World} {t : TypeId} {ty : Ty} (h : tyOf P t = some ty) : (sizeOf t).run P w = .ok ty.size w := by
  obtain ⟨i, v, z, hi, hs, hz, hm, h⟩ := tyOf_at h
  simp [Go.sizeOf, typeInfo, hi, hs]

theorem isSlice_some {P : Program} {t e : TypeId} (h : isSlice P t = some e) : P.underlying t = some (.slice e) := by
  unfold isSlice at h; split at h <;> simp_all
theorem isArray_some {P : Program} {t : TypeId} {m : Nat} {e : TypeId} (h : isArray P t = some (m, e)) : P.underlying t = some (.array m e) := by
  unfold isArray at h; split at h <;> simp_all
theorem isString_true {P : Program} {t : TypeId} (h : isString P t = true) : P.underlying t = some .string := by
  unfold isString at h; split at h <;> simp_all
theorem isInt_some {P : Program} {t : TypeId} {k : IntKind} (h : isInt P t = some k) : P.underlying t = some (.int k) := by
  unfold isInt at h; split at h <;> simp_all
theorem isStruct_true {P : Program} {t : TypeId} (h : isStruct P t = true) : ∃ fs, P.underlying t = some (.struct fs) := by
  unfold isStruct at h; split at h <;> simp_all

/-- the shape of a slice type -/
theorem slice_ty {P : Program} {t e : TypeId} {ty : Ty} (h : tyOf P t = some ty) (hu : P.underlying t = some (.slice e)) :
    ∃ te z, ty = .sl .sh te ∧ tyz P 11 e = some (te, z) ∧ 0 < te.size := by
  obtain ⟨i, v, z, hi, hs, hz, hm, h⟩ := tyOf_at h
  cases h with
  | slice e te z hu' h1 h2 => rw [hu] at hu'; cases hu'; exact ⟨te, z, rfl, h1, h2⟩
  | bool hu' => rw [hu] at hu'; cases hu'
  | int k hu' => rw [hu] at hu'; cases hu'
  | str hu' => rw [hu] at hu'; cases hu'
  | array m e te z hu' => rw [hu] at hu'; cases hu'
  | struct fs ts zs hu' => rw [hu] at hu'; cases hu'

theorem array_ty {P : Program} {t e : TypeId} {m : Nat} {ty : Ty} (h : tyOf P t = some ty) (hu : P.underlying t = some (.array m e)) :
    ∃ te z, ty = .agg (List.replicate m te) ∧ tyz P 11 e = some (te, z) := by
  obtain ⟨i, v, z, hi, hs, hz, hm, h⟩ := tyOf_at h
  cases h with
  | array m e te z hu' h1 => rw [hu] at hu'; cases hu'; exact ⟨te, z, rfl, h1⟩
  | bool hu' => rw [hu] at hu'; cases hu'
  | int k hu' => rw [hu] at hu'; cases hu'
  | str hu' => rw [hu] at hu'; cases hu'
  | slice e te z hu' => rw [hu] at hu'; cases hu'
  | struct fs ts zs hu' => rw [hu] at hu'; cases hu'

theorem scalar_ty {P : Program} {t : TypeId} {ty : Ty} {u : TypeDesc} (h : tyOf P t = some ty) (hu : P.underlying t = some u) (hs : (match u with | .bool | .int _ | .string => true | _ => false) = true) : ty = .sc := by
  obtain ⟨i, v, z, hi, hs', hz, hm, h⟩ := tyOf_at h
  cases h with
  | array m e te z hu' h1 => rw [hu] at hu'; cases hu'; cases hs
  | bool hu' => rfl
  | int k hu' => rfl
  | str hu' => rfl
  | slice e te z hu' => rw [hu] at hu'; cases hu'; cases hs
  | struct fs ts zs hu' => rw [hu] at hu'; cases hu'; cases hs

theorem sh_sc {t : Ty} (h : t.sh = .sc) : t = .sc := by cases t <;> simp [Ty.sh, Ty.modAt] at h; rfl
theorem sh_sl {t : Ty} {m : Md} {e : Ty} (h : t.sh = .sl m e) : ∃ m', t = .sl m' e := by
  cases t <;> simp [Ty.sh, Ty.modAt] at h
  exact ⟨_, by rw [h.2]⟩
theorem sh_agg {t : Ty} {l : List Ty} (h : t.sh = .agg l) : ∃ l', t = .agg l' := by
  cases t <;> simp [Ty.sh, Ty.modAt] at h
  exact ⟨_, rfl⟩

theorem fold_none {P : Program} {k : Nat} : ∀ (fs : List Field), fs.foldl (fun (acc : Option (List Ty × List PV)) f => acc.bind fun (ts, zs) => (tyz P k f.type).bind fun (tf, z) =>
            if f.offset = Ty.sizes ts then some (ts ++ [tf], zs ++ [z]) else none) none = none
  | [] => rfl
  | f :: fs => by simp only [List.foldl_cons, Option.bind_none]; exact fold_none fs

theorem sizes_append : ∀ (l k : List Ty), Ty.sizes (l ++ k) = Ty.sizes l + Ty.sizes k
  | [], k => by simp [Ty.sizes]
  | t :: l, k => by simp only [List.cons_append, Ty.sizes]; rw [sizes_append l k]; omega

theorem fold_struct {P : Program} {k : Nat} : ∀ (fs : List Field) (ts : List Ty) (zs : List PV) (ts' : List Ty) (zs' : List PV),
    fs.foldl (fun (acc : Option (List Ty × List PV)) f => acc.bind fun (ts, zs) => (tyz P k f.type).bind fun (tf, z) =>
            if f.offset = Ty.sizes ts then some (ts ++ [tf], zs ++ [z]) else none) (some (ts, zs)) = some (ts', zs') →
    ∃ t2 z2, ts' = ts ++ t2 ∧ zs' = zs ++ z2 ∧ t2.length = fs.length ∧ z2.length = fs.length ∧
      ∀ i f, fs[i]? = some f → ∃ tf z, tyz P k f.type = some (tf, z) ∧ t2[i]? = some tf ∧ z2[i]? = some z ∧ f.offset = Ty.sizes ts + Ty.sizes (t2.take i)
  | [], ts, zs, ts', zs', h => by
    simp at h; obtain ⟨rfl, rfl⟩ := h
    exact ⟨[], [], by simp, by simp, rfl, rfl, fun i f hf => by simp at hf⟩
  | f :: fs, ts, zs, ts', zs', h => by
    simp only [List.foldl_cons, Option.bind_some] at h
    cases hf : tyz P k f.type with
    | none => rw [hf] at h; simp only [Option.bind_none] at h; rw [fold_none] at h; cases h
    | some tz =>
      obtain ⟨tf, z⟩ := tz
      rw [hf] at h
      simp only [Option.bind_some] at h
      split at h
      case isFalse => rw [fold_none] at h; cases h
      case isTrue hoff =>
        obtain ⟨t2, z2, rfl, rfl, h1, h2, h3⟩ := fold_struct fs _ _ _ _ h
        refine ⟨tf :: t2, z :: z2, by simp, by simp, by simp [h1], by simp [h2], fun i g hg => ?_⟩
        cases i with
        | zero =>
          simp at hg; subst hg
          exact ⟨tf, z, hf, rfl, rfl, by simp [Ty.sizes, hoff]⟩
        | succ i =>
          simp only [List.getElem?_cons_succ] at hg
          obtain ⟨tf', z', g1, g2, g3, g4⟩ := h3 i g hg
          refine ⟨tf', z', g1, by simpa using g2, by simpa using g3, ?_⟩
          rw [g4, sizes_append]
          simp only [List.take_succ_cons, Ty.sizes]; omega

/-- the fields of a struct type -/
theorem struct_ty {P : Program} {t : TypeId} {fs : Array Field} {ty : Ty} (h : tyOf P t = some ty) (hu : P.underlying t = some (.struct fs)) :
    ∃ l, ty = .agg l ∧ l.length = fs.size ∧ ∀ (i : Nat) (f : Field), fs[i]? = some f → ∃ tf z, tyz P 11 f.type = some (tf, z) ∧ l[i]? = some tf ∧ f.offset = Ty.sizes (l.take i) := by
  obtain ⟨i, v, z, hi, hs, hz, hm, h⟩ := tyOf_at h
  cases h with
  | array m e te z hu' h1 => rw [hu] at hu'; cases hu'
  | bool hu' => rw [hu] at hu'; cases hu'
  | int k hu' => rw [hu] at hu'; cases hu'
  | str hu' => rw [hu] at hu'; cases hu'
  | slice e te z hu' => rw [hu] at hu'; cases hu'
  | struct fs' ts zs hu' h1 =>
    rw [hu] at hu'; cases hu'
    obtain ⟨t2, z2, rfl, rfl, h2, h3, h4⟩ := fold_struct _ _ _ _ _ h1
    refine ⟨_, rfl, by simpa using h2, fun i f hf => ?_⟩
    obtain ⟨tf, z, g1, g2, g3, g4⟩ := h4 i f (by simpa using hf)
    exact ⟨tf, z, g1, by simpa using g2, by simpa [Ty.sizes] using g4⟩

theorem tyz_size {P : Program} {k : Nat} {w : World} {t : TypeId} {ty : Ty} {z : PV} (h : tyz P k t = some (ty, z)) : (sizeOf t).run P w = .ok ty.size w := by
  cases k with
  | zero => simp [tyz] at h
  | succ k =>
    obtain ⟨i, v, hi, hs, _⟩ := tyz_succ h
    simp [Go.sizeOf, typeInfo, hi, hs]

end Go.Vm
